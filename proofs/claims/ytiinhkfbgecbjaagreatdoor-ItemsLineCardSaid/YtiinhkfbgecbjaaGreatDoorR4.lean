/- The document's own escapes, as the program reads them. No condition. -/
import Derived.Test.YtiinhkfbgecbjaaGreatDoorR3
namespace Go.Proofs.YtiinhkfbgecbjaaGreatDoor
set_option linter.unusedSimpArgs false
set_option linter.unusedVariables false
open Go.RowKit Go.Sub

def escL : List UInt8 := [34, 92, 47, 98, 102, 110, 114, 116]
theorem escPlain_nat (c : UInt8) : escPlain c = decide (c.toNat = 34 ∨ c.toNat = 92 ∨ c.toNat = 47 ∨ c.toNat = 98 ∨ c.toNat = 102 ∨ c.toNat = 110 ∨ c.toNat = 114 ∨ c.toNat = 116) :=
  beq_iff_eq.1 (u8_all (p := fun c => escPlain c == decide (c.toNat = 34 ∨ c.toNat = 92 ∨ c.toNat = 47 ∨ c.toNat = 98 ∨ c.toNat = 102 ∨ c.toNat = 110 ∨ c.toNat = 114 ∨ c.toNat = 116)) (by decide +kernel) c)
/-- none of the first k of these signs -/
def NotYet (k n : Nat) : Prop := (0 < k → n ≠ 34) ∧ (1 < k → n ≠ 92) ∧ (2 < k → n ≠ 47) ∧ (3 < k → n ≠ 98) ∧ (4 < k → n ≠ 102) ∧ (5 < k → n ≠ 110) ∧ (6 < k → n ≠ 114) ∧ (7 < k → n ≠ 116)
def escS : ByteArray := ⟨#[34, 92, 47, 98, 102, 110, 114, 116]⟩
theorem lit_cases (k : Nat) (h : k < escS.size) : (k = 0 ∧ escS[k].toNat = 34) ∨ (k = 1 ∧ escS[k].toNat = 92) ∨ (k = 2 ∧ escS[k].toNat = 47) ∨ (k = 3 ∧ escS[k].toNat = 98) ∨ (k = 4 ∧ escS[k].toNat = 102) ∨ (k = 5 ∧ escS[k].toNat = 110) ∨ (k = 6 ∧ escS[k].toNat = 114) ∨ (k = 7 ∧ escS[k].toNat = 116) := by
  have h8 : k < 8 := h
  have hks : k = 0 ∨ k = 1 ∨ k = 2 ∨ k = 3 ∨ k = 4 ∨ k = 5 ∨ k = 6 ∨ k = 7 := by omega
  rcases hks with rfl | rfl | rfl | rfl | rfl | rfl | rfl | rfl <;> decide +revert
theorem lit_hit {k : Nat} (h : k < escS.size) {b : UInt8} (e : ((escS[k].toNat : Int) == (b.toNat : Int)) = true) : escPlain b = true := by
  rw [beq_iff_eq] at e
  rw [escPlain_nat, decide_eq_true_eq]
  have := lit_cases k h
  omega
theorem lit_miss {k n : Nat} (h : k < escS.size) (e : ((escS[k].toNat : Int) == (n : Int)) = false) (hn : NotYet k n) : NotYet (k + 1) n := by
  rw [beq_eq_false_iff_ne] at e
  have := lit_cases k h
  unfold NotYet at *
  omega
theorem esc_not {s : ByteArray} (h : 2 ≤ s.size) (h0 : (s[0] == 92) = false) : escN s.data.toList = 0 := by
  rw [cons2_of s h]
  show (if s[0] == 92 then _ else 0) = 0
  rw [if_neg (by rw [h0]; simp)]
theorem esc_short {s : ByteArray} (h : ¬ 2 ≤ s.size) : escN s.data.toList = 0 := by
  rw [Lib.size_eq] at h
  match s.data.toList, h with
  | [], _ => rfl
  | [_], _ => rfl
  | _ :: _ :: _, h => simp at h
theorem esc_plain {s : ByteArray} (h : 2 ≤ s.size) (h0 : (s[0] == 92) = true) (h1 : escPlain s[1] = true) : escN s.data.toList = 2 := by
  rw [cons2_of s h]
  show (if s[0] == 92 then (if escPlain s[1] then 2 else _) else 0) = 2
  rw [if_pos h0, if_pos h1]
theorem esc_rest {s : ByteArray} (h : 2 ≤ s.size) (h0 : (s[0] == 92) = true) (h1 : escPlain s[1] = false) : escN s.data.toList = if s[1] == 117 && runOf isHex ((s.data.toList.drop 2).take 4) == 4 then 6 else 0 := by
  rw [cons2_of s h]
  show (if s[0] == 92 then (if escPlain s[1] then 2 else if s[1] == 117 && runOf isHex ((s.data.toList.drop 2).take 4) == 4 then 6 else 0) else 0) = _
  rw [if_pos h0, if_neg (by rw [h1]; simp)]
  rfl
theorem hex_four {s : ByteArray} (h : 6 ≤ s.size) : (runOf isHex ((s.data.toList.drop 2).take 4) == 4) = (isHex s[2] && (isHex s[3] && (isHex s[4] && isHex s[5]))) := by
  have e : (s.data.toList.drop 2).take 4 = [s[2], s[3], s[4], s[5]] := by
    have hl : 6 ≤ s.data.toList.length := by rw [← Lib.size_eq]; exact h
    rw [List.drop_eq_getElem_cons (by omega), List.drop_eq_getElem_cons (by omega), List.drop_eq_getElem_cons (by omega), List.drop_eq_getElem_cons (by omega)]
    rfl
  rw [e]
  unfold runOf
  cases ha : isHex s[2] <;> cases hb : isHex s[3] <;> cases hc : isHex s[4] <;> cases hd : isHex s[5] <;> simp [ha, hb, hc, hd]
theorem hex_less {s : ByteArray} (h : ¬ 6 ≤ s.size) : (runOf isHex ((s.data.toList.drop 2).take 4) == 4) = false := by
  have h1 := runOf_le isHex ((s.data.toList.drop 2).take 4)
  rw [List.length_take, List.length_drop, ← Lib.size_eq] at h1
  rw [beq_eq_false_iff_ne]; omega

set_option maxHeartbeats 2000000 in
set_option maxRecDepth 20000 in
theorem rescape_calls (s : ByteArray) (w : World) (hs : s.size < 4611686018427387904) :
    Calls Tryz.prog 49 #[.string s] w fun e w' => e = .returned (.int .i64 (escN s.data.toList : Nat)) ∧ Below w.heap.size w w' := by
  by_cases hlt : 2 ≤ s.size
  · cases h0 : (s[0] == 92)
    · have He := Lib.hid (esc_not hlt h0)
      have y1 : ((s[0].toNat : Int) != 92) = true := byte_bne 92 h0
      have y2 : ((s[0].toNat : Int) = 92) = False := byte_ne 92 h0
      clear h0
      go_enter Tryz.func49, Tryz.ntmps49
      go_wp2
      go_ret
      exact ⟨by rw [He.out]; rfl, Below.refl _ _⟩
    · have H0 := Lib.hid h0
      have y1 : ((s[0].toNat : Int) != 92) = false := by rw [eq_of_beq h0]; rfl
      clear h0
      go_enter Tryz.func49, Tryz.ntmps49
      go_wp2
      go_loopw [3] (fun i wr => ∃ k : Nat, k ≤ 8 ∧ i = .int .i64 k ∧ Hid (NotYet k s[1].toNat) ∧ ∃ n, wr = w.drewN n) (fun i _ => 8 - (intOf i).toNat)
      case atStart => exact ⟨0, by omega, rfl, Lib.hid (by unfold NotYet; omega), 0, rfl⟩
      case round =>
        obtain ⟨k, hk, rfl, Hno, n, rfl⟩ := hrel
        clear y1
        have hB := below_drewN (Below.refl w.heap.size w) n
        have l1 : 1 < s.size := by omega
        have l2 : (1 : Int) < (s.size : Int) := by omega
        by_cases hk8 : k < 8
        · go_wp2
          go_quiet (fail)
          go_wp2
          · have hc : ((escS[k].toNat : Int) == (s[1].toNat : Int)) = true := by assumption
            have He := esc_plain hlt H0.out (lit_hit hk8 hc)
            go_ret
            exact ⟨by rw [He]; rfl, below_drewN hB _⟩
          · have hc : ((escS[k].toNat : Int) == (s[1].toNat : Int)) = false := by assumption
            go_roundw
            case rel => exact ⟨k + 1, by omega, by go_num, Lib.hid (lit_miss hk8 hc Hno.out), _, rfl⟩
            case measure => simp [intOf]; omega
        · obtain rfl : k = 8 := by omega
          have hp : escPlain s[1] = false := by rw [escPlain_nat, decide_eq_false_iff_not]; have := Hno.out; unfold NotYet at this; omega
          have he := esc_rest hlt H0.out hp
          clear hp Hno
          by_cases h6 : 6 ≤ s.size
          · rw [hex_four h6] at he
            cases hu : (s[1] == 117)
            · have y1 : ((s[1].toNat : Int) != 117) = true := byte_bne 117 hu
              have y2 : ((s[1].toNat : Int) = 117) = False := byte_ne 117 hu
              rw [hu] at he
              have He := Lib.hid he
              clear hu he
              go_wp2
              go_ret
              exact ⟨by rw [He.out]; rfl, hB⟩
            · have y1 : ((s[1].toNat : Int) != 117) = false := by rw [eq_of_beq hu]; rfl
              rw [hu] at he
              clear hu
              have H2 := rhex_calls s[2]
              have H3 := rhex_calls s[3]
              have H4 := rhex_calls s[4]
              have H5 := rhex_calls s[5]
              generalize isHex s[2] = x2 at *
              generalize isHex s[3] = x3 at *
              generalize isHex s[4] = x4 at *
              generalize isHex s[5] = x5 at *
              replace H2 := Lib.hid H2
              replace H3 := Lib.hid H3
              replace H4 := Lib.hid H4
              replace H5 := Lib.hid H5
              replace he := Lib.hid he
              cases x2
              · go_wp2_with (go_at_call 67; (first | with_reducible refine (H2.out _).mono ?_ | with_reducible refine (H3.out _).mono ?_ | with_reducible refine (H4.out _).mono ?_ | with_reducible refine (H5.out _).mono ?_); rintro e w' ⟨rfl, hw⟩; subst hw) 
                go_ret 
                exact ⟨by rw [he.out]; rfl, hB⟩
              · cases x3
                · go_wp2_with (go_at_call 67; (first | with_reducible refine (H2.out _).mono ?_ | with_reducible refine (H3.out _).mono ?_ | with_reducible refine (H4.out _).mono ?_ | with_reducible refine (H5.out _).mono ?_); rintro e w' ⟨rfl, hw⟩; subst hw) 
                  go_ret 
                  exact ⟨by rw [he.out]; rfl, hB⟩
                · cases x4
                  · go_wp2_with (go_at_call 67; (first | with_reducible refine (H2.out _).mono ?_ | with_reducible refine (H3.out _).mono ?_ | with_reducible refine (H4.out _).mono ?_ | with_reducible refine (H5.out _).mono ?_); rintro e w' ⟨rfl, hw⟩; subst hw) 
                    go_ret 
                    exact ⟨by rw [he.out]; rfl, hB⟩
                  · cases x5
                    · go_wp2_with (go_at_call 67; (first | with_reducible refine (H2.out _).mono ?_ | with_reducible refine (H3.out _).mono ?_ | with_reducible refine (H4.out _).mono ?_ | with_reducible refine (H5.out _).mono ?_); rintro e w' ⟨rfl, hw⟩; subst hw) 
                      go_ret 
                      exact ⟨by rw [he.out]; rfl, hB⟩
                    · go_wp2_with (go_at_call 67; (first | with_reducible refine (H2.out _).mono ?_ | with_reducible refine (H3.out _).mono ?_ | with_reducible refine (H4.out _).mono ?_ | with_reducible refine (H5.out _).mono ?_); rintro e w' ⟨rfl, hw⟩; subst hw) 
                      go_ret 
                      exact ⟨by rw [he.out]; rfl, hB⟩
          · rw [hex_less h6] at he
            rw [Bool.and_false] at he
            have He := Lib.hid he
            clear he
            cases hu : (s[1] == 117)
            · have y1 : ((s[1].toNat : Int) != 117) = true := byte_bne 117 hu
              have y2 : ((s[1].toNat : Int) = 117) = False := byte_ne 117 hu
              clear hu
              go_wp2
              go_ret
              exact ⟨by rw [He.out]; rfl, hB⟩
            · have y1 : ((s[1].toNat : Int) != 117) = false := by rw [eq_of_beq hu]; rfl
              clear hu
              go_wp2
              go_ret
              exact ⟨by rw [He.out]; rfl, hB⟩
  · have He := Lib.hid (esc_short hlt)
    go_enter Tryz.func49, Tryz.ntmps49
    go_wp2
    go_ret
    exact ⟨by rw [He.out]; rfl, Below.refl _ _⟩
end Go.Proofs.YtiinhkfbgecbjaaGreatDoor
