/- The law SignKeys, walked. The table of blanks being laid, and the choices' cells holding bytes. -/
import Derived.Test.YtpdkfofoeoakmaaDoorL10
import Derived.Test.YtpdkfofoeoakmaaDoorSg11
import Derived.BigQuiet
import Derived.Deep.QuietTactic
import Derived.WalkSmall
import Derived.Outline
namespace Go.Proofs.YtpdkfofoeoakmaaDoor
open Go.RowKit Go.Sub

def alphaL : List UInt8 := [97, 98, 100, 101, 102, 105, 110, 115, 116, 114, 99, 108, 104, 117, 109, 112, 111, 122, 107, 95]
theorem alpha_all : ∀ b ∈ alphaL, isLetter b = true := by decide +kernel
theorem ext_one' (D : ByteArray) (q : Nat) (h : q < D.size) : (D.extract q (q + 1)).data.toList = [D.data.toList.getD q 0] := by
  have hs := Lib.size_eq D
  rw [Lib.extract_data, Nat.add_sub_cancel_left, List.drop_eq_getElem_cons (by omega)]
  simp [List.getD_eq_getElem?_getD, List.getElem?_eq_getElem (show q < D.data.toList.length by omega)]

def digS : ByteArray := ⟨#[48, 49, 50, 51, 52, 53, 54, 55, 56, 57]⟩
theorem dig_at (q : Nat) (h : q < 10) : ∃ D : UInt8, isDigit D = true ∧ digS.extract q (q + 1) = ⟨#[D]⟩ := by
  have key : ∀ q < 10, isDigit (digS.data.toList.getD q 0) = true := by decide +kernel
  refine ⟨digS.data.toList.getD q 0, key q h, ?_⟩
  have e := ext_one' digS q (by show q < 10; exact h)
  rw [← Lib.mk_data (digS.extract q (q + 1)), e]
theorem allL_snoc {S : ByteArray} (h : AllL S.data.toList) (q : Nat) (hq : q < 20) : AllL (S ++ (⟨#[97, 98, 100, 101, 102, 105, 110, 115, 116, 114, 99, 108, 104, 117, 109, 112, 111, 122, 107, 95]⟩ : ByteArray).extract q (q + 1)).data.toList ∧ (S ++ (⟨#[97, 98, 100, 101, 102, 105, 110, 115, 116, 114, 99, 108, 104, 117, 109, 112, 111, 122, 107, 95]⟩ : ByteArray).extract q (q + 1)).size = S.size + 1 := by
  have key : ∀ q < 20, isLetter (alphaL.getD q 0) = true := by decide +kernel
  have e := ext_one' (⟨alphaL.toArray⟩ : ByteArray) q (by show q < 20; exact hq)
  have e' : ((⟨#[97, 98, 100, 101, 102, 105, 110, 115, 116, 114, 99, 108, 104, 117, 109, 112, 111, 122, 107, 95]⟩ : ByteArray).extract q (q + 1)).data.toList = [alphaL.getD q 0] := e
  constructor
  · intro b hb
    rw [ByteArray.data_append, Array.toList_append, e'] at hb
    rcases List.mem_append.1 hb with hb | hb
    · exact h b hb
    · simp only [List.mem_singleton] at hb; subst hb; exact key q hq
  · rw [ByteArray.size_append, Lib.size_eq (ByteArray.extract _ _ _), e']; rfl
def KeysEnd (w : World) (e : Ending) (w' : World) : Prop := e = .returned (.bool true) ∧ Below w.heap.size w w'


set_option maxRecDepth 100000 in
set_option maxHeartbeats 4000000 in
theorem keys_core (v : Value) (d : Int) (hd : 0 ≤ d ∧ d ≤ 255) (w : World) (hv : BytesV w v) (hT : TabX w) :
    Calls Tryd.prog 4 #[v, .int .u8 d] w fun e w' => e = .returned (.bool true) ∧ Below w.heap.size w w' := by
  obtain ⟨d0, d1⟩ := hd
  obtain ⟨q2, hq2⟩ : ∃ q : Nat, d % 10 = (q : Int) := ⟨(d % 10).toNat, by omega⟩
  have hq3 : q2 < 10 := by omega
  have hw2 : IntKind.u8.wrap ((q2 : Int) + 1) = (q2 : Int) + 1 := by exact wraps_u8 _ (by omega) (by omega)
  rcases hv with rfl | ⟨a, len, cap, rfl, hc, hl⟩
  · go_enter Tryd.func4, Tryd.ntmps4
    go_wp2
    go_loopw [5, 6] (fun v i wr => v = .string ⟨#[]⟩ ∧ i = .int .i64 0 ∧ wr = w) (fun _ i _ => 10 - (intOf i).toNat)
    case atStart => exact ⟨rfl, rfl, rfl⟩
    case round =>
      obtain ⟨rfl, rfl, rfl⟩ := hrel
      obtain ⟨R, hR⟩ : ∃ R : ByteArray, R = ⟨#[]⟩ := ⟨_, rfl⟩
      have hA : AllL R.data.toList := by rw [hR]; intro b hb; simp at hb
      have hs : R.size = 0 := by rw [hR]; rfl
      rw [← hR]
      have hB : Below wr.heap.size wr wr := Below.refl _ _
      clear hR
      obtain ⟨D, hD, hN⟩ := dig_at q2 (by omega) 
      obtain ⟨kk, c1, c2, c3, c4, c5, c6, c7⟩ := keys_facts R hA (by omega) D hD 
      rw [← hN] at c4 c5 c6 
      simp only [digS] at c4 c5 c6 
      by_cases h0 : R.size = 0 
      · obtain rfl : R = ByteArray.empty := ByteArray.size_eq_zero_iff.1 h0 
        simp only [ByteArray.append_empty, ByteArray.empty_append] at c4 c5 c6 c7 
        have C1 := Lib.hid c1; have C2 := Lib.hid c2; have C3 := Lib.hid c3; have C4 := Lib.hid c4; have C5 := Lib.hid c5; have C6 := Lib.hid c6; have C7 := Lib.hid c7 
        clear c1 c2 c3 c4 c5 c6 c7 hA hN 
        go_wp2_with (first 
          | (go_at_call 22; refine (known_calls _ hT).mono ?_; rintro e w' ⟨rfl, hb⟩; replace hT := hT.below hb; replace hB := hB.trans (hb.mono hB.size); clear hb) 
          | (go_at_call 19; with_reducible refine (C3.out _).mono ?_; rintro e w' ⟨rfl, rfl⟩) 
          | (go_at_call 23; (first | with_reducible refine (C1.out _ hT).mono ?_ | with_reducible refine (C4.out _ hT).mono ?_ | with_reducible refine (C5.out _ hT).mono ?_ | with_reducible refine (C7.out _ hT).mono ?_); rintro e w' ⟨rfl, hb⟩; replace hT := hT.below hb; replace hB := hB.trans (hb.mono hB.size); clear hb) 
          | (go_at_call 24; (first | with_reducible refine (C2.out _ hT).mono ?_ | with_reducible refine (C6.out _ hT).mono ?_); rintro e w' ⟨rfl, hb⟩; replace hT := hT.below hb; replace hB := hB.trans (hb.mono hB.size); clear hb)) 
        all_goals (go_ret; exact ⟨rfl, hB⟩) 
      · exact absurd hs h0
  · go_enter Tryd.func4, Tryd.ntmps4
    go_wp2
    go_loopw [5, 6] (fun v i wr => ∃ (k : Nat) (R : ByteArray), v = .string R ∧ i = .int .i64 k ∧ k ≤ 10 ∧ R.size = k ∧ AllL R.data.toList ∧ ∃ n, wr = w.drewN n) (fun _ i _ => 10 - (intOf i).toNat)
    case atStart => exact ⟨0, _, rfl, rfl, by omega, rfl, fun b hb => by simp at hb, 0, rfl⟩
    case round =>
      obtain ⟨k, R, rfl, rfl, hk, hR, hA, n, rfl⟩ := hrel
      by_cases hlt : k < len ∧ k < 10
      · obtain ⟨hl1, hl2⟩ := hlt
        obtain ⟨x, hx⟩ := hc k hl1
        clear hc hq2 hw2
        have hxl := x.toNat_lt
        obtain ⟨q, hq⟩ : ∃ q : Nat, (x.toNat : Int) % 20 = (q : Int) := ⟨x.toNat % 20, by omega⟩
        have hq2 : q < 20 := by omega
        have hw1 : IntKind.u8.wrap ((q : Int) + 1) = (q : Int) + 1 := by exact wraps_u8 _ (by omega) (by omega)
        have HA := Lib.hid (allL_snoc hA q hq2)
        clear hA
        go_wp2
        go_quiet (fail)
        go_wp2
        go_roundw
        case rel => exact ⟨k + 1, _, rfl, by go_num, by omega, by rw [HA.out.2, hR], HA.out.1, _, rfl⟩
        case measure => simp only [intOf]; omega
      · clear hc
        have hB : Below w.heap.size w (w.drewN n) := below_drewN (Below.refl _ _) _
        replace hT : TabX (w.drewN n) := hT
        by_cases hl1 : k < len
        · have hl2 : ¬ k < 10 := by omega
          obtain ⟨D, hD, hN⟩ := dig_at q2 (by omega) 
          obtain ⟨kk, c1, c2, c3, c4, c5, c6, c7⟩ := keys_facts R hA (by omega) D hD 
          rw [← hN] at c4 c5 c6 
          simp only [digS] at c4 c5 c6 
          by_cases h0 : R.size = 0 
          · obtain rfl : R = ByteArray.empty := ByteArray.size_eq_zero_iff.1 h0 
            simp only [ByteArray.append_empty, ByteArray.empty_append] at c4 c5 c6 c7 
            have C1 := Lib.hid c1; have C2 := Lib.hid c2; have C3 := Lib.hid c3; have C4 := Lib.hid c4; have C5 := Lib.hid c5; have C6 := Lib.hid c6; have C7 := Lib.hid c7 
            clear c1 c2 c3 c4 c5 c6 c7 hA hN 
            go_wp2_with (first 
              | (go_at_call 22; refine (known_calls _ hT).mono ?_; rintro e w' ⟨rfl, hb⟩; replace hT := hT.below hb; replace hB := hB.trans (hb.mono hB.size); clear hb) 
              | (go_at_call 19; with_reducible refine (C3.out _).mono ?_; rintro e w' ⟨rfl, rfl⟩) 
              | (go_at_call 23; (first | with_reducible refine (C1.out _ hT).mono ?_ | with_reducible refine (C4.out _ hT).mono ?_ | with_reducible refine (C5.out _ hT).mono ?_ | with_reducible refine (C7.out _ hT).mono ?_); rintro e w' ⟨rfl, hb⟩; replace hT := hT.below hb; replace hB := hB.trans (hb.mono hB.size); clear hb) 
              | (go_at_call 24; (first | with_reducible refine (C2.out _ hT).mono ?_ | with_reducible refine (C6.out _ hT).mono ?_); rintro e w' ⟨rfl, hb⟩; replace hT := hT.below hb; replace hB := hB.trans (hb.mono hB.size); clear hb)) 
            all_goals (go_ret; exact ⟨rfl, hB⟩) 
          · obtain ⟨g1, g2⟩ := not_empty R (by omega) 
            have g3 : R.data.toList.isEmpty = false := by rw [← Lib.toList_data]; exact g1 
            rw [g3] at c1 
            cases kk 
            all_goals 
              have C1 := Lib.hid c1; have C2 := Lib.hid c2; have C3 := Lib.hid c3; have C4 := Lib.hid c4; have C5 := Lib.hid c5; have C6 := Lib.hid c6; have C7 := Lib.hid c7 
              clear c1 c2 c3 c4 c5 c6 c7 hA hN g3 
              go_wp2_with (first 
                | (go_at_call 22; refine (known_calls _ hT).mono ?_; rintro e w' ⟨rfl, hb⟩; replace hT := hT.below hb; replace hB := hB.trans (hb.mono hB.size); clear hb) 
                | (go_at_call 19; with_reducible refine (C3.out _).mono ?_; rintro e w' ⟨rfl, rfl⟩) 
                | (go_at_call 23; (first | with_reducible refine (C1.out _ hT).mono ?_ | with_reducible refine (C4.out _ hT).mono ?_ | with_reducible refine (C5.out _ hT).mono ?_ | with_reducible refine (C7.out _ hT).mono ?_); rintro e w' ⟨rfl, hb⟩; replace hT := hT.below hb; replace hB := hB.trans (hb.mono hB.size); clear hb) 
                | (go_at_call 24; (first | with_reducible refine (C2.out _ hT).mono ?_ | with_reducible refine (C6.out _ hT).mono ?_); rintro e w' ⟨rfl, hb⟩; replace hT := hT.below hb; replace hB := hB.trans (hb.mono hB.size); clear hb)) 
              all_goals (go_ret; exact ⟨rfl, hB⟩)
        · obtain ⟨D, hD, hN⟩ := dig_at q2 (by omega) 
          obtain ⟨kk, c1, c2, c3, c4, c5, c6, c7⟩ := keys_facts R hA (by omega) D hD 
          rw [← hN] at c4 c5 c6 
          simp only [digS] at c4 c5 c6 
          by_cases h0 : R.size = 0 
          · obtain rfl : R = ByteArray.empty := ByteArray.size_eq_zero_iff.1 h0 
            simp only [ByteArray.append_empty, ByteArray.empty_append] at c4 c5 c6 c7 
            have C1 := Lib.hid c1; have C2 := Lib.hid c2; have C3 := Lib.hid c3; have C4 := Lib.hid c4; have C5 := Lib.hid c5; have C6 := Lib.hid c6; have C7 := Lib.hid c7 
            clear c1 c2 c3 c4 c5 c6 c7 hA hN 
            go_wp2_with (first 
              | (go_at_call 22; refine (known_calls _ hT).mono ?_; rintro e w' ⟨rfl, hb⟩; replace hT := hT.below hb; replace hB := hB.trans (hb.mono hB.size); clear hb) 
              | (go_at_call 19; with_reducible refine (C3.out _).mono ?_; rintro e w' ⟨rfl, rfl⟩) 
              | (go_at_call 23; (first | with_reducible refine (C1.out _ hT).mono ?_ | with_reducible refine (C4.out _ hT).mono ?_ | with_reducible refine (C5.out _ hT).mono ?_ | with_reducible refine (C7.out _ hT).mono ?_); rintro e w' ⟨rfl, hb⟩; replace hT := hT.below hb; replace hB := hB.trans (hb.mono hB.size); clear hb) 
              | (go_at_call 24; (first | with_reducible refine (C2.out _ hT).mono ?_ | with_reducible refine (C6.out _ hT).mono ?_); rintro e w' ⟨rfl, hb⟩; replace hT := hT.below hb; replace hB := hB.trans (hb.mono hB.size); clear hb)) 
            all_goals (go_ret; exact ⟨rfl, hB⟩) 
          · obtain ⟨g1, g2⟩ := not_empty R (by omega) 
            have g3 : R.data.toList.isEmpty = false := by rw [← Lib.toList_data]; exact g1 
            rw [g3] at c1 
            cases kk 
            all_goals 
              have C1 := Lib.hid c1; have C2 := Lib.hid c2; have C3 := Lib.hid c3; have C4 := Lib.hid c4; have C5 := Lib.hid c5; have C6 := Lib.hid c6; have C7 := Lib.hid c7 
              clear c1 c2 c3 c4 c5 c6 c7 hA hN g3 
              go_wp2_with (first 
                | (go_at_call 22; refine (known_calls _ hT).mono ?_; rintro e w' ⟨rfl, hb⟩; replace hT := hT.below hb; replace hB := hB.trans (hb.mono hB.size); clear hb) 
                | (go_at_call 19; with_reducible refine (C3.out _).mono ?_; rintro e w' ⟨rfl, rfl⟩) 
                | (go_at_call 23; (first | with_reducible refine (C1.out _ hT).mono ?_ | with_reducible refine (C4.out _ hT).mono ?_ | with_reducible refine (C5.out _ hT).mono ?_ | with_reducible refine (C7.out _ hT).mono ?_); rintro e w' ⟨rfl, hb⟩; replace hT := hT.below hb; replace hB := hB.trans (hb.mono hB.size); clear hb) 
                | (go_at_call 24; (first | with_reducible refine (C2.out _ hT).mono ?_ | with_reducible refine (C6.out _ hT).mono ?_); rintro e w' ⟨rfl, hb⟩; replace hT := hT.below hb; replace hB := hB.trans (hb.mono hB.size); clear hb)) 
              all_goals (go_ret; exact ⟨rfl, hB⟩)
end Go.Proofs.YtpdkfofoeoakmaaDoor
