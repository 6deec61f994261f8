/- The law SignAsks, walked. The table of blanks being laid, and the choices' cells holding bytes. -/
import Derived.Test.YtpdkfofoeoakmaaDoorR5
import Derived.Test.YtpdkfofoeoakmaaDoorSg11
namespace Go.Proofs.YtpdkfofoeoakmaaDoor
open Go.RowKit Go.Sub

theorem asks_any (s : ByteArray) (w : World) (hs : s.size ≤ 300) (hT : TabX w) :
    Calls Tryd.prog 33 #[.string s] w fun e w' => e = .returned (.bool true) ∧ Below w.heap.size w w' := asks_calls s w (by omega) hT
theorem asks_front (P R : ByteArray) (w : World) (hP : P.size ≤ 2) (hR : R.size ≤ 36) (hT : TabX w) :
    Calls Tryd.prog 33 #[.string (P ++ R)] w fun e w' => e = .returned (.bool true) ∧ Below w.heap.size w w' := asks_calls _ w (by rw [ByteArray.size_append]; omega) hT
set_option maxRecDepth 100000 in
set_option maxHeartbeats 2000000 in
theorem signasks_core (s : ByteArray) (v : Value) (b : Int) (hb : 0 ≤ b ∧ b ≤ 255) (hs : s.size ≤ 9223372036854775807) (w : World) (hv : BytesV w v) (hT : TabX w) :
    Calls Tryd.prog 8 #[.string s, v, .int .u8 b] w fun e w' => e = .returned (.bool true) ∧ Below w.heap.size w w' := by
  obtain ⟨b0, b1⟩ := hb
  obtain ⟨B, rfl⟩ : ∃ B : UInt8, b = (B.toNat : Int) := ⟨UInt8.ofNat b.toNat, by rw [UInt8.toNat_ofNat_of_lt' (by show b.toNat < 256; omega)]; omega⟩
  have hB : Below w.heap.size w w := Below.refl _ _
  by_cases hlt : 200 < s.size
  · go_enter Tryd.func8, Tryd.ntmps8
    go_wp2_with (go_at_call 22; refine (known_calls _ hT).mono ?_; rintro e w' ⟨rfl, hb⟩; replace hT := hT.below hb; replace hB := hB.trans (hb.mono hB.size); clear hb)
    go_ret
    exact ⟨rfl, hB⟩
  · have hle : s.size ≤ 200 := by omega
    have HV := Lib.hid (fun W (h : Below w.heap.size w W) => hv.below h)
    have L1 := Lib.hid (letter_calls B)
    have L2 := Lib.hid (rletter_calls B)
    have D1 := Lib.hid (digit_calls B)
    have D2 := Lib.hid (rdigit_calls B)
    have K1 := Lib.hid (blank_calls B)
    have K2 := Lib.hid (rblank_calls B)
    clear hv hlt
    generalize isLetter B = x1 at *
    generalize isDigit B = x2 at *
    generalize isBlank B = x3 at *
    cases x1 <;> cases x2 <;> cases x3
    all_goals
      go_enter Tryd.func8, Tryd.ntmps8
      go_wp2_with (first
        | (go_at_call 22; refine (known_calls _ hT).mono ?_; rintro e w' ⟨rfl, hb⟩; replace hT := hT.below hb; replace hB := hB.trans (hb.mono hB.size); clear hb)
        | (go_at_call 17; refine (front_any v _ (HV.out _ hB)).mono ?_; rintro e w' ⟨R, rfl, hR, hb⟩; replace hT := hT.below hb; replace hB := hB.trans (hb.mono hB.size); clear hb)
        | (go_at_call 27; refine (L1.out _).mono ?_; rintro e w' ⟨rfl, rfl⟩)
        | (go_at_call 28; refine (L2.out _).mono ?_; rintro e w' ⟨rfl, rfl⟩)
        | (go_at_call 29; refine (D1.out _).mono ?_; rintro e w' ⟨rfl, rfl⟩)
        | (go_at_call 30; refine (D2.out _).mono ?_; rintro e w' ⟨rfl, rfl⟩)
        | (go_at_call 31; refine (K1.out _).mono ?_; rintro e w' ⟨rfl, rfl⟩)
        | (go_at_call 32; refine (K2.out _).mono ?_; rintro e w' ⟨rfl, rfl⟩)
        | (go_at_call 33; (first | with_reducible refine (asks_front _ _ _ (by decide) hR hT).mono ?_ | with_reducible refine (asks_any s _ (by omega) hT).mono ?_ | with_reducible refine (asks_any R _ (by omega) hT).mono ?_); rintro e w' ⟨rfl, hb⟩; replace hT := hT.below hb; replace hB := hB.trans (hb.mono hB.size); clear hb))
      go_ret
      exact ⟨rfl, hB⟩
end Go.Proofs.YtpdkfofoeoakmaaDoor
