/- The law SignBytes, walked. The table of blanks being laid, and the choices' cells holding bytes. -/
import Derived.Test.YtpdkfofoeoakmaaDoorL6
import Derived.Handy
namespace Go.Proofs.YtpdkfofoeoakmaaDoor
open Go.RowKit Go.Sub

theorem TabX.drewN {w : World} (h : TabX w) (n : Nat) : TabX (w.drewN n) := h
theorem below_drew {B : Nat} {a w : World} (h : Below B a w) : Below B a w.drew := h.trans ⟨rfl, rfl, rfl, Nat.le_refl _, fun _ _ => rfl⟩
theorem conv_cell (d : UInt8) (w : World) (n : Nat) (h : w.cell? ⟨n, 0, none⟩ = some (.int .u8 (d.toNat : Int))) : (convert 22 9 (.slice (some ⟨n, 0, none⟩) 1 1)).run Tryd.prog w = .ok (.string ⟨#[d]⟩) w :=
  run_convert_bytes_back _ 22 9 5 ⟨n, 0, none⟩ 1 [d] Tryd.underlying22 Tryd.underlying5 Tryd.underlying9 (fun j hj => by
    obtain rfl : j = 0 := by simp at hj; exact hj
    have e : (⟨n, 0, none⟩ : Addr).add 0 = ⟨n, 0, none⟩ := by unfold Addr.add; split <;> simp_all
    rw [e]; exact h)

theorem cell_seen {w w2 : World} {b : Int} {v : Value} (h : ((w.alloc (.cells #[.int .u8 b] 5)).drew).cell? ⟨w.heap.size, 0, none⟩ = some v → w2.cell? ⟨w.heap.size, 0, none⟩ = some v) (hv : v = .int .u8 b := by rfl) : w2.cell? ⟨w.heap.size, 0, none⟩ = some v :=
  h (by subst hv; exact (Boxed.new w 5 (.int .u8 b)).cell)
theorem front_b {v : Value} {w w1 : World} (hv : ∀ W, Below w.heap.size w W → BytesV W v) (hg : Below w.heap.size w w1) :
    Calls Tryd.prog 17 #[v] w1 fun e w' => ∃ R : ByteArray, e = .returned (.string R) ∧ R.size ≤ 36 ∧ Below w.heap.size w w' ∧ ∀ n x, w1.cell? ⟨n, 0, none⟩ = some x → w'.cell? ⟨n, 0, none⟩ = some x := by
  refine (front_any v w1 (hv w1 hg)).mono ?_
  rintro e w' ⟨R, rfl, hR, hb⟩
  exact ⟨R, rfl, hR, hg.trans (hb.mono hg.size), fun n x h => (hb.cell (World.block_lt_of_cell? _ _ h)).trans h⟩
theorem three (B : UInt8) (R : ByteArray) (hR : R.size ≤ 36) : ∃ n m q : Nat, (isLetter B = true → 1 ≤ n) ∧ (isLetter B = false → n = 0) ∧ (isDigit B = true → 1 ≤ m) ∧ (isDigit B = false → B ≠ 46 → m = 0) ∧ (B ≠ 92 → q = 0) ∧
    (∀ w, Calls Tryd.prog 19 #[.string (⟨#[B]⟩ ++ R)] w fun e w' => e = .returned (.int .i64 n) ∧ w' = w) ∧
    (∀ w, Calls Tryd.prog 18 #[.string (⟨#[B]⟩ ++ R)] w fun e w' => e = .returned (.int .i64 m) ∧ w' = w) ∧
    (∀ w, Calls Tryd.prog 20 #[.string (⟨#[B]⟩ ++ R)] w fun e w' => e = .returned (.int .i64 q) ∧ w' = w) := by
  have e : ((⟨#[B]⟩ : ByteArray) ++ R).data.toList = B :: R.data.toList := by simp
  have hs : ((⟨#[B]⟩ : ByteArray) ++ R).size < 4611686018427387904 := by rw [ByteArray.size_append]; show 1 + R.size < _; omega
  refine ⟨_, _, _, word_letter B R.data.toList, word_other B R.data.toList, num_digit B R.data.toList, num_other B R.data.toList, esc_other B R.data.toList, fun w => ?_, fun w => ?_, fun w => ?_⟩
  · rw [← e]; exact word_calls _ w hs
  · rw [← e]; exact number_calls _ w hs
  · rw [← e]; exact escape_calls _ w hs
theorem far (B : UInt8) (h : isLetter B = true ∨ isDigit B = true ∨ isBlank B = true) : B ≠ 46 ∧ B ≠ 92 := by
  constructor
  all_goals
    rintro rfl
    rcases h with h | h | h <;> revert h <;> decide

set_option maxRecDepth 100000 in
set_option maxHeartbeats 8000000 in
theorem bytes_core (b : Int) (v : Value) (hb : 0 ≤ b ∧ b ≤ 255) (w : World) (hv : BytesV w v) (hT : TabX w) :
    Calls Tryd.prog 9 #[.int .u8 b, v] w fun e w' => e = .returned (.bool true) ∧ Below w.heap.size w w' := by
  obtain ⟨b0, b1⟩ := hb
  obtain ⟨B, rfl⟩ : ∃ B : UInt8, b = (B.toNat : Int) := ⟨UInt8.ofNat b.toNat, by rw [UInt8.toNat_ofNat_of_lt' (by show b.toNat < 256; omega)]; omega⟩
  have HV := Lib.hid (fun W (h : Below w.heap.size w W) => hv.below h)
  have HT := Lib.hid (fun W (h : Below w.heap.size w W) => hT.below h)
  clear hv hT
  have hconv := conv_cell B
  obtain ⟨ap1, ap2, ap3⟩ := apart B
  have hfar := far B
  cases hl : isLetter B
  · cases hd : isDigit B
    · cases hk : isBlank B
      · by_cases h46 : B = 46
        · have h92 : B ≠ 92 := by rw [h46]; decide
          have Hl := Lib.hid hl
          have Hd := Lib.hid hd
          have Hk := Lib.hid hk
          have x1 : B = 46 := h46
          have x2 : B ≠ 92 := h92
          have y1 : ((B.toNat : Int) == 46) = true := by rw [x1]; rfl
          clear x1
          have y2 : ((B.toNat : Int) == 92) = false := byte_beq 92 (beq_eq_false_iff_ne.2 x2)
          have y2' : ((B.toNat : Int) = 92) = False := byte_ne 92 (beq_eq_false_iff_ne.2 x2)
          have X2 := Lib.hid x2
          clear x2
          clear hl hd hk ap1 ap2 ap3 hfar h46 h92
          go_enter Tryd.func9, Tryd.ntmps9
          go_wp2_with (first | (go_at_call 27; refine (letter_calls B _).mono ?_; rw [Hl.out]; rintro e w' ⟨rfl, rfl⟩) | (go_at_call 29; refine (digit_calls B _).mono ?_; rw [Hd.out]; rintro e w' ⟨rfl, rfl⟩) | (go_at_call 31; refine (blank_calls B _).mono ?_; rw [Hk.out]; rintro e w' ⟨rfl, rfl⟩))
          go_region_with (go_at_call 17; refine (front_b HV.out (by go_grown)).mono ?_; rintro e w2 ⟨R, rfl, hR, hbb, hce⟩; replace hce := hce w'.heap.size (.int .u8 (B.toNat : Int)); (first | (have hcl := cell_seen hce) | skip); clear hce; obtain ⟨n, m, q, f1, f2, f3, f4, f5, cw, cm, cq⟩ := three B R hR; obtain rfl := f2 Hl.out; skip; obtain rfl := f5 X2.out; have CW := Lib.hid cw; have CM := Lib.hid cm; have CQ := Lib.hid cq; clear f1 f2 f3 f4 f5 cw cm cq)
          all_goals
            go_wp2_with (first | (go_at_call 22; refine (known_calls _ (HT.out _ (by repeat (first | with_reducible exact hbb | with_reducible refine below_drewN ?_ _ | with_reducible refine below_drew ?_ | with_reducible refine Below.alloc ?_ (by have := hbb.size; simp; omega) _)))).mono ?_; rintro e w3 ⟨rfl, hk3⟩; have hB3 : Below w'.heap.size w' w3 := Below.trans (by repeat (first | with_reducible exact hbb | with_reducible refine below_drewN ?_ _ | with_reducible refine below_drew ?_ | with_reducible refine Below.alloc ?_ (by have := hbb.size; simp; omega) _)) (hk3.mono (by have := hbb.size; simp; omega)); clear hk3) | (go_at_call 27; refine (letter_calls B _).mono ?_; rw [Hl.out]; rintro e w' ⟨rfl, rfl⟩) | (go_at_call 29; refine (digit_calls B _).mono ?_; rw [Hd.out]; rintro e w' ⟨rfl, rfl⟩) | (go_at_call 31; refine (blank_calls B _).mono ?_; rw [Hk.out]; rintro e w' ⟨rfl, rfl⟩) | (go_at_call 19; refine (CW.out _).mono ?_; rintro e w4 ⟨rfl, rfl⟩) | (go_at_call 18; refine (CM.out _).mono ?_; rintro e w4 ⟨rfl, rfl⟩) | (go_at_call 20; refine (CQ.out _).mono ?_; rintro e w4 ⟨rfl, rfl⟩))
            all_goals (go_ret; exact ⟨rfl, hB3⟩)
        · by_cases h92 : B = 92
          · skip
            have Hl := Lib.hid hl
            have Hd := Lib.hid hd
            have Hk := Lib.hid hk
            have x1 : B ≠ 46 := h46
            have x2 : B = 92 := h92
            have y1 : ((B.toNat : Int) == 46) = false := byte_beq 46 (beq_eq_false_iff_ne.2 x1)
            have y1' : ((B.toNat : Int) = 46) = False := byte_ne 46 (beq_eq_false_iff_ne.2 x1)
            have y2 : ((B.toNat : Int) == 92) = true := by rw [x2]; rfl
            clear x2
            have X1 := Lib.hid x1
            clear x1
            clear hl hd hk ap1 ap2 ap3 hfar h46 h92
            go_enter Tryd.func9, Tryd.ntmps9
            go_wp2_with (first | (go_at_call 27; refine (letter_calls B _).mono ?_; rw [Hl.out]; rintro e w' ⟨rfl, rfl⟩) | (go_at_call 29; refine (digit_calls B _).mono ?_; rw [Hd.out]; rintro e w' ⟨rfl, rfl⟩) | (go_at_call 31; refine (blank_calls B _).mono ?_; rw [Hk.out]; rintro e w' ⟨rfl, rfl⟩))
            go_region_with (go_at_call 17; refine (front_b HV.out (by go_grown)).mono ?_; rintro e w2 ⟨R, rfl, hR, hbb, hce⟩; replace hce := hce w'.heap.size (.int .u8 (B.toNat : Int)); (first | (have hcl := cell_seen hce) | skip); clear hce; obtain ⟨n, m, q, f1, f2, f3, f4, f5, cw, cm, cq⟩ := three B R hR; obtain rfl := f2 Hl.out; obtain rfl := f4 Hd.out X1.out; skip; have CW := Lib.hid cw; have CM := Lib.hid cm; have CQ := Lib.hid cq; clear f1 f2 f3 f4 f5 cw cm cq)
            all_goals
              go_wp2_with (first | (go_at_call 22; refine (known_calls _ (HT.out _ (by repeat (first | with_reducible exact hbb | with_reducible refine below_drewN ?_ _ | with_reducible refine below_drew ?_ | with_reducible refine Below.alloc ?_ (by have := hbb.size; simp; omega) _)))).mono ?_; rintro e w3 ⟨rfl, hk3⟩; have hB3 : Below w'.heap.size w' w3 := Below.trans (by repeat (first | with_reducible exact hbb | with_reducible refine below_drewN ?_ _ | with_reducible refine below_drew ?_ | with_reducible refine Below.alloc ?_ (by have := hbb.size; simp; omega) _)) (hk3.mono (by have := hbb.size; simp; omega)); clear hk3) | (go_at_call 27; refine (letter_calls B _).mono ?_; rw [Hl.out]; rintro e w' ⟨rfl, rfl⟩) | (go_at_call 29; refine (digit_calls B _).mono ?_; rw [Hd.out]; rintro e w' ⟨rfl, rfl⟩) | (go_at_call 31; refine (blank_calls B _).mono ?_; rw [Hk.out]; rintro e w' ⟨rfl, rfl⟩) | (go_at_call 19; refine (CW.out _).mono ?_; rintro e w4 ⟨rfl, rfl⟩) | (go_at_call 18; refine (CM.out _).mono ?_; rintro e w4 ⟨rfl, rfl⟩) | (go_at_call 20; refine (CQ.out _).mono ?_; rintro e w4 ⟨rfl, rfl⟩))
              all_goals (go_ret; exact ⟨rfl, hB3⟩)
          · skip
            have Hl := Lib.hid hl
            have Hd := Lib.hid hd
            have Hk := Lib.hid hk
            have x1 : B ≠ 46 := h46
            have x2 : B ≠ 92 := h92
            have y1 : ((B.toNat : Int) == 46) = false := byte_beq 46 (beq_eq_false_iff_ne.2 x1)
            have y1' : ((B.toNat : Int) = 46) = False := byte_ne 46 (beq_eq_false_iff_ne.2 x1)
            have y2 : ((B.toNat : Int) == 92) = false := byte_beq 92 (beq_eq_false_iff_ne.2 x2)
            have y2' : ((B.toNat : Int) = 92) = False := byte_ne 92 (beq_eq_false_iff_ne.2 x2)
            have X1 := Lib.hid x1
            clear x1
            have X2 := Lib.hid x2
            clear x2
            clear hl hd hk ap1 ap2 ap3 hfar h46 h92
            go_enter Tryd.func9, Tryd.ntmps9
            go_wp2_with (first | (go_at_call 27; refine (letter_calls B _).mono ?_; rw [Hl.out]; rintro e w' ⟨rfl, rfl⟩) | (go_at_call 29; refine (digit_calls B _).mono ?_; rw [Hd.out]; rintro e w' ⟨rfl, rfl⟩) | (go_at_call 31; refine (blank_calls B _).mono ?_; rw [Hk.out]; rintro e w' ⟨rfl, rfl⟩))
            go_region_with (go_at_call 17; refine (front_b HV.out (by go_grown)).mono ?_; rintro e w2 ⟨R, rfl, hR, hbb, hce⟩; replace hce := hce w'.heap.size (.int .u8 (B.toNat : Int)); (first | (have hcl := cell_seen hce) | skip); clear hce; obtain ⟨n, m, q, f1, f2, f3, f4, f5, cw, cm, cq⟩ := three B R hR; obtain rfl := f2 Hl.out; obtain rfl := f4 Hd.out X1.out; obtain rfl := f5 X2.out; have CW := Lib.hid cw; have CM := Lib.hid cm; have CQ := Lib.hid cq; clear f1 f2 f3 f4 f5 cw cm cq)
            all_goals
              go_wp2_with (first | (go_at_call 22; refine (known_calls _ (HT.out _ (by repeat (first | with_reducible exact hbb | with_reducible refine below_drewN ?_ _ | with_reducible refine below_drew ?_ | with_reducible refine Below.alloc ?_ (by have := hbb.size; simp; omega) _)))).mono ?_; rintro e w3 ⟨rfl, hk3⟩; have hB3 : Below w'.heap.size w' w3 := Below.trans (by repeat (first | with_reducible exact hbb | with_reducible refine below_drewN ?_ _ | with_reducible refine below_drew ?_ | with_reducible refine Below.alloc ?_ (by have := hbb.size; simp; omega) _)) (hk3.mono (by have := hbb.size; simp; omega)); clear hk3) | (go_at_call 27; refine (letter_calls B _).mono ?_; rw [Hl.out]; rintro e w' ⟨rfl, rfl⟩) | (go_at_call 29; refine (digit_calls B _).mono ?_; rw [Hd.out]; rintro e w' ⟨rfl, rfl⟩) | (go_at_call 31; refine (blank_calls B _).mono ?_; rw [Hk.out]; rintro e w' ⟨rfl, rfl⟩) | (go_at_call 19; refine (CW.out _).mono ?_; rintro e w4 ⟨rfl, rfl⟩) | (go_at_call 18; refine (CM.out _).mono ?_; rintro e w4 ⟨rfl, rfl⟩) | (go_at_call 20; refine (CQ.out _).mono ?_; rintro e w4 ⟨rfl, rfl⟩))
              all_goals (go_ret; exact ⟨rfl, hB3⟩)
      · skip
        have Hl := Lib.hid hl
        have Hd := Lib.hid hd
        have Hk := Lib.hid hk
        have x1 : B ≠ 46 := (hfar (by simp [hl, hd, hk])).1
        have x2 : B ≠ 92 := (hfar (by simp [hl, hd, hk])).2
        have y1 : ((B.toNat : Int) == 46) = false := byte_beq 46 (beq_eq_false_iff_ne.2 x1)
        have y1' : ((B.toNat : Int) = 46) = False := byte_ne 46 (beq_eq_false_iff_ne.2 x1)
        have y2 : ((B.toNat : Int) == 92) = false := byte_beq 92 (beq_eq_false_iff_ne.2 x2)
        have y2' : ((B.toNat : Int) = 92) = False := byte_ne 92 (beq_eq_false_iff_ne.2 x2)
        have X1 := Lib.hid x1
        clear x1
        have X2 := Lib.hid x2
        clear x2
        clear hl hd hk ap1 ap2 ap3 hfar
        go_enter Tryd.func9, Tryd.ntmps9
        go_wp2_with (first | (go_at_call 27; refine (letter_calls B _).mono ?_; rw [Hl.out]; rintro e w' ⟨rfl, rfl⟩) | (go_at_call 29; refine (digit_calls B _).mono ?_; rw [Hd.out]; rintro e w' ⟨rfl, rfl⟩) | (go_at_call 31; refine (blank_calls B _).mono ?_; rw [Hk.out]; rintro e w' ⟨rfl, rfl⟩))
        go_region_with (go_at_call 17; refine (front_b HV.out (by go_grown)).mono ?_; rintro e w2 ⟨R, rfl, hR, hbb, hce⟩; replace hce := hce w'.heap.size (.int .u8 (B.toNat : Int)); (first | (have hcl := cell_seen hce) | skip); clear hce; obtain ⟨n, m, q, f1, f2, f3, f4, f5, cw, cm, cq⟩ := three B R hR; obtain rfl := f2 Hl.out; obtain rfl := f4 Hd.out X1.out; obtain rfl := f5 X2.out; have CW := Lib.hid cw; have CM := Lib.hid cm; have CQ := Lib.hid cq; clear f1 f2 f3 f4 f5 cw cm cq)
        all_goals
          go_wp2_with (first | (go_at_call 22; refine (known_calls _ (HT.out _ (by repeat (first | with_reducible exact hbb | with_reducible refine below_drewN ?_ _ | with_reducible refine below_drew ?_ | with_reducible refine Below.alloc ?_ (by have := hbb.size; simp; omega) _)))).mono ?_; rintro e w3 ⟨rfl, hk3⟩; have hB3 : Below w'.heap.size w' w3 := Below.trans (by repeat (first | with_reducible exact hbb | with_reducible refine below_drewN ?_ _ | with_reducible refine below_drew ?_ | with_reducible refine Below.alloc ?_ (by have := hbb.size; simp; omega) _)) (hk3.mono (by have := hbb.size; simp; omega)); clear hk3) | (go_at_call 27; refine (letter_calls B _).mono ?_; rw [Hl.out]; rintro e w' ⟨rfl, rfl⟩) | (go_at_call 29; refine (digit_calls B _).mono ?_; rw [Hd.out]; rintro e w' ⟨rfl, rfl⟩) | (go_at_call 31; refine (blank_calls B _).mono ?_; rw [Hk.out]; rintro e w' ⟨rfl, rfl⟩) | (go_at_call 19; refine (CW.out _).mono ?_; rintro e w4 ⟨rfl, rfl⟩) | (go_at_call 18; refine (CM.out _).mono ?_; rintro e w4 ⟨rfl, rfl⟩) | (go_at_call 20; refine (CQ.out _).mono ?_; rintro e w4 ⟨rfl, rfl⟩))
          all_goals (go_ret; exact ⟨rfl, hB3⟩)
    · have hk := ap3 hd
      have Hl := Lib.hid hl
      have Hd := Lib.hid hd
      have Hk := Lib.hid hk
      have x1 : B ≠ 46 := (hfar (by simp [hl, hd, hk])).1
      have x2 : B ≠ 92 := (hfar (by simp [hl, hd, hk])).2
      have y1 : ((B.toNat : Int) == 46) = false := byte_beq 46 (beq_eq_false_iff_ne.2 x1)
      have y1' : ((B.toNat : Int) = 46) = False := byte_ne 46 (beq_eq_false_iff_ne.2 x1)
      have y2 : ((B.toNat : Int) == 92) = false := byte_beq 92 (beq_eq_false_iff_ne.2 x2)
      have y2' : ((B.toNat : Int) = 92) = False := byte_ne 92 (beq_eq_false_iff_ne.2 x2)
      have X1 := Lib.hid x1
      clear x1
      have X2 := Lib.hid x2
      clear x2
      clear hl hd hk ap1 ap2 ap3 hfar
      go_enter Tryd.func9, Tryd.ntmps9
      go_wp2_with (first | (go_at_call 27; refine (letter_calls B _).mono ?_; rw [Hl.out]; rintro e w' ⟨rfl, rfl⟩) | (go_at_call 29; refine (digit_calls B _).mono ?_; rw [Hd.out]; rintro e w' ⟨rfl, rfl⟩) | (go_at_call 31; refine (blank_calls B _).mono ?_; rw [Hk.out]; rintro e w' ⟨rfl, rfl⟩))
      go_region_with (go_at_call 17; refine (front_b HV.out (by go_grown)).mono ?_; rintro e w2 ⟨R, rfl, hR, hbb, hce⟩; replace hce := hce w'.heap.size (.int .u8 (B.toNat : Int)); (first | (have hcl := cell_seen hce) | skip); clear hce; obtain ⟨n, m, q, f1, f2, f3, f4, f5, cw, cm, cq⟩ := three B R hR; obtain rfl := f2 Hl.out; have hm := f3 Hd.out; obtain rfl := f5 X2.out; have CW := Lib.hid cw; have CM := Lib.hid cm; have CQ := Lib.hid cq; clear f1 f2 f3 f4 f5 cw cm cq)
      all_goals
        go_wp2_with (first | (go_at_call 22; refine (known_calls _ (HT.out _ (by repeat (first | with_reducible exact hbb | with_reducible refine below_drewN ?_ _ | with_reducible refine below_drew ?_ | with_reducible refine Below.alloc ?_ (by have := hbb.size; simp; omega) _)))).mono ?_; rintro e w3 ⟨rfl, hk3⟩; have hB3 : Below w'.heap.size w' w3 := Below.trans (by repeat (first | with_reducible exact hbb | with_reducible refine below_drewN ?_ _ | with_reducible refine below_drew ?_ | with_reducible refine Below.alloc ?_ (by have := hbb.size; simp; omega) _)) (hk3.mono (by have := hbb.size; simp; omega)); clear hk3) | (go_at_call 27; refine (letter_calls B _).mono ?_; rw [Hl.out]; rintro e w' ⟨rfl, rfl⟩) | (go_at_call 29; refine (digit_calls B _).mono ?_; rw [Hd.out]; rintro e w' ⟨rfl, rfl⟩) | (go_at_call 31; refine (blank_calls B _).mono ?_; rw [Hk.out]; rintro e w' ⟨rfl, rfl⟩) | (go_at_call 19; refine (CW.out _).mono ?_; rintro e w4 ⟨rfl, rfl⟩) | (go_at_call 18; refine (CM.out _).mono ?_; rintro e w4 ⟨rfl, rfl⟩) | (go_at_call 20; refine (CQ.out _).mono ?_; rintro e w4 ⟨rfl, rfl⟩))
        all_goals (go_ret; exact ⟨rfl, hB3⟩)
  · have hd := ap1 hl
    have hk := ap2 hl
    have Hl := Lib.hid hl
    have Hd := Lib.hid hd
    have Hk := Lib.hid hk
    have x1 : B ≠ 46 := (hfar (by simp [hl, hd, hk])).1
    have x2 : B ≠ 92 := (hfar (by simp [hl, hd, hk])).2
    have y1 : ((B.toNat : Int) == 46) = false := byte_beq 46 (beq_eq_false_iff_ne.2 x1)
    have y1' : ((B.toNat : Int) = 46) = False := byte_ne 46 (beq_eq_false_iff_ne.2 x1)
    have y2 : ((B.toNat : Int) == 92) = false := byte_beq 92 (beq_eq_false_iff_ne.2 x2)
    have y2' : ((B.toNat : Int) = 92) = False := byte_ne 92 (beq_eq_false_iff_ne.2 x2)
    have X1 := Lib.hid x1
    clear x1
    have X2 := Lib.hid x2
    clear x2
    clear hl hd hk ap1 ap2 ap3 hfar
    go_enter Tryd.func9, Tryd.ntmps9
    go_wp2_with (first | (go_at_call 27; refine (letter_calls B _).mono ?_; rw [Hl.out]; rintro e w' ⟨rfl, rfl⟩) | (go_at_call 29; refine (digit_calls B _).mono ?_; rw [Hd.out]; rintro e w' ⟨rfl, rfl⟩) | (go_at_call 31; refine (blank_calls B _).mono ?_; rw [Hk.out]; rintro e w' ⟨rfl, rfl⟩))
    go_region_with (go_at_call 17; refine (front_b HV.out (by go_grown)).mono ?_; rintro e w2 ⟨R, rfl, hR, hbb, hce⟩; replace hce := hce w'.heap.size (.int .u8 (B.toNat : Int)); (first | (have hcl := cell_seen hce) | skip); clear hce; obtain ⟨n, m, q, f1, f2, f3, f4, f5, cw, cm, cq⟩ := three B R hR; have hn := f1 Hl.out; obtain rfl := f4 Hd.out X1.out; obtain rfl := f5 X2.out; have CW := Lib.hid cw; have CM := Lib.hid cm; have CQ := Lib.hid cq; clear f1 f2 f3 f4 f5 cw cm cq)
    all_goals
      go_wp2_with (first | (go_at_call 22; refine (known_calls _ (HT.out _ (by repeat (first | with_reducible exact hbb | with_reducible refine below_drewN ?_ _ | with_reducible refine below_drew ?_ | with_reducible refine Below.alloc ?_ (by have := hbb.size; simp; omega) _)))).mono ?_; rintro e w3 ⟨rfl, hk3⟩; have hB3 : Below w'.heap.size w' w3 := Below.trans (by repeat (first | with_reducible exact hbb | with_reducible refine below_drewN ?_ _ | with_reducible refine below_drew ?_ | with_reducible refine Below.alloc ?_ (by have := hbb.size; simp; omega) _)) (hk3.mono (by have := hbb.size; simp; omega)); clear hk3) | (go_at_call 27; refine (letter_calls B _).mono ?_; rw [Hl.out]; rintro e w' ⟨rfl, rfl⟩) | (go_at_call 29; refine (digit_calls B _).mono ?_; rw [Hd.out]; rintro e w' ⟨rfl, rfl⟩) | (go_at_call 31; refine (blank_calls B _).mono ?_; rw [Hk.out]; rintro e w' ⟨rfl, rfl⟩) | (go_at_call 19; refine (CW.out _).mono ?_; rintro e w4 ⟨rfl, rfl⟩) | (go_at_call 18; refine (CM.out _).mono ?_; rintro e w4 ⟨rfl, rfl⟩) | (go_at_call 20; refine (CQ.out _).mono ?_; rintro e w4 ⟨rfl, rfl⟩))
      all_goals (go_ret; exact ⟨rfl, hB3⟩)
end Go.Proofs.YtpdkfofoeoakmaaDoor
