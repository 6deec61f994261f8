/- Where bytes are no UTF-8, as the program reads it. Its condition: a text of fewer than 2^62 bytes. -/
import Derived.Test.YtiinhkfbgecbjaaGreatDoorLx4
namespace Go.Proofs.YtiinhkfbgecbjaaGreatDoor
set_option linter.unusedSimpArgs false
set_option linter.unusedVariables false
open Go.RowKit Go.Sub

theorem decode_step (s : ByteArray) (pos : Nat) (h : pos < s.size) : 1 ≤ (Utf8.decode s pos).2 ∧ pos + (Utf8.decode s pos).2 ≤ s.size := by
  by_cases hb : s[pos].toNat < 128
  · rw [decode_ascii s pos h hb]; exact ⟨Nat.le_refl _, h⟩
  · exact ⟨(Go.decode_high s pos h (by omega)).2, (decode_far s pos h (by omega)).1⟩
def badAt (s : ByteArray) (pos : Nat) : Bool := (Utf8.decode s pos).1 == 65533 && !Lib.hasPrefix (s.data.toList.drop pos) [239, 191, 189]
/-- the first place, from one on, where no rune stands -/
def checkFrom (s : ByteArray) (pos : Nat) : Int :=
  if h : pos < s.size then (if badAt s pos then (pos : Int) else checkFrom s (pos + (Utf8.decode s pos).2)) else -1
termination_by s.size - pos
decreasing_by
  have := decode_step s pos h
  omega
theorem check_end {s : ByteArray} {pos : Nat} (h : ¬ pos < s.size) : checkFrom s pos = -1 := by rw [checkFrom, dif_neg h]
theorem check_bad {s : ByteArray} {pos : Nat} (h : pos < s.size) (hb : badAt s pos = true) : checkFrom s pos = pos := by rw [checkFrom, dif_pos h, if_pos hb]
theorem check_good {s : ByteArray} {pos : Nat} (h : pos < s.size) (hb : badAt s pos = false) : checkFrom s pos = checkFrom s (pos + (Utf8.decode s pos).2) := by rw [checkFrom, dif_pos h, if_neg (by rw [hb]; simp)]
theorem check_range (s : ByteArray) : ∀ k pos, s.size - pos ≤ k → checkFrom s pos = -1 ∨ (0 ≤ checkFrom s pos ∧ checkFrom s pos < s.size) := by
  intro k
  induction k with
  | zero => intro pos h; exact .inl (check_end (by omega))
  | succ k ih =>
    intro pos h
    by_cases hlt : pos < s.size
    · cases hb : badAt s pos
      · rw [check_good hlt hb]
        have := decode_step s pos hlt
        exact ih _ (by omega)
      · rw [check_bad hlt hb]; exact .inr ⟨by omega, by omega⟩
    · exact .inl (check_end hlt)

set_option maxRecDepth 100000 in
set_option maxHeartbeats 2000000 in
theorem check_calls (s : ByteArray) (w : World) (hs : s.size < 4611686018427387904) :
    Calls Tryz.prog 40 #[.string s] w fun e w' => e = .returned (.int .i64 (checkFrom s 0)) ∧ Below w.heap.size w w' := by
  go_enter Tryz.func40, Tryz.ntmps40
  go_wp2
  go_loopw [] (fun wr => ∃ pos : Nat, pos ≤ s.size ∧ Hid (checkFrom s pos = checkFrom s 0) ∧ wr = w.iter s pos) (fun wr => s.size - wr.iterPos w.heap.size)
  case atStart => exact ⟨0, by omega, Lib.hid rfl, rfl⟩
  case round =>
    obtain ⟨pos, hp, Hc, rfl⟩ := hrel
    have hB : Below w.heap.size w (w.iter s pos) := (Below.refl _ _).alloc (Nat.le_refl _) _
    by_cases hlt : pos < s.size
    · have hn := fun ty => run_next_any (P := Tryz.prog) w s pos ty hlt
      obtain ⟨d1, d2⟩ := decode_step s pos hlt
      have hpre := fun w => Tryz.strings_HasPrefix (s.extract pos s.size) ⟨#[239, 191, 189]⟩ w
      rw [ext_data] at hpre
      have hbad := check_bad (s := s) hlt
      have hgood := check_good (s := s) hlt
      unfold badAt at hbad hgood
      have HB2 := Lib.hid (show ∀ k, Below w.heap.size w (w.iter s k) from fun k => (Below.refl _ _).alloc (Nat.le_refl _) _)
      generalize Utf8.decode s pos = D at *
      obtain ⟨r, k⟩ := D
      dsimp only at *
      have hpre2 : ∀ w, Calls Tryz.prog 58 #[.string (s.extract pos s.size), .string ⟨#[239, 191, 189]⟩] w fun e w' => e = .returned (.bool (Lib.hasPrefix (s.data.toList.drop pos) [239, 191, 189])) ∧ w' = w := hpre
      clear hpre
      generalize Lib.hasPrefix (s.data.toList.drop pos) [239, 191, 189] = b at *
      by_cases h65 : r = 65533
      · subst h65
        cases b
        · have Hb := Lib.hid (hbad rfl)
          have Hpre := Lib.hid hpre2
          clear hbad hgood hpre2
          go_wp2_with (go_at_call 58; with_reducible refine (Hpre.out _).mono ?_; rintro e w4 ⟨rfl, rfl⟩)
          go_ret
          exact ⟨by rw [← Hc.out, Hb.out]; rfl, HB2.out _⟩
        · have Hg := Lib.hid (hgood rfl)
          have Hpre := Lib.hid hpre2
          clear hbad hgood hpre2
          go_wp2_with (go_at_call 58; with_reducible refine (Hpre.out _).mono ?_; rintro e w4 ⟨rfl, rfl⟩)
          go_roundw
          case rel => exact ⟨pos + k, d2, Lib.hid (by rw [← Hg.out]; exact Hc.out), rfl⟩
          case measure => simp; omega
      · have y1 : ((r : Int) == 65533) = false := by rw [beq_eq_false_iff_ne]; omega
        have y2 : ((r : Int) = 65533) = False := by apply eq_false; omega
        have Hg := Lib.hid (hgood (by rw [show (r == 65533) = false by simpa using h65]; rfl))
        clear hbad hgood hpre2 h65
        go_wp2
        go_roundw
        case rel => exact ⟨pos + k, d2, Lib.hid (by rw [← Hg.out]; exact Hc.out), rfl⟩
        case measure => simp; omega
    · have hn := fun ty => run_next_end (P := Tryz.prog) w s pos ty hlt
      have He := Lib.hid (check_end (s := s) hlt)
      go_wp2
      go_ret
      exact ⟨by rw [← Hc.out, He.out]; rfl, hB⟩
end Go.Proofs.YtiinhkfbgecbjaaGreatDoor
