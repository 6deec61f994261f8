/- What words the program reads. No condition. -/
import Derived.Test.YtiinhkfbgecbjaaGreatDoorSg3
import Derived.Lib.Bytes2
namespace Go.Proofs.YtiinhkfbgecbjaaGreatDoor
set_option linter.unusedSimpArgs false
set_option linter.unusedVariables false
open Go.RowKit

def moreN (l : List UInt8) : Nat :=
  if _h : Lib.hasPrefix l [58, 58] = true then (if simpleN (l.drop 2) = 0 then 0 else 2 + simpleN (l.drop 2) + moreN (l.drop (2 + simpleN (l.drop 2)))) else 0
termination_by l.length
decreasing_by
  have := Lib.hasPrefix_le _h
  simp only [List.length_drop]
  simp at this
  omega
def wordN (l : List UInt8) : Nat := if simpleN l = 0 then 0 else simpleN l + moreN (l.drop (simpleN l))

theorem simpleN_le (l : List UInt8) : simpleN l ≤ l.length := by
  match l with
  | [] => simp [simpleN]
  | b :: r =>
    have := runOf_le isPart (b :: r)
    show (if isLetter b then runOf isPart (b :: r) else 0) ≤ _
    split <;> omega
theorem cut_calls (s p : ByteArray) (hp : p.data.toList = [58, 58]) (w : World) :
    Calls Tryz.prog 97 #[.string s, .string p] w fun e w' => ∃ R : ByteArray, e = .returned (.tuple #[.string R, .bool (Lib.hasPrefix s.data.toList [58, 58])]) ∧ w' = w ∧ R.data.toList = Lib.trimPrefix s.data.toList [58, 58] ∧ R.size ≤ s.size := by
  refine (Tryz.strings_CutPrefix _ _ _).mono ?_
  rintro e w' ⟨rfl, rfl⟩
  exact ⟨⟨(Lib.trimPrefix s.data.toList [58, 58]).toArray⟩, by rw [hp], rfl, rfl, by rw [Lib.size_eq, Lib.size_eq s]; exact Lib.trimPrefix_le _ _⟩
theorem moreN_miss (l : List UInt8) (h : Lib.hasPrefix l [58, 58] = false) : moreN l = 0 := by
  rw [moreN, dif_neg (by rw [h]; simp)]
theorem moreN_none (l : List UInt8) (h : Lib.hasPrefix l [58, 58] = true) (hk : simpleN (l.drop 2) = 0) : moreN l = 0 := by
  rw [moreN, dif_pos h, if_pos hk]
theorem moreN_hit (l : List UInt8) (k : Nat) (h : Lib.hasPrefix l [58, 58] = true) (hk : simpleN (l.drop 2) = k) (h0 : k ≠ 0) : moreN l = 2 + k + moreN (l.drop (2 + k)) := by
  rw [moreN, dif_pos h, if_neg (by rw [hk]; exact h0), hk]
theorem tp_two (l : List UInt8) (h : Lib.hasPrefix l [58, 58] = true) : Lib.trimPrefix l [58, 58] = l.drop 2 := by
  unfold Lib.trimPrefix; rw [if_pos h]; rfl
theorem drop_take (s : ByteArray) (n : Nat) : (s.data.toList.drop n).take (s.size - n) = s.data.toList.drop n := by
  rw [← Lib.extract_data, ext_data]

set_option maxHeartbeats 1000000 in
set_option maxRecDepth 20000 in
theorem word_calls (s : ByteArray) (w : World) (hs : s.size < 4611686018427387904) :
    Calls Tryz.prog 77 #[.string s] w fun e w' => e = .returned (.int .i64 (wordN s.data.toList : Nat)) ∧ w' = w := by
  have h1 := simpleN_le s.data.toList
  rw [← Lib.size_eq] at h1
  have Hw := Lib.hid (show wordN s.data.toList = if simpleN s.data.toList = 0 then 0 else simpleN s.data.toList + moreN (s.data.toList.drop (simpleN s.data.toList)) from rfl)
  have hcall := simple_calls s w hs
  have Hsz := Lib.hid (Lib.size_eq s)
  generalize simpleN s.data.toList = n0 at *
  go_enter Tryz.func77, Tryz.ntmps77
  go_wp2_with (go_at_call 96; with_reducible refine hcall.mono ?_; rintro e w' ⟨rfl, rfl⟩)
  clear hcall
  go_loopw [3, 4, 5, 6] (fun i _ _ _ wr => ∃ n : Nat, n ≤ s.size ∧ i = .int .i64 n ∧ (wordN s.data.toList = if n = 0 then 0 else n + moreN (s.data.toList.drop n)) ∧ wr = w') (fun i _ _ _ _ => s.size - (intOf i).toNat)
  case atStart => exact ⟨n0, h1, rfl, Hw.out, rfl⟩
  case round =>
    clear Hw
    obtain ⟨n, hn, rfl, hw, rfl⟩ := hrel
    have Hw := Lib.hid hw
    clear hw
    by_cases h0 : n = 0
    · subst h0
      go_wp2
      go_ret
      exact ⟨by rw [Hw.out]; rfl, rfl⟩
    · have hn0 : decide ((0 : Int) < (n : Int)) = true := by rw [decide_eq_true_iff]; omega
      go_wp2_with (first
        | (go_at_call 97; refine (cut_calls _ _ (by decide +kernel) _).mono ?_; rintro e w' ⟨R, rfl, rfl, hR, hle⟩; have hsR : R.size < 4611686018427387904 := Nat.lt_of_le_of_lt hle (ext_lt _ _ _ hs); have Hle := Lib.hid hle; clear hle; have HR := Lib.hid hR; clear hR)
        | (go_at_call 96; refine (simple_calls _ _ (by assumption)).mono ?_; rintro e w' ⟨rfl, rfl⟩))
      · have g1 : Lib.hasPrefix ((s.data.toList.drop n).take (s.size - n)) [58, 58] = true := by assumption
        have g2 : (((simpleN R.data.toList : Nat) : Int) == 0) = true := by assumption
        go_ret
        refine ⟨?_, rfl⟩
        rw [drop_take] at g1
        have g3 := HR.out
        rw [ext_data, tp_two _ g1] at g3
        have g4 : simpleN R.data.toList = 0 := by have := eq_of_beq g2; omega
        rw [g3] at g4
        rw [Hw.out, if_neg h0, moreN_none _ g1 g4]; rfl
      · have g1 : Lib.hasPrefix ((s.data.toList.drop n).take (s.size - n)) [58, 58] = true := by assumption
        have g2 : (((simpleN R.data.toList : Nat) : Int) == 0) = false := by assumption
        rw [drop_take] at g1
        have g3 := HR.out
        rw [ext_data, tp_two _ g1] at g3
        have g4 : simpleN R.data.toList ≠ 0 := by have := beq_eq_false_iff_ne.1 g2; omega
        have g5 := moreN_hit _ _ g1 (by rw [← g3]) g4
        have g6 := simpleN_le R.data.toList
        have g7 : R.data.toList.length + 2 ≤ s.size - n := by
          have := Lib.hasPrefix_le g1
          simp only [List.length_drop, List.length_cons, List.length_nil] at this
          rw [g3, List.length_drop, List.length_drop, Hsz.out]; omega
        have g8 : wordN s.data.toList = n + (2 + simpleN R.data.toList) + moreN (s.data.toList.drop (n + (2 + simpleN R.data.toList))) := by
          rw [Hw.out, if_neg h0, g5, List.drop_drop, Nat.add_assoc n]
        have G8 := Lib.hid g8
        rw [← Lib.size_eq] at g6 g7
        clear g8 g5 g3 g1
        generalize simpleN R.data.toList = k at *
        have e : wrap64 ((n : Int) + wrap64 (2 + (k : Int))) = ((n + (2 + k) : Nat) : Int) := by
          rw [IntWalk.wrap64_in (2 + _) (by omega), IntWalk.wrap64_in _ (by omega)]; omega
        rw [e]
        refine ⟨⟨n + (2 + k), by omega, rfl, ?_, trivial⟩, ?_⟩
        · rw [if_neg (by omega)]; exact G8.out
        · simp only [intOf]; omega
      · have g1 : ¬ Lib.hasPrefix ((s.data.toList.drop n).take (s.size - n)) [58, 58] = true := by assumption
        go_ret
        refine ⟨?_, rfl⟩
        rw [drop_take] at g1
        rw [Hw.out, if_neg h0, moreN_miss _ (by simpa using g1)]; rfl

theorem wordN_le (l : List UInt8) : wordN l ≤ l.length := by
  have h : ∀ k (l : List UInt8), l.length ≤ k → moreN l ≤ l.length := by
    intro k
    induction k with
    | zero => intro l h; rw [moreN_miss _ (by have : l = [] := List.length_eq_zero_iff.1 (by omega); subst this; rfl)]; omega
    | succ k ih =>
      intro l hl
      cases hp : Lib.hasPrefix l [58, 58]
      · rw [moreN_miss _ hp]; omega
      · have h2 := Lib.hasPrefix_le hp
        simp only [List.length_cons, List.length_nil] at h2
        by_cases hk : simpleN (l.drop 2) = 0
        · rw [moreN_none _ hp hk]; omega
        · rw [moreN_hit _ _ hp rfl hk]
          have h3 := simpleN_le (l.drop 2)
          rw [List.length_drop] at h3
          have h4 := ih (l.drop (2 + simpleN (l.drop 2))) (by rw [List.length_drop]; omega)
          rw [List.length_drop] at h4
          omega
  have h1 := simpleN_le l
  have h2 := h _ (l.drop (simpleN l)) (Nat.le_refl _)
  rw [List.length_drop] at h2
  unfold wordN; split <;> omega

end Go.Proofs.YtiinhkfbgecbjaaGreatDoor
