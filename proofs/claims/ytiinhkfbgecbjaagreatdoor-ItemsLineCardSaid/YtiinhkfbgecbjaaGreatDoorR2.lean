/- The document's own words and numbers, as the program reads them. No condition. -/
import Derived.Test.YtiinhkfbgecbjaaGreatDoorR1
import Derived.Test.YtiinhkfbgecbjaaGreatDoorL8
import Derived.Deep.DeepCutAuto
namespace Go.Proofs.YtiinhkfbgecbjaaGreatDoor
set_option linter.unusedSimpArgs false
set_option linter.unusedVariables false
open Go.RowKit Go.Sub

theorem rsimple_ext (s : ByteArray) (k : Nat) (hs : s.size < 4611686018427387904) (w : World) :
    Calls Tryz.prog 68 #[.string (s.extract k s.size)] w fun e w' => e = .returned (.int .i64 (simpleN (s.data.toList.drop k) : Nat)) ∧ w' = w := by
  have := rsimple_calls (s.extract k s.size) w (ext_lt _ _ _ hs)
  rwa [ext_data] at this
theorem rdigits_ext (s : ByteArray) (k : Nat) (hs : s.size < 4611686018427387904) (w : World) :
    Calls Tryz.prog 70 #[.string (s.extract k s.size)] w fun e w' => e = .returned (.int .i64 (runOf isDigit (s.data.toList.drop k) : Nat)) ∧ w' = w := by
  have := rdigits_calls (s.extract k s.size) w (ext_lt _ _ _ hs)
  rwa [ext_data] at this
theorem colons_spec (s : ByteArray) (n : Nat) (h : n + 2 < s.size) : ((s.extract n (n + 2)).toList == [58, 58]) = Lib.hasPrefix (s.data.toList.drop n) [58, 58] := by
  rw [Lib.toList_data, Lib.extract_data, Nat.add_sub_cancel_left]
  have hl : 2 < (s.data.toList.drop n).length := by rw [List.length_drop, ← Lib.size_eq]; omega
  generalize s.data.toList.drop n = l at hl
  match l, hl with
  | a :: b :: r, _ =>
    show ([a, b] == [58, 58]) = _
    unfold Lib.hasPrefix
    rw [Bool.eq_iff_iff, beq_iff_eq, List.isPrefixOf_iff_prefix]
    constructor
    · intro h
      injection h with h1 h
      injection h with h2 _
      subst h1; subst h2
      exact ⟨r, rfl⟩
    · rintro ⟨t, ht⟩
      injection ht with h1 ht
      injection ht with h2 _
      subst h1; subst h2
      rfl
theorem more_short (l : List UInt8) (h : l.length ≤ 2) : moreN l = 0 := by
  cases hp : Lib.hasPrefix l [58, 58]
  · exact moreN_miss l hp
  · refine moreN_none l hp ?_
    rw [List.drop_eq_nil_of_le h]; rfl

set_option maxHeartbeats 1000000 in
set_option maxRecDepth 20000 in
theorem rword_calls (s : ByteArray) (w : World) (hs : s.size < 4611686018427387904) :
    Calls Tryz.prog 53 #[.string s] w fun e w' => e = .returned (.int .i64 (wordN s.data.toList : Nat)) ∧ w' = w := by
  have hsz := Lib.size_eq s
  have hle := simpleN_le s.data.toList
  have h1 : (simpleN s.data.toList = 0 ∧ wordN s.data.toList = 0) ∨ (0 < simpleN s.data.toList ∧ simpleN s.data.toList + moreN (s.data.toList.drop (simpleN s.data.toList)) = wordN s.data.toList) := by
    unfold wordN
    by_cases h : simpleN s.data.toList = 0
    · left; rw [if_pos h]; exact ⟨h, rfl⟩
    · right; rw [if_neg h]; exact ⟨by omega, rfl⟩
  have hsim := rsimple_calls s w hs
  rw [← hsz] at hle
  generalize simpleN s.data.toList = k0 at *
  have Hsim := Lib.hid hsim
  have H1 := Lib.hid h1
  have Hsz := Lib.hid hsz
  clear hsim h1 hsz
  go_enter Tryz.func53, Tryz.ntmps53
  go_wp2_with (go_at_call 68; refine Hsim.out.mono ?_; rintro e w' ⟨rfl, rfl⟩)
  clear Hsim
  go_loopw [3] (fun i wr => ∃ n : Nat, n ≤ s.size ∧ i = .int .i64 n ∧ Hid ((n = 0 ∧ wordN s.data.toList = 0) ∨ (0 < n ∧ n + moreN (s.data.toList.drop n) = wordN s.data.toList)) ∧ wr = w') (fun i _ => s.size - (intOf i).toNat)
  case atStart => exact ⟨k0, hle, rfl, H1, rfl⟩
  case round =>
    clear H1
    obtain ⟨n, hn, rfl, Hrun, rfl⟩ := hrel
    by_cases h0 : n = 0
    · have he : wordN s.data.toList = 0 := (Hrun.out.elim (fun h => h.2) fun h => absurd h0 (by have := h.1; omega))
      subst h0
      have He := Lib.hid he
      clear he
      go_wp2
      go_ret
      exact ⟨by rw [He.out]; rfl, rfl⟩
    · have hpos : 0 < n := by omega
      have hrun : n + moreN (s.data.toList.drop n) = wordN s.data.toList := (Hrun.out.resolve_left fun h => h0 h.1).2
      have Hr := Lib.hid hrun
      clear hrun Hrun h0
      by_cases h2 : n + 2 < s.size
      · have hcs := colons_spec s n h2
        cases hp : Lib.hasPrefix (s.data.toList.drop n) [58, 58]
        · rw [hp] at hcs
          have hm := moreN_miss _ hp
          have Hm := Lib.hid hm
          clear hm hp
          go_wp2
          go_ret
          refine ⟨ret_nat ?_, rfl⟩
          have := Hr.out; rw [Hm.out] at this; exact this
        · rw [hp] at hcs
          have hk := rsimple_ext s (n + 2) hs
          have hkl := simpleN_le (s.data.toList.drop (n + 2))
          rw [List.length_drop, ← Lib.size_eq] at hkl
          have hm0 : simpleN (s.data.toList.drop (n + 2)) = 0 → moreN (s.data.toList.drop n) = 0 := fun h => moreN_none _ hp (by rw [List.drop_drop]; exact h)
          have hm1 : simpleN (s.data.toList.drop (n + 2)) ≠ 0 → moreN (s.data.toList.drop n) = 2 + simpleN (s.data.toList.drop (n + 2)) + moreN (s.data.toList.drop (n + (2 + simpleN (s.data.toList.drop (n + 2))))) := fun h => by
            rw [moreN_hit (s.data.toList.drop n) _ hp (by rw [List.drop_drop]) h, List.drop_drop]
          generalize simpleN (s.data.toList.drop (n + 2)) = k at *
          have Hk := Lib.hid hk
          have Hm0 := Lib.hid hm0
          have Hm1 := Lib.hid hm1
          clear hk hm0 hm1 hp
          by_cases hk0 : k = 0
          · subst hk0
            go_wp2_with (go_at_call 68; refine (Hk.out _).mono ?_; rintro e w' ⟨rfl, rfl⟩)
            go_ret
            refine ⟨ret_nat ?_, rfl⟩
            have := Hr.out; rw [Hm0.out trivial] at this; exact this
          · have hkp : 0 < k := by omega
            go_wp2_with (go_at_call 68; refine (Hk.out _).mono ?_; rintro e w' ⟨rfl, rfl⟩)
            go_roundw
            case rel => exact ⟨n + (2 + k), by omega, by go_num, Lib.hid (.inr ⟨by omega, by have := Hr.out; rw [Hm1.out hk0] at this; omega⟩), trivial⟩
            case measure => simp [intOf]; omega
      · have hm := more_short (s.data.toList.drop n) (by rw [List.length_drop, ← Hsz.out]; omega)
        have Hm := Lib.hid hm
        clear hm
        go_wp2
        go_ret
        refine ⟨ret_nat ?_, rfl⟩
        have := Hr.out; rw [Hm.out] at this; exact this
end Go.Proofs.YtiinhkfbgecbjaaGreatDoor
