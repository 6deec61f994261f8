/- What a note, and a string's piece, the lexer reads. No condition but on a text's length. -/
import Derived.Test.YtiinhkfbgecbjaaGreatDoorLx1
import Derived.Lib.TrimByte
import Derived.Lib.IndexLaws
namespace Go.Proofs.YtiinhkfbgecbjaaGreatDoor
set_option linter.unusedSimpArgs false
set_option linter.unusedVariables false
open Go.RowKit Go.Sub

/-- how many slashes a text ends with -/
def backsN (l : List UInt8) : Nat := (l.reverse.takeWhile (· == 92)).length
def oddB (l : List UInt8) : Bool := backsN l % 2 == 1
theorem trimR_len (l : List UInt8) : (Lib.trimRightB l 92).length + backsN l = l.length := by
  unfold Lib.trimRightB backsN
  have h := congrArg List.length (List.takeWhile_append_dropWhile (p := fun x : UInt8 => x == 92) (l := l.reverse))
  rw [List.length_append, List.length_reverse] at h
  rw [List.length_reverse]; omega
set_option maxRecDepth 100000 in
set_option maxHeartbeats 400000 in
theorem odd_calls (s : ByteArray) (w : World) (hs : s.size < 4611686018427387904) :
    Calls Tryz.prog 93 #[.string s] w fun e w' => e = .returned (.bool (oddB s.data.toList)) ∧ w' = w := by
  have hl := trimR_len s.data.toList
  have hc := fun w => Tryz.strings_TrimRight_one s 92 (by decide) w (by omega)
  have hsz := Lib.size_eq s
  have hR : (⟨(Lib.trimRightB s.data.toList 92).toArray⟩ : ByteArray).size = (Lib.trimRightB s.data.toList 92).length := rfl
  generalize (⟨(Lib.trimRightB s.data.toList 92).toArray⟩ : ByteArray) = R at *
  have ho : oddB s.data.toList = decide (((s.size : Int) - (R.size : Int)) % 2 = 1) := by
    unfold oddB
    rw [Bool.eq_iff_iff, beq_iff_eq, decide_eq_true_eq]
    omega
  have Ho := Lib.hid ho
  have Hc := Lib.hid hc
  have hle : R.size ≤ s.size := by omega
  clear ho hc hl hsz hR
  go_enter Tryz.func93, Tryz.ntmps93
  go_wp2_with (go_at_call 94; with_reducible refine (Hc.out _).mono ?_; rintro e w' ⟨rfl, rfl⟩)
  go_ret
  refine ⟨ret_b ?_, rfl⟩
  rw [Ho.out, Bool.eq_iff_iff]
  simp

/-- how many bytes a note has, from a line's begin on -/
def linesN (l : List UInt8) : Nat :=
  if h : Lib.indexByte l 10 < 0 then l.length
  else if !oddB (l.take (Lib.indexByte l 10).toNat) && !oddB (Lib.trimSuffix (l.take (Lib.indexByte l 10).toNat) [13]) then (Lib.indexByte l 10).toNat
  else (Lib.indexByte l 10).toNat + 1 + linesN (l.drop ((Lib.indexByte l 10).toNat + 1))
termination_by l.length
decreasing_by
  simp only [List.length_drop]
  match l, h with
  | [], h => simp [Lib.indexByte] at h
  | _ :: _, _ => simp only [List.length_cons]; omega
def noteN (l : List UInt8) : Nat := match l with
  | [] => 0
  | b :: _ => if b == 35 then linesN l else 0

theorem linesN_none (l : List UInt8) (h : Lib.indexByte l 10 < 0) : linesN l = l.length := by rw [linesN, dif_pos h]
theorem linesN_end (l : List UInt8) (k : Nat) (h : Lib.indexByte l 10 = k) (h2 : (!oddB (l.take k) && !oddB (Lib.trimSuffix (l.take k) [13])) = true) : linesN l = k := by
  rw [linesN, dif_neg (by omega)]
  have e : (Lib.indexByte l 10).toNat = k := by omega
  rw [e, if_pos h2]
theorem linesN_more (l : List UInt8) (k : Nat) (h : Lib.indexByte l 10 = k) (h2 : (!oddB (l.take k) && !oddB (Lib.trimSuffix (l.take k) [13])) = false) : linesN l = k + 1 + linesN (l.drop (k + 1)) := by
  rw [linesN, dif_neg (by omega)]
  have e : (Lib.indexByte l 10).toNat = k := by omega
  rw [e, if_neg (by rw [h2]; simp)]
theorem nl_cases (l : List UInt8) : Lib.indexByte l 10 < 0 ∨ ∃ k : Nat, Lib.indexByte l 10 = k ∧ k < l.length := by
  have h := Lib.indexByte_ge l 10
  by_cases h0 : Lib.indexByte l 10 < 0
  · exact .inl h0
  · refine .inr ⟨(Lib.indexByte l 10).toNat, by omega, ?_⟩
    have := (Lib.indexByte_some (l := l) (c := 10) (o := (Lib.indexByte l 10).toNat) (by omega)).1
    exact (List.getElem?_eq_some_iff.1 this).1
theorem linesN_le : ∀ k (l : List UInt8), l.length ≤ k → linesN l ≤ l.length := by
  intro k
  induction k with
  | zero => intro l h; obtain rfl := List.length_eq_zero_iff.1 (show l.length = 0 by omega); rw [linesN_none _ (by decide)]; omega
  | succ k ih =>
    intro l h
    rcases nl_cases l with h0 | ⟨j, hj, hjl⟩
    · rw [linesN_none l h0]; omega
    · cases h2 : (!oddB (l.take j) && !oddB (Lib.trimSuffix (l.take j) [13]))
      · rw [linesN_more l j hj h2]
        have := ih (l.drop (j + 1)) (by rw [List.length_drop]; omega)
        rw [List.length_drop] at this; omega
      · rw [linesN_end l j hj h2]; omega
theorem noteN_le (l : List UInt8) : noteN l ≤ l.length := by
  match l with
  | [] => simp [noteN]
  | b :: r =>
    show (if b == 35 then linesN (b :: r) else 0) ≤ _
    split
    · exact linesN_le _ _ (Nat.le_refl _)
    · omega
theorem nl_calls (s : ByteArray) (n : Nat) (w : World) :
    Calls Tryz.prog 92 #[.string (s.extract n s.size), .int .u8 10] w fun e w' => e = .returned (.int .i64 (Lib.indexByte (s.data.toList.drop n) 10)) ∧ w' = w := by
  have h := Tryz.strings_IndexByte (s.extract n s.size) 10 w
  rw [ext_data] at h
  exact h
theorem trimcr_calls (s : ByteArray) (w : World) (hs : s.size ≤ 9223372036854775807) :
    Calls Tryz.prog 95 #[.string s, .string ⟨#[13]⟩] w fun e w' => ∃ R : ByteArray, e = .returned (.string R) ∧ w' = w ∧ R.data.toList = Lib.trimSuffix s.data.toList [13] ∧ R.size ≤ s.size := by
  refine (Tryz.strings_TrimSuffix s ⟨#[13]⟩ w hs).mono ?_
  rintro e w' ⟨rfl, rfl⟩
  refine ⟨_, rfl, rfl, rfl, ?_⟩
  rw [Lib.size_eq, Lib.size_eq s]
  exact Lib.trimSuffix_le _ _
theorem line_data (s : ByteArray) (n k : Nat) : (s.extract n (n + k)).data.toList = (s.data.toList.drop n).take k := by
  rw [Lib.extract_data, Nat.add_sub_cancel_left]

set_option maxRecDepth 100000 in
set_option maxHeartbeats 2000000 in
theorem note_calls (s : ByteArray) (w : World) (hs : s.size < 4611686018427387904) (h0 : 0 < s.size) :
    Calls Tryz.prog 76 #[.string s] w fun e w' => e = .returned (.int .i64 (noteN s.data.toList : Nat)) ∧ w' = w := by
  have hn : noteN s.data.toList = if s[0] == 35 then linesN s.data.toList else 0 := by rw [cons_of s h0]; rfl
  cases h35 : (s[0] == 35)
  · rw [h35] at hn
    have Hn := Lib.hid hn
    have y1 : ((s[0].toNat : Int) != 35) = true := byte_bne 35 h35
    have y2 : ((s[0].toNat : Int) = 35) = False := byte_ne 35 h35
    clear hn h35
    go_enter Tryz.func76, Tryz.ntmps76
    go_wp2
    go_ret
    exact ⟨by rw [Hn.out]; rfl, rfl⟩
  · rw [h35, if_pos rfl] at hn
    have Hn := Lib.hid hn
    have y1 : ((s[0].toNat : Int) != 35) = false := by rw [eq_of_beq h35]; rfl
    have Hsz := Lib.hid (Lib.size_eq s)
    clear hn h35
    go_enter Tryz.func76, Tryz.ntmps76
    go_wp2
    clear y1
    go_loopw [3] (fun i wr => ∃ n : Nat, n ≤ s.size ∧ i = .int .i64 n ∧ Hid (n + linesN (s.data.toList.drop n) = linesN s.data.toList) ∧ wr = w) (fun i _ => s.size - (intOf i).toNat)
    case atStart => exact ⟨0, by omega, rfl, Lib.hid (by simp), rfl⟩
    case round =>
      obtain ⟨n, hns, rfl, Hrun, rfl⟩ := hrel
      have hc := nl_calls s n
      rcases nl_cases (s.data.toList.drop n) with hneg | ⟨k, hk, hkl⟩
      · have hl := linesN_none _ hneg
        rw [List.length_drop, ← Hsz.out] at hl
        have Hl := Lib.hid hl
        generalize Lib.indexByte (s.data.toList.drop n) 10 = z at *
        have Hc := Lib.hid hc
        clear hc hl
        go_wp2_with (go_at_call 92; with_reducible refine (Hc.out _).mono ?_; rintro e w' ⟨rfl, rfl⟩)
        go_ret
        refine ⟨ret_n ?_, rfl⟩
        rw [Hn.out, ← Hrun.out, Hl.out]; omega
      · rw [hk] at hc
        rw [List.length_drop, ← Hsz.out] at hkl
        have hle : n + k < s.size := by omega
        have hd := line_data s n k
        have hend := linesN_end (s.data.toList.drop n) k hk
        have hmore := linesN_more (s.data.toList.drop n) k hk
        rw [← hd] at hend hmore
        have ho := odd_calls (s.extract n (n + k))
        have ht := fun w => trimcr_calls (s.extract n (n + k)) w (by have := ext_lt s n (n + k) hs; omega)
        have hsl : (s.extract n (n + k)).size < 4611686018427387904 := ext_lt _ _ _ hs
        generalize hL : s.extract n (n + k) = L at *
        clear hd hk
        cases o1 : oddB L.data.toList
        · rw [o1] at ho
          have ho2 : ∀ R : ByteArray, R.data.toList = Lib.trimSuffix L.data.toList [13] → R.size ≤ L.size → ∀ w, Calls Tryz.prog 93 #[.string R] w fun e w' => e = .returned (.bool (oddB (Lib.trimSuffix L.data.toList [13]))) ∧ w' = w := fun R hR hRs w => by
            have := odd_calls R w (by omega)
            rwa [hR] at this
          cases o2 : oddB (Lib.trimSuffix L.data.toList [13])
          all_goals
            rw [o2] at ho2
            have He := Lib.hid (hend)
            have Hm := Lib.hid (hmore)
            have Hc := Lib.hid hc
            have Ho := Lib.hid ho
            have Ho2 := Lib.hid ho2
            have Ht := Lib.hid ht
            have O1 := Lib.hid o1
            have O2 := Lib.hid o2
            clear hc ho ho2 ht hend hmore o1 o2
            subst hL
          · go_wp2_with (first 
              | (go_at_call 92; with_reducible refine (Hc.out _).mono ?_; rintro e w' ⟨rfl, rfl⟩) 
              | (go_at_call 95; with_reducible refine (Ht.out _).mono ?_; rintro e w' ⟨R, rfl, rfl, hR, hRs⟩; have HR := Lib.hid hR; clear hR) 
              | (go_at_call 93; (first | with_reducible refine (Ho.out _ hsl).mono ?_ | with_reducible refine (Ho2.out R HR.out hRs _).mono ?_); rintro e w' ⟨rfl, rfl⟩))
            go_ret
            refine ⟨ret_n ?_, rfl⟩
            rw [Hn.out, ← Hrun.out, He.out (by rw [O1.out, O2.out]; rfl)]
          · go_wp2_with (first 
              | (go_at_call 92; with_reducible refine (Hc.out _).mono ?_; rintro e w' ⟨rfl, rfl⟩) 
              | (go_at_call 95; with_reducible refine (Ht.out _).mono ?_; rintro e w' ⟨R, rfl, rfl, hR, hRs⟩; have HR := Lib.hid hR; clear hR) 
              | (go_at_call 93; (first | with_reducible refine (Ho.out _ hsl).mono ?_ | with_reducible refine (Ho2.out R HR.out hRs _).mono ?_); rintro e w' ⟨rfl, rfl⟩))
            go_roundw
            case rel => exact ⟨n + (k + 1), by omega, by go_num, Lib.hid (by have := Hrun.out; rw [Hm.out (by rw [O1.out, O2.out]; rfl), List.drop_drop] at this; omega), trivial⟩
            case measure => simp [intOf]; omega
        · rw [o1] at ho
          have Hm := Lib.hid (hmore)
          have Hc := Lib.hid hc
          have Ho := Lib.hid ho
          have O1 := Lib.hid o1
          clear hc ho ht hend hmore o1
          subst hL
          go_wp2_with (first 
            | (go_at_call 92; with_reducible refine (Hc.out _).mono ?_; rintro e w' ⟨rfl, rfl⟩) 
            | (go_at_call 95; with_reducible refine (Ht.out _).mono ?_; rintro e w' ⟨R, rfl, rfl, hR, hRs⟩; have HR := Lib.hid hR; clear hR) 
            | (go_at_call 93; (first | with_reducible refine (Ho.out _ hsl).mono ?_ | with_reducible refine (Ho2.out R HR.out hRs _).mono ?_); rintro e w' ⟨rfl, rfl⟩))
          go_roundw
          case rel => exact ⟨n + (k + 1), by omega, by go_num, Lib.hid (by have := Hrun.out; rw [Hm.out (by rw [O1.out]; rfl), List.drop_drop] at this; omega), trivial⟩
          case measure => simp [intOf]; omega
end Go.Proofs.YtiinhkfbgecbjaaGreatDoor
