/- The walks of PrecPipe and PrecNone: each returns true, of every input; the table of blanks being laid. -/
import Derived.Test.YtbjhfkaboncpoaaDoorT8
namespace Go.Proofs.YtbjhfkaboncpoaaDoor
open Go.RowKit Go.Shelf Go.Sub

theorem level_one (x : OpX) (h : x ∈ opsX) : 1 ≤ levelI x.1 ∧ levelI x.1 ≤ 9 := by
  obtain ⟨e, _, _⟩ := op_level x h
  obtain ⟨b1, b2, _, _⟩ := opsX_bound x h
  omega

set_option maxRecDepth 100000 in
set_option maxHeartbeats 1000000 in
theorem pipe_core (k : Int) (hk0 : 0 ≤ k) (hk1 : k ≤ 255) (a : ByteArray)
    (ha : ∀ W B, OpersAt W B → W.cell? ⟨B, (k % 24).toNat, none⟩ = some (.string a)) (h1 : 1 ≤ levelI a) (h9 : levelI a ≤ 9) (w : World) (hT : TabX w) :
    Calls Tryd.prog 4 #[.int .u8 k] w fun e w' => e = .returned (.bool true) ∧ Below w.heap.size w w' := by
  have k1 : levelI ⟨#[124]⟩ = 1 := by decide +kernel
  have k2 : levelI ⟨#[42]⟩ = 9 := by decide +kernel
  have k3 : levelI ⟨#[44]⟩ = 2 := by decide +kernel
  have k4 : levelI ⟨#[111, 114]⟩ = 5 := by decide +kernel
  have k5 : levelI ⟨#[97, 110, 100]⟩ = 6 := by decide +kernel
  have k6 : levelI ⟨#[47, 47]⟩ = 3 := by decide +kernel
  have k7 : levelI ⟨#[61]⟩ = 4 := by decide +kernel
  have hB := Below.refl w.heap.size w
  have Ha := Lib.hid ha
  clear ha
  go_enter Tryd.func4, Tryd.ntmps4
  go_wp2_with (first
    | (go_at_call 8; refine (opers_calls _ hT).mono ?_; rintro e w' ⟨B, rfl, hcc, hb⟩; have hca := Ha.out _ _ hcc; clear hcc; replace hT := TabX.below hT hb; replace hB := hB.trans (hb.mono hB.size); clear hb)
    | (go_at_call 9; refine (level_calls _ _ hT).mono ?_; rintro e w' ⟨rfl, hb⟩; replace hT := TabX.below hT hb; replace hB := hB.trans (hb.mono hB.size); clear hb)
    | (go_at_call 12; refine (known_calls _ hT).mono ?_; rintro e w' ⟨rfl, hb⟩; replace hT := TabX.below hT hb; replace hB := hB.trans (hb.mono hB.size); clear hb))
  go_ret
  exact ⟨rfl, hB⟩

/-- is s among the first n operators -/
def among (s : ByteArray) (n : Nat) : Bool := (opsX.take n).any fun x => x.1.toList == s.toList
theorem among_succ (s : ByteArray) (n : Nat) (x : OpX) (h : opsX[n]? = some x) : among s (n + 1) = (among s n || (x.1.toList == s.toList)) := by
  obtain ⟨hn, e⟩ := List.getElem?_eq_some_iff.1 h
  unfold among
  rw [List.take_succ_eq_append_getElem hn, e]
  simp
theorem beq_ba (a b : ByteArray) : (a.toList == b.toList) = decide (a = b) := by
  have := list_ba a.toList b
  rw [this]
  congr 1
  rw [ByteArray.toList_eq]
theorem among_level (s : ByteArray) : among s 24 = decide (0 < levelI s) := by
  have e : opsX.take 24 = opsX := List.take_of_length_le (by rw [opsX_length]; exact Nat.le_refl _)
  unfold among
  rw [e]
  cases h : infoX s opsX with
  | none =>
    have h0 : levelI s = 0 := by unfold levelI; rw [h]; rfl
    rw [h0]
    simp only [Int.lt_irrefl, decide_false, List.any_eq_false]
    intro x hx
    rw [beq_ba]
    simp only [decide_eq_true_eq]
    intro e
    have := op_facts x hx
    rw [e, h] at this
    cases this
  | some p =>
    have hx : ∃ x ∈ opsX, x.1 = s := by
      have : ∀ l : List OpX, infoX s l = some p → ∃ x ∈ l, x.1 = s := by
        intro l
        induction l with
        | nil => intro h; cases h
        | cons y r ih =>
          intro h
          unfold infoX at h
          by_cases hy : y.1 = s
          · exact ⟨y, List.mem_cons_self, hy⟩
          · rw [if_neg hy] at h
            obtain ⟨x, hx, e⟩ := ih h
            exact ⟨x, List.mem_cons_of_mem _ hx, e⟩
      exact this opsX h
    obtain ⟨x, hx, rfl⟩ := hx
    have h1 := (level_one x hx).1
    rw [decide_eq_true (by omega), List.any_eq_true]
    exact ⟨x, hx, by simp⟩
theorem noOp (s : ByteArray) (h : ¬ 0 < levelI s) : levelI s = 0 ∧ sideI s = 0 ∧ besideI s 1 = 0 ∧ besideI s 2 = 0 := by
  have hop := isOp_level s
  rw [decide_eq_false (by omega)] at hop
  have hn : infoX s opsX = none := by
    unfold isOp at hop
    cases h : infoX s opsX with
    | none => rfl
    | some p => rw [h] at hop; cases hop
  unfold besideI
  rw [hop]
  unfold levelI sideI
  rw [hn]
  exact ⟨rfl, rfl, rfl, rfl⟩

set_option maxRecDepth 100000 in
set_option maxHeartbeats 2000000 in
theorem none_core (s : ByteArray) (k : Int) (hk0 : 0 ≤ k) (hk1 : k ≤ 255) (w : World) (hT : TabX w) :
    Calls Tryd.prog 7 #[.string s, .int .u8 k] w fun e w' => e = .returned (.bool true) ∧ Below w.heap.size w w' := by
  have hB := Below.refl w.heap.size w
  have Hal := Lib.hid (among_level s)
  have Hno := Lib.hid (noOp s)
  go_enter Tryd.func7, Tryd.ntmps7
  go_wp2_with (go_at_call 8; refine (opers_calls _ hT).mono ?_; rintro e w' ⟨B, rfl, hcc, hb⟩; have Hcc := Lib.hid hcc; clear hcc; replace hT := TabX.below hT hb; replace hB := hB.trans (hb.mono hB.size); clear hb)
  go_loop [6, 7] (fun is i => ∃ n : Nat, n ≤ 24 ∧ i = .int .i64 n ∧ is = .bool (among s n)) (fun _ i => 24 - (intOf i).toNat)
  case atStart => exact ⟨0, by omega, rfl, rfl⟩
  case round =>
    obtain ⟨n, hn, rfl, rfl⟩ := hrel
    by_cases hlt : n < 24
    · obtain ⟨x, hx, hxm⟩ := op_at n hlt
      have hc := Hcc.out n x hx
      have Hs := Lib.hid (among_succ s n x hx)
      clear hx
      cases hal : among s n with
      | true =>
        rw [hal] at Hs
        have Hs2 : Hid (among s (n + 1) = true) := by have := Hs.out; exact this
        have Hal2 := Lib.hid hal
        clear Hs hal
        go_wp2
        go_round
        case rel => exact ⟨n + 1, by omega, by go_num, by rw [Hs2.out]⟩
        case measure => simp [intOf]; omega
      | false =>
        rw [hal] at Hs
        have Hs2 := Lib.hid (p := among s (n + 1) = (x.1.toList == s.toList)) (by have := Hs.out; simpa using this)
        have Hal2 := Lib.hid hal
        clear Hs hal
        go_wp2
        go_round
        case rel => exact ⟨n + 1, by omega, by go_num, by rw [Hs2.out]⟩
        case measure => simp [intOf]; omega
    · obtain rfl : n = 24 := by omega
      have hal := Hal.out
      by_cases hl : 0 < levelI s
      · rw [decide_eq_true hl] at hal
        by_cases hk : k % 15 = 3 ∨ k % 15 = 13
        · have ho : ofS (k % 15) s = s := by unfold ofS; rw [if_pos ⟨hk, hl⟩]
          have Hal2 := Lib.hid hal
          clear hal
          rcases hk with hk | hk
          all_goals
            rw [Hal2.out]
            go_wp2_with (first
            | (go_at_call 9; refine (level_calls _ _ hT).mono ?_; rintro e w' ⟨rfl, hb⟩; replace hT := TabX.below hT hb; replace hB := hB.trans (hb.mono hB.size); clear hb)
            | (go_at_call 13; refine (side_calls _ _ hT).mono ?_; rintro e w' ⟨rfl, hb⟩; replace hT := TabX.below hT hb; replace hB := hB.trans (hb.mono hB.size); clear hb)
            | (go_at_call 10; refine (left_calls _ _ hT).mono ?_; rintro e w' ⟨rfl, hb⟩; replace hT := TabX.below hT hb; replace hB := hB.trans (hb.mono hB.size); clear hb)
            | (go_at_call 11; refine (right_calls _ _ hT).mono ?_; rintro e w' ⟨rfl, hb⟩; replace hT := TabX.below hT hb; replace hB := hB.trans (hb.mono hB.size); clear hb)
            | (go_at_call 16; refine (of_calls _ _ _ hT).mono ?_; rintro e w' ⟨rfl, hb⟩; replace hT := TabX.below hT hb; replace hB := hB.trans (hb.mono hB.size); clear hb)
            | (go_at_call 12; refine (known_calls _ hT).mono ?_; rintro e w' ⟨rfl, hb⟩; replace hT := TabX.below hT hb; replace hB := hB.trans (hb.mono hB.size); clear hb))
            all_goals go_ret
            all_goals exact ⟨rfl, hB⟩
        · have ho : ofS (k % 15) s = ByteArray.empty := by unfold ofS; rw [if_neg fun h => hk h.1]
          rw [hal]
          clear hal hk
          go_wp2_with (first
            | (go_at_call 9; refine (level_calls _ _ hT).mono ?_; rintro e w' ⟨rfl, hb⟩; replace hT := TabX.below hT hb; replace hB := hB.trans (hb.mono hB.size); clear hb)
            | (go_at_call 13; refine (side_calls _ _ hT).mono ?_; rintro e w' ⟨rfl, hb⟩; replace hT := TabX.below hT hb; replace hB := hB.trans (hb.mono hB.size); clear hb)
            | (go_at_call 10; refine (left_calls _ _ hT).mono ?_; rintro e w' ⟨rfl, hb⟩; replace hT := TabX.below hT hb; replace hB := hB.trans (hb.mono hB.size); clear hb)
            | (go_at_call 11; refine (right_calls _ _ hT).mono ?_; rintro e w' ⟨rfl, hb⟩; replace hT := TabX.below hT hb; replace hB := hB.trans (hb.mono hB.size); clear hb)
            | (go_at_call 16; refine (of_calls _ _ _ hT).mono ?_; rintro e w' ⟨rfl, hb⟩; replace hT := TabX.below hT hb; replace hB := hB.trans (hb.mono hB.size); clear hb)
            | (go_at_call 12; refine (known_calls _ hT).mono ?_; rintro e w' ⟨rfl, hb⟩; replace hT := TabX.below hT hb; replace hB := hB.trans (hb.mono hB.size); clear hb))
          go_ret
          exact ⟨rfl, hB⟩
      · rw [decide_eq_false hl] at hal
        have ho : ofS (k % 15) s = ByteArray.empty := by unfold ofS; rw [if_neg fun h => hl h.2]
        obtain ⟨h1, h2, h3, h4⟩ := Hno.out (by omega)
        rw [hal]
        clear hal hl
        go_wp2_with (first
            | (go_at_call 9; refine (level_calls _ _ hT).mono ?_; rintro e w' ⟨rfl, hb⟩; replace hT := TabX.below hT hb; replace hB := hB.trans (hb.mono hB.size); clear hb)
            | (go_at_call 13; refine (side_calls _ _ hT).mono ?_; rintro e w' ⟨rfl, hb⟩; replace hT := TabX.below hT hb; replace hB := hB.trans (hb.mono hB.size); clear hb)
            | (go_at_call 10; refine (left_calls _ _ hT).mono ?_; rintro e w' ⟨rfl, hb⟩; replace hT := TabX.below hT hb; replace hB := hB.trans (hb.mono hB.size); clear hb)
            | (go_at_call 11; refine (right_calls _ _ hT).mono ?_; rintro e w' ⟨rfl, hb⟩; replace hT := TabX.below hT hb; replace hB := hB.trans (hb.mono hB.size); clear hb)
            | (go_at_call 16; refine (of_calls _ _ _ hT).mono ?_; rintro e w' ⟨rfl, hb⟩; replace hT := TabX.below hT hb; replace hB := hB.trans (hb.mono hB.size); clear hb)
            | (go_at_call 12; refine (known_calls _ hT).mono ?_; rintro e w' ⟨rfl, hb⟩; replace hT := TabX.below hT hb; replace hB := hB.trans (hb.mono hB.size); clear hb))
        go_ret
        exact ⟨rfl, hB⟩
end Go.Proofs.YtbjhfkaboncpoaaDoor
