/- Side, Left, Right and Of of the reference, and Of of the program, of every text; the table of blanks being laid for the program. -/
import Derived.Test.YtbjhfkaboncpoaaDoorT5
namespace Go.Proofs.YtbjhfkaboncpoaaDoor
open Go.RowKit Go.Shelf Go.Sub

def sideTab : List Int := [0, 2, 1, 2, 0, 1, 1, 0, 1, 1]
theorem infoX_cases (s : ByteArray) : infoX s opsX = none ∨ ∃ x ∈ opsX, infoX s opsX = some x.2 := by
  cases h : infoX s opsX with
  | none => exact .inl rfl
  | some p => obtain ⟨x, hx, e⟩ := infoX_mem s p opsX h; exact .inr ⟨x, hx, by rw [e]⟩
theorem side_tab (s : ByteArray) : sideTab[(levelI s).toNat]? = some (sideI s) := by
  unfold levelI sideI
  rcases infoX_cases s with h | ⟨x, hx, h⟩
  · rw [h]; rfl
  · rw [h]
    exact (show ∀ x ∈ opsX, sideTab[(x.2.1).toNat]? = some x.2.2 by decide +kernel) x hx
theorem isOp_level (s : ByteArray) : isOp s = decide (1 ≤ levelI s) := by
  unfold levelI isOp
  rcases infoX_cases s with h | ⟨x, hx, h⟩
  · rw [h]; rfl
  · rw [h]
    have := opsX_bound x hx
    simp; omega

theorem sideTab_cell (s : ByteArray) (w : World) : (w.alloc (.cells #[.int .i64 0, .int .i64 2, .int .i64 1, .int .i64 2, .int .i64 0, .int .i64 1, .int .i64 1, .int .i64 0, .int .i64 1, .int .i64 1] 3)).cell? ⟨w.heap.size, (levelI s).toNat, none⟩ = some (.int .i64 (sideI s)) :=
  cell_of_heap (World.alloc_heap_new w _) (by
    have := congrArg (Option.map (Value.int .i64)) (side_tab s)
    rw [← List.getElem?_map] at this
    rw [List.getElem?_toArray]
    exact this)

set_option maxHeartbeats 400000 in
theorem refside_calls (s : ByteArray) (w : World) :
    Calls Tryd.prog 25 #[.string s] w fun e w' => e = .returned (.int .i64 (sideI s)) ∧ Below w.heap.size w w' := by
  obtain ⟨h0, h9⟩ := level_bound s
  have Ht := Lib.hid (sideTab_cell s w)
  go_enter Tryd.func25, Tryd.ntmps25
  go_wp2_with (go_at_call 24; refine (reflevel_calls _ _).mono ?_; rintro e w' ⟨rfl, hb⟩; have hcell := (hb.cell (p := ⟨w.heap.size, (levelI s).toNat, none⟩) (by simp)).trans Ht.out)
  go_ret
  exact ⟨rfl, ((Below.refl _ w).alloc (Nat.le_refl _) _).trans (hb.mono (by simp))⟩

theorem bool_of_decide {p : Prop} [Decidable p] (h : p) : decide p = true := decide_eq_true h

set_option maxHeartbeats 400000 in
theorem refleft_calls (s : ByteArray) (w : World) :
    Calls Tryd.prog 26 #[.string s] w fun e w' => e = .returned (.int .i64 (besideI s 1)) ∧ Below w.heap.size w w' := by
  obtain ⟨h0, h9⟩ := level_bound s
  have hop := isOp_level s
  by_cases hl : 0 < levelI s
  · by_cases hs : sideI s = 1
    · have e : besideI s 1 = levelI s := by unfold besideI; rw [hop, decide_eq_true (by omega), if_pos rfl, if_pos hs]
      have hs' : (sideI s != 1) = false := by simp [hs]
      rw [e]; clear e hs hop
      go_enter Tryd.func26, Tryd.ntmps26
      go_wp2_with (first | (go_at_call 24; refine (reflevel_calls _ _).mono ?_; rintro e w' ⟨rfl, hb⟩) | (go_at_call 25; refine (refside_calls _ _).mono ?_; rintro e w'' ⟨rfl, hb2⟩))
      go_ret
      exact ⟨rfl, hb.trans (hb2.mono hb.size)⟩
    · have e : besideI s 1 = levelI s + 1 := by unfold besideI; rw [hop, decide_eq_true (by omega), if_pos rfl, if_neg hs]
      have hs' : (sideI s != 1) = true := by simp [hs]
      rw [e]; clear e hs hop
      go_enter Tryd.func26, Tryd.ntmps26
      go_wp2_with (first | (go_at_call 24; refine (reflevel_calls _ _).mono ?_; rintro e w' ⟨rfl, hb⟩) | (go_at_call 25; refine (refside_calls _ _).mono ?_; rintro e w'' ⟨rfl, hb2⟩))
      go_ret
      exact ⟨rfl, hb.trans (hb2.mono hb.size)⟩
  · have e : besideI s 1 = levelI s := by unfold besideI; rw [hop, decide_eq_false (by omega)]; simp; omega
    rw [e]; clear e hop
    go_enter Tryd.func26, Tryd.ntmps26
    go_wp2_with (go_at_call 24; refine (reflevel_calls _ _).mono ?_; rintro e w' ⟨rfl, hb⟩)
    go_ret
    exact ⟨rfl, hb⟩
set_option maxHeartbeats 400000 in
theorem refright_calls (s : ByteArray) (w : World) :
    Calls Tryd.prog 27 #[.string s] w fun e w' => e = .returned (.int .i64 (besideI s 2)) ∧ Below w.heap.size w w' := by
  obtain ⟨h0, h9⟩ := level_bound s
  have hop := isOp_level s
  by_cases hl : 0 < levelI s
  · by_cases hs : sideI s = 2
    · have e : besideI s 2 = levelI s := by unfold besideI; rw [hop, decide_eq_true (by omega), if_pos rfl, if_pos hs]
      have hs' : (sideI s != 2) = false := by simp [hs]
      rw [e]; clear e hs hop
      go_enter Tryd.func27, Tryd.ntmps27
      go_wp2_with (first | (go_at_call 24; refine (reflevel_calls _ _).mono ?_; rintro e w' ⟨rfl, hb⟩) | (go_at_call 25; refine (refside_calls _ _).mono ?_; rintro e w'' ⟨rfl, hb2⟩))
      go_ret
      exact ⟨rfl, hb.trans (hb2.mono hb.size)⟩
    · have e : besideI s 2 = levelI s + 1 := by unfold besideI; rw [hop, decide_eq_true (by omega), if_pos rfl, if_neg hs]
      have hs' : (sideI s != 2) = true := by simp [hs]
      rw [e]; clear e hs hop
      go_enter Tryd.func27, Tryd.ntmps27
      go_wp2_with (first | (go_at_call 24; refine (reflevel_calls _ _).mono ?_; rintro e w' ⟨rfl, hb⟩) | (go_at_call 25; refine (refside_calls _ _).mono ?_; rintro e w'' ⟨rfl, hb2⟩))
      go_ret
      exact ⟨rfl, hb.trans (hb2.mono hb.size)⟩
  · have e : besideI s 2 = levelI s := by unfold besideI; rw [hop, decide_eq_false (by omega)]; simp; omega
    rw [e]; clear e hop
    go_enter Tryd.func27, Tryd.ntmps27
    go_wp2_with (go_at_call 24; refine (reflevel_calls _ _).mono ?_; rintro e w' ⟨rfl, hb⟩)
    go_ret
    exact ⟨rfl, hb⟩

/-- which operator a token is -/
def ofS (k : Int) (t : ByteArray) : ByteArray := if (k = 3 ∨ k = 13) ∧ 0 < levelI t then t else ByteArray.empty
set_option maxHeartbeats 400000 in
theorem of_calls (k : Int) (t : ByteArray) (w : World) (hT : TabX w) :
    Calls Tryd.prog 16 #[.agg #[.int .i64 k, .string t]] w fun e w' => e = .returned (.string (ofS k t)) ∧ Below w.heap.size w w' := by
  obtain ⟨h0, h9⟩ := level_bound t
  have hTa := hT.alloc (.cells #[.int .i64 k, .string t] 29)
  by_cases hk : k = 3 ∨ k = 13
  · by_cases hl : 0 < levelI t
    · have e : ofS k t = t := by unfold ofS; rw [if_pos ⟨hk, hl⟩]
      have hl' : (levelI t == 0) = false := by simp; omega
      rw [e]; clear e
      rcases hk with rfl | rfl
      all_goals
        go_enter Tryd.func16, Tryd.ntmps16
        go_wp2_with (go_at_call 9; refine (level_calls _ _ hTa).mono ?_; rintro e w' ⟨rfl, hb⟩; have hc1 := (hb.cell (p := ⟨w.heap.size, 1, none⟩) (by simp)).trans (cell_of_heap (World.alloc_heap_new w _) rfl))
        go_ret
        exact ⟨rfl, ((Below.refl _ w).alloc (Nat.le_refl _) _).trans (hb.mono (by simp))⟩
    · have e : ofS k t = ByteArray.empty := by unfold ofS; rw [if_neg fun h => hl h.2]
      have hl' : (levelI t == 0) = true := by simp; omega
      rw [e]; clear e
      rcases hk with rfl | rfl
      all_goals
        go_enter Tryd.func16, Tryd.ntmps16
        go_wp2_with (go_at_call 9; refine (level_calls _ _ hTa).mono ?_; rintro e w' ⟨rfl, hb⟩)
        go_ret
        exact ⟨rfl, ((Below.refl _ w).alloc (Nat.le_refl _) _).trans (hb.mono (by simp))⟩
  · have e : ofS k t = ByteArray.empty := by unfold ofS; rw [if_neg fun h => hk h.1]
    have h3 : (k != 3) = true := by simp; omega
    have h13 : (k != 13) = true := by simp; omega
    rw [e]; clear e hk
    go_enter Tryd.func16, Tryd.ntmps16
    go_wp2
    go_ret
    exact ⟨rfl, (Below.refl _ w).alloc (Nat.le_refl _) _⟩
set_option maxHeartbeats 400000 in
theorem refof_calls (k : Int) (t : ByteArray) (w : World) :
    Calls Tryd.prog 17 #[.agg #[.int .i64 k, .string t]] w fun e w' => e = .returned (.string (ofS k t)) ∧ Below w.heap.size w w' := by
  obtain ⟨h0, h9⟩ := level_bound t
  by_cases hk : k = 3 ∨ k = 13
  · by_cases hl : 0 < levelI t
    · have e : ofS k t = t := by unfold ofS; rw [if_pos ⟨hk, hl⟩]
      have hl' : (levelI t == 0) = false := by simp; omega
      rw [e]; clear e
      rcases hk with rfl | rfl
      all_goals
        go_enter Tryd.func17, Tryd.ntmps17
        go_wp2_with (go_at_call 24; refine (reflevel_calls _ _).mono ?_; rintro e w' ⟨rfl, hb⟩; have hc1 := (hb.cell (p := ⟨w.heap.size, 1, none⟩) (by simp)).trans (cell_of_heap (World.alloc_heap_new w _) rfl))
        go_ret
        exact ⟨rfl, ((Below.refl _ w).alloc (Nat.le_refl _) _).trans (hb.mono (by simp))⟩
    · have e : ofS k t = ByteArray.empty := by unfold ofS; rw [if_neg fun h => hl h.2]
      have hl' : (levelI t == 0) = true := by simp; omega
      rw [e]; clear e
      rcases hk with rfl | rfl
      all_goals
        go_enter Tryd.func17, Tryd.ntmps17
        go_wp2_with (go_at_call 24; refine (reflevel_calls _ _).mono ?_; rintro e w' ⟨rfl, hb⟩)
        go_ret
        exact ⟨rfl, ((Below.refl _ w).alloc (Nat.le_refl _) _).trans (hb.mono (by simp))⟩
  · have e : ofS k t = ByteArray.empty := by unfold ofS; rw [if_neg fun h => hk h.1]
    have h3 : (k != 3) = true := by simp; omega
    have h13 : (k != 13) = true := by simp; omega
    rw [e]; clear e hk
    go_enter Tryd.func17, Tryd.ntmps17
    go_wp2
    go_ret
    exact ⟨rfl, (Below.refl _ w).alloc (Nat.le_refl _) _⟩
end Go.Proofs.YtbjhfkaboncpoaaDoor
