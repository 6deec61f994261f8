/- The walk of PrecRise: it returns true, of every input; the table of blanks being laid. -/
import Derived.Test.YtbjhfkaboncpoaaDoorT9
import Derived.Lib.QuietBelow
namespace Go.Proofs.YtbjhfkaboncpoaaDoor
open Go.RowKit Go.Shelf Go.Sub Go.Sort

theorem OpersAt.below {w w' : World} {B n : Nat} (h : OpersAt w B) (hb : Below n w w') (hB : B < n) : OpersAt w' B := fun i x hx => by
  rw [hb.cell (p := ⟨B, i, none⟩) hB]; exact h i x hx
theorem rise (n : Nat) (hn : n + 1 < 24) (x y : OpX) (hx : opsX[n]? = some x) (hy : opsX[n + 1]? = some y) : levelI x.1 ≤ levelI y.1 := by
  have key : ∀ m, m < 23 → ∀ x y, opsX[m]? = some x → opsX[m + 1]? = some y → x.2.1 ≤ y.2.1 := by
    have : (List.range 23).all (fun m => match opsX[m]?, opsX[m + 1]? with | some x, some y => decide (x.2.1 ≤ y.2.1) | _, _ => true) = true := by decide +kernel
    intro m hm x y hx hy
    have := List.all_eq_true.1 this m (List.mem_range.2 hm)
    rw [hx, hy] at this
    simpa using this
  obtain ⟨ex, _, _⟩ := op_level x (List.mem_of_getElem? hx)
  obtain ⟨ey, _, _⟩ := op_level y (List.mem_of_getElem? hy)
  rw [ex, ey]
  exact key n (by omega) x y hx hy
theorem apartX (n m : Nat) (hnm : n < m) (x y : OpX) (hx : opsX[n]? = some x) (hy : opsX[m]? = some y) : x.1 ≠ y.1 := by
  have hnd : (opsX.map (·.1)).Nodup := by decide +kernel
  intro e
  have h1 : (opsX.map (·.1))[n]? = some x.1 := by rw [List.getElem?_map, hx]; rfl
  have h2 : (opsX.map (·.1))[m]? = some x.1 := by rw [List.getElem?_map, hy, e]; rfl
  have := (List.getElem?_inj (List.getElem?_eq_some_iff.1 h1).1 hnd).1 (h1.trans h2.symm)
  omega

set_option maxRecDepth 100000 in
set_option maxHeartbeats 2000000 in
theorem rise_core (k : Int) (hk0 : 0 ≤ k) (hk1 : k ≤ 255) (w : World) (hT : TabX w) :
    Calls Tryd.prog 6 #[.int .u8 k] w fun e w' => e = .returned (.bool true) ∧ Below w.heap.size w w' := by
  have hB := Below.refl w.heap.size w
  go_enter Tryd.func6, Tryd.ntmps6
  go_wp2_with (go_at_call 8; refine (opers_calls _ hT).mono ?_; rintro e w' ⟨B, rfl, hcc, hb⟩; have hat : OpersAt w' B := hcc; clear hcc; replace hT := TabX.below hT hb; replace hB := hB.trans (hb.mono hB.size); clear hb)
  obtain ⟨x0, hx0, _⟩ := op_at 0 (by omega)
  have hBlt : B < w'.heap.size := World.block_lt_of_cell? _ _ (hat 0 x0 hx0)
  go_loopw [4] (fun i wr => ∃ n : Nat, 1 ≤ n ∧ n ≤ 24 ∧ i = .int .i64 n ∧ OpersAt wr B ∧ TabX wr ∧ Below w.heap.size w wr ∧ B < wr.heap.size) (fun i _ => 24 - (intOf i).toNat)
  case atStart => exact ⟨1, by omega, by omega, rfl, hat, hT, hB, hBlt⟩
  case round =>
    clear hat hT hB hBlt hx0
    obtain ⟨n, hn1, hn, rfl, hat, hT, hB, hBlt⟩ := hrel
    by_cases hlt : n < 24
    · obtain ⟨y, hy, hym⟩ := op_at n hlt
      obtain ⟨x, hx, hxm⟩ := op_at (n - 1) (by omega)
      have hrise := rise (n - 1) (by omega) x y hx (by rw [show n - 1 + 1 = n by omega]; exact hy)
      have cy := cell_regrown (hat n y hy)
      have cx := cell_regrown (hat (n - 1) x hx)
      have hcally := fun d os => (level_calls y.1 (grow (redrawn wr d) os) (hT.below (below_regrown wr d os)))
      have hcallx := fun d os => (level_calls x.1 (grow (redrawn wr d) os) (hT.below (below_regrown wr d os)))
      have Hcy := Lib.hid hcally
      have Hcx := Lib.hid hcallx
      have Hrise := Lib.hid hrise
      have Hat := Lib.hid hat
      have hdec : decide (levelI y.1 < levelI x.1) = false := by simp; omega
      clear hcally hcallx hat hrise
      go_wp2
      have hw1 : IntKind.i64.wrap ((n : Int) - 1) = (n : Int) - 1 := IntWalk.i64_in _ (by omega)
      have hw2 : (0 : Int) ≤ (n : Int) - 1 := by omega
      have hw3 : (n : Int) - 1 < 24 := by omega
      have hw4 : ((n : Int) - 1).toNat = n - 1 := by omega
      have hw5 : (1 : Int) ≤ (n : Int) := by omega
      refine wp_region_quiet_below (by kernel_rfl) (by kernel_rfl) ?_
      repeat (quiet_step (first | exact Calls.regrown_of (Hcy.out _ _) | exact Calls.regrown_of (Hcx.out _ _)))
      refine wpQuiet_nil ?_
      rintro _ ⟨p, rfl⟩
      clear hw1 hw2 hw3 hw4 hw5 cx cy
      have hb2 := below_regrown wr p.d p.os
      generalize grow (redrawn wr p.d) p.os = w2 at *
      have hat2 := OpersAt.below Hat.out hb2 hBlt
      have hT2 := hT.below hb2
      have hB2 := hB.trans (hb2.mono hB.size)
      have hBlt2 : B < w2.heap.size := Nat.lt_of_lt_of_le hBlt hb2.size
      have Hat2 := Lib.hid hat2
      clear Hcy Hcx Hrise Hat hb2 hT hB hat2
      go_wp2
      go_loopw [5] (fun i w3 => ∃ m : Nat, m ≤ n ∧ i = .int .i64 m ∧ OpersAt w3 B ∧ TabX w3 ∧ Below w.heap.size w w3 ∧ B < w3.heap.size) (fun i _ => n - (intOf i).toNat)
      case atStart => exact ⟨0, by omega, rfl, Hat2.out, hT2, hB2, hBlt2⟩
      case round =>
        clear Hat2 hT2 hB2 hBlt2
        obtain ⟨m, hm, rfl, hat, hT, hB, hBlt⟩ := hrel
        by_cases hml : m < n
        · obtain ⟨z, hz, hzm⟩ := op_at m (by omega)
          have hne := apartX m n hml z y hz hy
          have cy := hat n y hy
          have cz := hat m z hz
          have hq : (z.1.toList == y.1.toList) = false := by rw [beq_ba, decide_eq_false hne]
          have Hat := Lib.hid hat
          clear hat hne hz hx hy hym hxm hzm
          go_wp2
          go_quiet (fail)
          go_wp2
          go_roundw
          case rel => exact ⟨m + 1, by omega, by go_num, Hat.out, hT.below ⟨rfl, rfl, rfl, Nat.le_refl _, fun _ _ => rfl⟩, ⟨hB.os, hB.tape, hB.output, hB.size, hB.block⟩, hBlt⟩
          case measure => simp [intOf]; omega
        · obtain rfl : m = n := by omega
          have Hat := Lib.hid hat
          clear hat
          go_wp2
          go_roundw
          case rel => exact ⟨m + 1, by omega, by omega, by go_num, Hat.out, hT, hB, hBlt⟩
          case measure => simp [intOf]; omega
    · obtain rfl : n = 24 := by omega
      obtain ⟨x, hx, hxm⟩ := op_at (k % 24).toNat (by omega)
      have hc := hat _ x hx
      have hlv := level_one x hxm
      have o1 : ofS 13 x.1 = x.1 := by unfold ofS; rw [if_pos ⟨.inr rfl, by omega⟩]
      have o2 : ofS 7 x.1 = ByteArray.empty := by unfold ofS; rw [if_neg (by rintro ⟨h | h, _⟩ <;> omega)]
      clear hat hx hxm hlv
      go_wp2_with (first
        | (go_at_call 16; refine (of_calls _ _ _ hT).mono ?_; rintro e w' ⟨rfl, hb⟩; replace hT := TabX.below hT hb; replace hB := hB.trans (hb.mono hB.size); clear hb)
        | (go_at_call 12; refine (known_calls _ hT).mono ?_; rintro e w' ⟨rfl, hb⟩; replace hT := TabX.below hT hb; replace hB := hB.trans (hb.mono hB.size); clear hb))
      go_ret
      exact ⟨rfl, hB⟩
end Go.Proofs.YtbjhfkaboncpoaaDoor
