/- Opers of the reference, Same of two lists of texts, and what PrecAsks asks of one text; the table of blanks being laid for the program. -/
import Derived.Test.YtbjhfkaboncpoaaDoorT10
namespace Go.Proofs.YtbjhfkaboncpoaaDoor
open Go.RowKit Go.Shelf Go.Sub Go.Sort

/-- the operators of the first i rows -/
def rowsUpTo (i : Nat) : List (List UInt8) := (List.range i).flatMap rowR
theorem rowsUpTo_succ (i : Nat) : rowsUpTo (i + 1) = rowsUpTo i ++ rowR i := by simp [rowsUpTo, List.range_succ]
theorem rowsUpTo_nine : (rowsUpTo 9).map strV = opsX.map fun x => Value.string x.1 := by kernel_rfl
theorem rowsUpTo_len (i : Nat) : (rowsUpTo i).length ≤ 8 * i := by
  induction i with
  | zero => simp [rowsUpTo]
  | succ i ih => rw [rowsUpTo_succ, List.length_append]; have := rowR_len i; omega
theorem rowR_pos (i : Nat) (h : i < 9) : 0 < (rowR i).length := by
  have : i = 0 ∨ i = 1 ∨ i = 2 ∨ i = 3 ∨ i = 4 ∨ i = 5 ∨ i = 6 ∨ i = 7 ∨ i = 8 := by omega
  rcases this with rfl | rfl | rfl | rfl | rfl | rfl | rfl | rfl | rfl <;> decide
theorem RowsAt.below {w w' : World} {B n : Nat} {rb : Nat → Nat} (h : RowsAt w B rb) (hb : Below n w w') (hB : B < n) (hr : ∀ i, i < 9 → rb i < n) : RowsAt w' B rb :=
  ⟨fun i hi => by rw [hb.cell (p := ⟨B, i, none⟩) hB]; exact h.1 i hi, fun i j x hx => by
    have hi : i < 9 := by
      rcases Nat.lt_or_ge i 9 with h | h
      · exact h
      · rw [rowR_out i h] at hx; simp at hx
    rw [hb.cell (p := ⟨rb i, j, none⟩) (hr i hi)]; exact h.2 i j x hx⟩
theorem RowsAt.lt {w : World} {B : Nat} {rb : Nat → Nat} (h : RowsAt w B rb) : B < w.heap.size ∧ ∀ i, i < 9 → rb i < w.heap.size :=
  ⟨World.block_lt_of_cell? _ _ (h.1 0 (by omega)), fun i hi => World.block_lt_of_cell? _ _ (h.2 i 0 _ (List.getElem?_eq_getElem (rowR_pos i hi)))⟩

theorem addr_add (g i : Nat) : (⟨g, 0, none⟩ : Addr).add i = ⟨g, i, none⟩ := by unfold Addr.add; split <;> simp_all
theorem row_cells {wr : World} {b k : Nat} (h : ∀ j x, (rowR k)[j]? = some x → wr.cell? ⟨b, j, none⟩ = some (strV x)) (j : Nat) (u : Value) (hj : ((rowR k).map strV)[j]? = some u) : wr.cell? ((⟨b, 0, none⟩ : Addr).add j) = some u := by
  rw [List.getElem?_map] at hj
  obtain ⟨x, hx, rfl⟩ := Option.map_eq_some_iff.1 hj
  rw [addr_add]; exact h j x hx

set_option maxRecDepth 100000 in
set_option maxHeartbeats 1000000 in
theorem refopers_calls (w : World) :
    Calls Tryd.prog 14 #[] w fun e w' => ∃ b cap, e = .returned (.slice (some ⟨b, 0, none⟩) 24 cap) ∧ 24 ≤ cap ∧ cap ≤ maxLen ∧ OpersAt w' b ∧ Below w.heap.size w w' := by
  obtain ⟨i0, hi, hz0, hz1, hz2⟩ := info_parts info9
  go_enter Tryd.func14, Tryd.ntmps14
  go_wp2_with (go_at_call 23; refine (refrows_calls _).mono ?_; rintro e w' ⟨B, rb, rfl, hr, hb⟩)
  obtain ⟨hBlt, hrlt⟩ := hr.lt
  have Hr := Lib.hid hr
  have Hrlt := Lib.hid hrlt
  obtain ⟨n1, hn1⟩ : ∃ n1, w'.heap.size = n1 := ⟨_, rfl⟩
  have Hn1 := Lib.hid hn1
  have hbs : w.heap.size ≤ n1 := by rw [← hn1]; exact hb.size
  clear hr hrlt hn1
  go_loopw [1, 3] (fun v i wr => ∃ k : Nat, k ≤ 9 ∧ i = .int .i64 k ∧ wr.ownsRow n1 9 1 v (rowsUpTo k).length ((rowsUpTo k).map strV) ∧ Below n1 w' wr ∧ Below w.heap.size w wr) (fun _ i _ => 9 - (intOf i).toNat)
  case atStart => exact ⟨0, by omega, rfl, World.ownsRow_nil _ _ _ _, Below.refl _ _, hb⟩
  case round =>
    clear hb
    obtain ⟨k, hk, rfl, hown, hBn, hB⟩ := hrel
    by_cases hlt : k < 9
    · have hrw := Hr.out.below hBn (by rw [← Hn1.out]; exact hBlt) (fun i hi => by rw [← Hn1.out]; exact Hrlt.out i hi)
      have hc := hrw.1 k hlt
      have hl := rowR_len k
      have hu := rowsUpTo_len k
      have hcells := hrw.2 k
      have Hcells := Lib.hid hcells
      have hsz : n1 ≤ wr.heap.size := by rw [← Hn1.out]; exact hBn.size
      have Hn := Lib.hid (rowsUpTo_succ k)
      clear hcells hrw
      go_wp2_with (at_builtin; refine wpList_append_O _ rfl _ _ 22 rfl n1 9 i0 (.string ByteArray.empty) 1 16 slice22 hi hz0 hz1 hz2 rfl (by decide) _ _ _ rfl hown ⟨rb k, 0, none⟩ (rowR k).length (rowR k).length ((rowR k).map strV) rfl (by simp) (row_cells Hcells.out) (fun u hu => by obtain ⟨x, _, rfl⟩ := List.mem_map.1 hu; rfl) (by simp [maxLen]; omega) (by omega) hsz ?_; intro v' w1 hown' hkeep _ _)
      have hb1 : Below n1 wr w1 := hkeep.below hsz fun b h => (hown.lt b h.symm).1
      go_roundw
      case rel =>
        refine ⟨k + 1, by omega, by go_num, ?_, hBn.trans hb1, hB.trans (hb1.mono hbs)⟩
        rw [Hn.out, List.length_append, List.map_append]; exact hown'
      case measure => simp [intOf]; omega
    · obtain rfl : k = 9 := by omega
      have hlen : (rowsUpTo 9).length = 24 := by decide +kernel
      rw [hlen] at hown
      obtain ⟨g, cap, rfl⟩ := ownsRow_succ hown
      have hcells := hown.cells (g := g) rfl
      have hcap : 24 ≤ cap ∧ cap ≤ maxLen := by
        rcases hown.2 with ⟨h, _⟩ | ⟨_, _, _, h, _, _, hc, hd, _⟩
        · cases h
        · cases h; exact ⟨hc, hd⟩
      have Hc := Lib.hid hcells
      clear hcells
      go_wp2
      go_ret
      refine ⟨g, cap, rfl, hcap.1, hcap.2, fun i x hx => ?_, hB⟩
      have h2 := Hc.out i (.string x.1) (by rw [rowsUpTo_nine, List.getElem?_map, hx]; rfl)
      have e : (⟨g, 0, none⟩ : Addr).add i = ⟨g, i, none⟩ := by unfold Addr.add; split <;> simp_all
      rw [e] at h2
      exact h2

set_option maxRecDepth 100000 in
set_option maxHeartbeats 1000000 in
theorem same_calls (b1 b2 cap : Nat) (w : World) (h1 : OpersAt w b1) (h2 : OpersAt w b2) :
    Calls Tryd.prog 18 #[.slice (some ⟨b1, 0, none⟩) 24 24, .slice (some ⟨b2, 0, none⟩) 24 cap] w fun e w' => e = .returned (.bool true) ∧ ∃ n, w' = w.drewN n := by
  have H1 := Lib.hid h1
  have H2 := Lib.hid h2
  clear h1 h2
  go_enter Tryd.func18, Tryd.ntmps18
  go_wp2
  go_loopw [5] (fun i wr => ∃ k n : Nat, k ≤ 24 ∧ i = .int .i64 k ∧ wr = w.drewN n) (fun i _ => 24 - (intOf i).toNat)
  case atStart => exact ⟨0, 0, by omega, rfl, rfl⟩
  case round =>
    obtain ⟨k, n, hk, rfl, rfl⟩ := hrel
    by_cases hlt : k < 24
    · obtain ⟨x, hx, _⟩ := op_at k hlt
      have c1 := H1.out k x hx
      have c2 := H2.out k x hx
      clear hx
      go_wp2
      go_quiet (fail)
      go_wp2
      go_roundw
      case rel => exact ⟨k + 1, _, by omega, by go_num, rfl⟩
      case measure => simp [intOf]; omega
    · obtain rfl : k = 24 := by omega
      go_wp2
      go_ret
      exact ⟨rfl, n, rfl⟩

set_option maxRecDepth 100000 in
set_option maxHeartbeats 1000000 in
theorem asks_calls (s : ByteArray) (w : World) (hT : TabX w) :
    Calls Tryd.prog 15 #[.string s] w fun e w' => e = .returned (.bool true) ∧ Below w.heap.size w w' := by
  have hB := Below.refl w.heap.size w
  go_enter Tryd.func15, Tryd.ntmps15
  go_wp2_with (first
    | (go_at_call 9; refine (level_calls _ _ hT).mono ?_; rintro e w' ⟨rfl, hb⟩; replace hT := TabX.below hT hb; replace hB := hB.trans (hb.mono hB.size); clear hb)
    | (go_at_call 13; refine (side_calls _ _ hT).mono ?_; rintro e w' ⟨rfl, hb⟩; replace hT := TabX.below hT hb; replace hB := hB.trans (hb.mono hB.size); clear hb)
    | (go_at_call 10; refine (left_calls _ _ hT).mono ?_; rintro e w' ⟨rfl, hb⟩; replace hT := TabX.below hT hb; replace hB := hB.trans (hb.mono hB.size); clear hb)
    | (go_at_call 11; refine (right_calls _ _ hT).mono ?_; rintro e w' ⟨rfl, hb⟩; replace hT := TabX.below hT hb; replace hB := hB.trans (hb.mono hB.size); clear hb)
    | (go_at_call 24; refine (reflevel_calls _ _).mono ?_; rintro e w' ⟨rfl, hb⟩; replace hT := TabX.below hT hb; replace hB := hB.trans (hb.mono hB.size); clear hb)
    | (go_at_call 25; refine (refside_calls _ _).mono ?_; rintro e w' ⟨rfl, hb⟩; replace hT := TabX.below hT hb; replace hB := hB.trans (hb.mono hB.size); clear hb)
    | (go_at_call 26; refine (refleft_calls _ _).mono ?_; rintro e w' ⟨rfl, hb⟩; replace hT := TabX.below hT hb; replace hB := hB.trans (hb.mono hB.size); clear hb)
    | (go_at_call 27; refine (refright_calls _ _).mono ?_; rintro e w' ⟨rfl, hb⟩; replace hT := TabX.below hT hb; replace hB := hB.trans (hb.mono hB.size); clear hb))
  go_ret
  exact ⟨rfl, hB⟩
end Go.Proofs.YtbjhfkaboncpoaaDoor
