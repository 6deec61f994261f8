/- The walk of PrecSides, the operators and their facts given; the table of blanks being laid. -/
import Derived.Test.YtbjhfkaboncpoaaDoorT7
namespace Go.Proofs.YtbjhfkaboncpoaaDoor
open Go.RowKit Go.Shelf Go.Sub

theorem op_facts : ∀ x ∈ opsX, infoX x.1 opsX = some x.2 := by decide +kernel
theorem op_level (x : OpX) (h : x ∈ opsX) : levelI x.1 = x.2.1 ∧ sideI x.1 = x.2.2 ∧ isOp x.1 = true := by
  have := op_facts x h
  unfold levelI sideI isOp
  rw [this]; exact ⟨rfl, rfl, rfl⟩
theorem op_at (n : Nat) (h : n < 24) : ∃ x, opsX[n]? = some x ∧ x ∈ opsX :=
  ⟨opsX[n]'(by rw [opsX_length]; exact h), List.getElem?_eq_getElem _, List.getElem_mem _⟩
theorem same_level : ∀ x ∈ opsX, ∀ y ∈ opsX, y.2.1 = x.2.1 → y.2.2 = x.2.2 := by decide +kernel

set_option maxRecDepth 100000 in
set_option maxHeartbeats 1000000 in
theorem sides_core (k j : Int) (hk0 : 0 ≤ k) (hk1 : k ≤ 255) (hj0 : 0 ≤ j) (hj1 : j ≤ 255) (a b : ByteArray) (sa l1 l2 : Int) (same : Bool)
    (ha : ∀ W B, OpersAt W B → W.cell? ⟨B, (k % 24).toNat, none⟩ = some (.string a)) (hbc : ∀ W B, OpersAt W B → W.cell? ⟨B, (j % 24).toNat, none⟩ = some (.string b))
    (h1 : 1 ≤ levelI a) (h9 : levelI a ≤ 9) (hsa : sideI a = sa) (hl1 : besideI a 1 - levelI a = l1) (hl2 : besideI a 2 - levelI a = l2) (hx1 : 0 ≤ besideI a 1 ∧ besideI a 1 ≤ 10) (hx2 : 0 ≤ besideI a 2 ∧ besideI a 2 ≤ 10)
    (hc : sa = 0 ∧ l1 = 1 ∧ l2 = 1 ∨ sa = 1 ∧ l1 = 0 ∧ l2 = 1 ∨ sa = 2 ∧ l1 = 1 ∧ l2 = 0) (hsame : (levelI b == levelI a) = same) (hsb : same = true → sideI b = sideI a) (w : World) (hT : TabX w) :
    Calls Tryd.prog 3 #[.int .u8 k, .int .u8 j] w fun e w' => e = .returned (.bool true) ∧ Below w.heap.size w w' := by
  have hB := Below.refl w.heap.size w
  obtain ⟨x10, x11⟩ := hx1
  obtain ⟨x20, x21⟩ := hx2
  have Ha := Lib.hid ha
  have Hb := Lib.hid hbc
  have Hs := Lib.hid hsb
  clear ha hbc hsb
  rcases hc with ⟨rfl, rfl, rfl⟩ | ⟨rfl, rfl, rfl⟩ | ⟨rfl, rfl, rfl⟩
  all_goals
    cases same
    case' true => (have hs2 := Hs.out rfl; rw [hsa] at hs2)
    all_goals
      go_enter Tryd.func3, Tryd.ntmps3
      go_wp2_with (first
        | (go_at_call 8; refine (opers_calls _ hT).mono ?_; rintro e w' ⟨B, rfl, hcc, hb⟩; have hca := Ha.out _ _ hcc; have hcb := Hb.out _ _ hcc; clear hcc; replace hT := TabX.below hT hb; replace hB := hB.trans (hb.mono hB.size); clear hb)
        | (go_at_call 10; refine (left_calls _ _ hT).mono ?_; rintro e w' ⟨rfl, hb⟩; replace hT := TabX.below hT hb; replace hB := hB.trans (hb.mono hB.size); clear hb)
        | (go_at_call 11; refine (right_calls _ _ hT).mono ?_; rintro e w' ⟨rfl, hb⟩; replace hT := TabX.below hT hb; replace hB := hB.trans (hb.mono hB.size); clear hb)
        | (go_at_call 9; refine (level_calls _ _ hT).mono ?_; rintro e w' ⟨rfl, hb⟩; replace hT := TabX.below hT hb; replace hB := hB.trans (hb.mono hB.size); clear hb)
        | (go_at_call 13; refine (side_calls _ _ hT).mono ?_; rintro e w' ⟨rfl, hb⟩; replace hT := TabX.below hT hb; replace hB := hB.trans (hb.mono hB.size); clear hb)
        | (go_at_call 12; refine (known_calls _ hT).mono ?_; rintro e w' ⟨rfl, hb⟩; replace hT := TabX.below hT hb; replace hB := hB.trans (hb.mono hB.size); clear hb))
      go_ret
      exact ⟨rfl, hB⟩
end Go.Proofs.YtbjhfkaboncpoaaDoor
