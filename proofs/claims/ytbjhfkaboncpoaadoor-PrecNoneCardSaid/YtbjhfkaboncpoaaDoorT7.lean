/- The chapter's example holds; the table of blanks being laid. -/
import Derived.Test.YtbjhfkaboncpoaaDoorT6
namespace Go.Proofs.YtbjhfkaboncpoaaDoor
open Go.RowKit Go.Shelf Go.Sub

/-- the place of an operator in memory, by its number -/
def OpersAt (w : World) (b : Nat) : Prop := ∀ i x, opsX[i]? = some x → w.cell? ⟨b, i, none⟩ = some (.string x.1)

set_option maxRecDepth 100000 in
set_option maxHeartbeats 1000000 in
theorem known_calls (w : World) (hT : TabX w) :
    Calls Tryd.prog 12 #[] w fun e w' => e = .returned (.bool true) ∧ Below w.heap.size w w' := by
  have k1 : besideI ⟨#[45]⟩ 1 = 8 := by decide +kernel
  have k2 : besideI ⟨#[45]⟩ 2 = 9 := by decide +kernel
  have k3 : levelI ⟨#[124]⟩ = 1 := by decide +kernel
  have k4 : sideI ⟨#[124]⟩ = 2 := by decide +kernel
  have k5 : levelI ⟨#[120]⟩ = 0 := by decide +kernel
  have hB := Below.refl w.heap.size w
  go_enter Tryd.func12, Tryd.ntmps12
  go_wp2_with (first
    | (go_at_call 10; refine (left_calls _ _ hT).mono ?_; rintro e w' ⟨rfl, hb⟩; replace hT := TabX.below hT hb; replace hB := hB.trans (hb.mono hB.size); clear hb)
    | (go_at_call 11; refine (right_calls _ _ hT).mono ?_; rintro e w' ⟨rfl, hb⟩; replace hT := TabX.below hT hb; replace hB := hB.trans (hb.mono hB.size); clear hb)
    | (go_at_call 9; refine (level_calls _ _ hT).mono ?_; rintro e w' ⟨rfl, hb⟩; replace hT := TabX.below hT hb; replace hB := hB.trans (hb.mono hB.size); clear hb)
    | (go_at_call 13; refine (side_calls _ _ hT).mono ?_; rintro e w' ⟨rfl, hb⟩; replace hT := TabX.below hT hb; replace hB := hB.trans (hb.mono hB.size); clear hb))
  go_ret
  exact ⟨rfl, hB⟩
end Go.Proofs.YtbjhfkaboncpoaaDoor
