/- The chapter's examples hold. The table of blanks being laid. -/
import Derived.Test.YtpdkfofoeoakmaaDoorSg9
import Derived.Deep.RegionWith
import Derived.Lib.QuietBelow
namespace Go.Proofs.YtpdkfofoeoakmaaDoor
open Go.RowKit Go.Sub

theorem k_num : numberN [49, 46, 53, 101, 43, 120] = 3 := by decide +kernel
theorem k_word : wordN [97, 58, 58, 98, 58, 58] = 4 := by
  have e1 : simpleN [97, 58, 58, 98, 58, 58] = 1 := by decide +kernel
  unfold wordN
  rw [e1, if_neg (by decide)]
  show 1 + moreN [58, 58, 98, 58, 58] = 4
  rw [moreN_hit [58, 58, 98, 58, 58] 1 (by decide +kernel) (by decide +kernel) (by decide)]
  show 1 + (2 + 1 + moreN [58, 58]) = 4
  rw [moreN_none [58, 58] (by decide +kernel) (by decide +kernel)]
theorem k_oper : operN [47, 47, 61] = 3 := by decide +kernel
theorem k_esc : escN [92, 117, 48, 48, 101, 57, 120] = 6 := by decide +kernel
theorem k_key : isKey [100, 101, 102] = true := by decide +kernel
theorem k_plain : plainB [100, 101, 102] = false := by decide +kernel
theorem k_plain2 : plainB [97, 49] = true := by decide +kernel

set_option maxRecDepth 100000 in
set_option maxHeartbeats 4000000 in
theorem known_calls (w : World) (hT : TabX w) :
    Calls Tryd.prog 22 #[] w fun e w' => e = .returned (.bool true) ∧ Below w.heap.size w w' := by
  have c1 : ∀ w, Calls Tryd.prog 18 #[.string ⟨#[49, 46, 53, 101, 43, 120]⟩] w fun e w' => e = .returned (.int .i64 3) ∧ w' = w := fun w =>
    (number_calls _ w (by decide +kernel)).mono fun e w' h => ⟨h.1.trans (by rw [show numberN (⟨#[49, 46, 53, 101, 43, 120]⟩ : ByteArray).data.toList = 3 from k_num]; rfl), h.2⟩
  have c2 : ∀ w, Calls Tryd.prog 19 #[.string ⟨#[97, 58, 58, 98, 58, 58]⟩] w fun e w' => e = .returned (.int .i64 4) ∧ w' = w := fun w =>
    (word_calls _ w (by decide +kernel)).mono fun e w' h => ⟨h.1.trans (by rw [show wordN (⟨#[97, 58, 58, 98, 58, 58]⟩ : ByteArray).data.toList = 4 from k_word]; rfl), h.2⟩
  have c3 : ∀ w, Calls Tryd.prog 21 #[.string ⟨#[47, 47, 61]⟩] w fun e w' => e = .returned (.int .i64 3) ∧ Below w.heap.size w w' := fun w =>
    (oper_calls _ w).mono fun e w' h => ⟨h.1.trans (by rw [show operN (⟨#[47, 47, 61]⟩ : ByteArray).data.toList = 3 from k_oper]; rfl), h.2⟩
  have c4 : ∀ w, Calls Tryd.prog 20 #[.string ⟨#[92, 117, 48, 48, 101, 57, 120]⟩] w fun e w' => e = .returned (.int .i64 6) ∧ w' = w := fun w =>
    (escape_calls _ w (by decide +kernel)).mono fun e w' h => ⟨h.1.trans (by rw [show escN (⟨#[92, 117, 48, 48, 101, 57, 120]⟩ : ByteArray).data.toList = 6 from k_esc]; rfl), h.2⟩
  have c5 : ∀ w, TabX w → Calls Tryd.prog 24 #[.string ⟨#[100, 101, 102]⟩] w fun e w' => e = .returned (.bool true) ∧ Below w.heap.size w w' := fun w hT =>
    (key_calls _ w hT).mono fun e w' h => ⟨h.1.trans (by rw [show isKey (⟨#[100, 101, 102]⟩ : ByteArray).data.toList = true from k_key]), h.2⟩
  have c6 : ∀ w, TabX w → Calls Tryd.prog 23 #[.string ⟨#[100, 101, 102]⟩] w fun e w' => e = .returned (.bool false) ∧ Below w.heap.size w w' := fun w hT =>
    (plain_calls _ w (by decide +kernel) hT).mono fun e w' h => ⟨h.1.trans (by rw [show plainB (⟨#[100, 101, 102]⟩ : ByteArray).data.toList = false from k_plain]), h.2⟩
  have c7 : ∀ w, TabX w → Calls Tryd.prog 23 #[.string ⟨#[97, 49]⟩] w fun e w' => e = .returned (.bool true) ∧ Below w.heap.size w w' := fun w hT =>
    (plain_calls _ w (by decide +kernel) hT).mono fun e w' h => ⟨h.1.trans (by rw [show plainB (⟨#[97, 49]⟩ : ByteArray).data.toList = true from k_plain2]), h.2⟩
  have hB : Below w.heap.size w w := Below.refl _ _
  go_enter Tryd.func22, Tryd.ntmps22
  go_wp2_with (first
    | (go_at_call 18; with_reducible refine (c1 _).mono ?_; rintro e w' ⟨rfl, rfl⟩)
    | (go_at_call 19; with_reducible refine (c2 _).mono ?_; rintro e w' ⟨rfl, rfl⟩)
    | (go_at_call 20; with_reducible refine (c4 _).mono ?_; rintro e w' ⟨rfl, rfl⟩)
    | (go_at_call 21; with_reducible refine (c3 _).mono ?_; rintro e w' ⟨rfl, hb⟩; replace hT := hT.below hb; replace hB := hB.trans (hb.mono hB.size); clear hb)
    | (go_at_call 24; with_reducible refine (c5 _ hT).mono ?_; rintro e w' ⟨rfl, hb⟩; replace hT := hT.below hb; replace hB := hB.trans (hb.mono hB.size); clear hb)
    | (go_at_call 23; (first | with_reducible refine (c6 _ hT).mono ?_ | with_reducible refine (c7 _ hT).mono ?_); rintro e w' ⟨rfl, hb⟩; replace hT := hT.below hb; replace hB := hB.trans (hb.mono hB.size); clear hb))
  go_ret
  exact ⟨rfl, hB⟩
end Go.Proofs.YtpdkfofoeoakmaaDoor
