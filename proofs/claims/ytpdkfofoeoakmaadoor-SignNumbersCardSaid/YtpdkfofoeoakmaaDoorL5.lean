/- The law SignNumbers, walked to its end. The table of blanks being laid. -/
import Derived.Test.YtpdkfofoeoakmaaDoorL4
namespace Go.Proofs.YtpdkfofoeoakmaaDoor
open Go.RowKit Go.Sub

set_option maxRecDepth 100000 in
set_option maxHeartbeats 4000000 in
theorem numbers_core (a b p : Int) (dot power minus : Bool) (ha : 0 ≤ a ∧ a ≤ 65535) (hb : 0 ≤ b ∧ b ≤ 65535) (hp : 0 ≤ p ∧ p ≤ 65535) (w : World) (hT : TabX w) :
    Calls Tryd.prog 7 #[.int .u16 a, .int .u16 b, .int .u16 p, .bool dot, .bool power, .bool minus] w fun e w' => e = .returned (.bool true) ∧ Below w.heap.size w w' := by
  obtain ⟨a0, a1⟩ := ha
  obtain ⟨b0, b1⟩ := hb
  obtain ⟨p0, p1⟩ := hp
  have hB : Below w.heap.size w w := Below.refl _ _
  cases dot
  · cases power
    · go_enter Tryd.func7, Tryd.ntmps7
      go_wp2_with (first
        | (go_at_call 25; with_reducible refine (digits_calls a a0 a1 _).mono ?_; rintro e w' ⟨A, rfl, hb, hA, hA1, hA6⟩; have hM := Lib.hid (mantA A hA hA1 hA6); clear hA; replace hT := hT.below hb; replace hB := hB.trans (hb.mono hB.size); clear hb)
        | (go_at_call 22; refine (known_calls _ hT).mono ?_; rintro e w' ⟨rfl, hb⟩; replace hB := hB.trans (hb.mono hB.size); clear hb hT)
        | (go_at_call 18; with_reducible refine (n1 hM.out _).mono ?_; rintro e w' ⟨rfl, rfl⟩)
        | (go_at_call 18; with_reducible refine (n2 hM.out _).mono ?_; rintro e w' ⟨rfl, rfl⟩)
        | (go_at_call 26; refine (dots_calls _ _).mono ?_; rintro e w' ⟨rfl, rfl⟩))
      go_ret
      exact ⟨rfl, hB⟩
    · cases minus
      · go_enter Tryd.func7, Tryd.ntmps7
        go_wp2_with (first
          | (go_at_call 25; with_reducible refine (digits_calls a a0 a1 _).mono ?_; rintro e w' ⟨A, rfl, hb, hA, hA1, hA6⟩; have hM := Lib.hid (mantA A hA hA1 hA6); clear hA; replace hT := hT.below hb; replace hB := hB.trans (hb.mono hB.size); clear hb)
          | (go_at_call 25; with_reducible refine (digits_calls p p0 p1 _).mono ?_; rintro e w' ⟨P, rfl, hb, hP, hP1, hP6⟩; have HP := Lib.hid hP; clear hP; replace hT := hT.below hb; replace hB := hB.trans (hb.mono hB.size); clear hb)
          | (go_at_call 22; refine (known_calls _ hT).mono ?_; rintro e w' ⟨rfl, hb⟩; replace hB := hB.trans (hb.mono hB.size); clear hb hT)
          | (go_at_call 18; with_reducible refine (n3 hM.out _).mono ?_; rintro e w' ⟨rfl, rfl⟩)
          | (go_at_call 18; with_reducible refine (n5 hM.out HP.out hP1 hP6 _).mono ?_; rintro e w' ⟨rfl, rfl⟩)
          | (go_at_call 18; with_reducible refine (n6 hM.out HP.out hP1 hP6 _).mono ?_; rintro e w' ⟨rfl, rfl⟩)
          | (go_at_call 26; refine (dots_calls _ _).mono ?_; rintro e w' ⟨rfl, rfl⟩))
        go_ret
        exact ⟨rfl, hB⟩
      · go_enter Tryd.func7, Tryd.ntmps7
        go_wp2_with (first
          | (go_at_call 25; with_reducible refine (digits_calls a a0 a1 _).mono ?_; rintro e w' ⟨A, rfl, hb, hA, hA1, hA6⟩; have hM := Lib.hid (mantA A hA hA1 hA6); clear hA; replace hT := hT.below hb; replace hB := hB.trans (hb.mono hB.size); clear hb)
          | (go_at_call 25; with_reducible refine (digits_calls p p0 p1 _).mono ?_; rintro e w' ⟨P, rfl, hb, hP, hP1, hP6⟩; have HP := Lib.hid hP; clear hP; replace hT := hT.below hb; replace hB := hB.trans (hb.mono hB.size); clear hb)
          | (go_at_call 22; refine (known_calls _ hT).mono ?_; rintro e w' ⟨rfl, hb⟩; replace hB := hB.trans (hb.mono hB.size); clear hb hT)
          | (go_at_call 18; with_reducible refine (n4 hM.out _).mono ?_; rintro e w' ⟨rfl, rfl⟩)
          | (go_at_call 18; with_reducible refine (n7 hM.out HP.out hP1 hP6 _).mono ?_; rintro e w' ⟨rfl, rfl⟩)
          | (go_at_call 18; with_reducible refine (n8 hM.out HP.out hP1 hP6 _).mono ?_; rintro e w' ⟨rfl, rfl⟩)
          | (go_at_call 26; refine (dots_calls _ _).mono ?_; rintro e w' ⟨rfl, rfl⟩))
        go_ret
        exact ⟨rfl, hB⟩
  · cases power
    · go_enter Tryd.func7, Tryd.ntmps7
      go_wp2_with (first
        | (go_at_call 25; with_reducible refine (digits_calls a a0 a1 _).mono ?_; rintro e w' ⟨A, rfl, hb, hA, hA1, hA6⟩; have HA := Lib.hid hA; clear hA; replace hT := hT.below hb; replace hB := hB.trans (hb.mono hB.size); clear hb)
        | (go_at_call 25; with_reducible refine (digits_calls b b0 b1 _).mono ?_; rintro e w' ⟨B, rfl, hb, hB', hB1, hB6⟩; have hM := Lib.hid (mantB A B HA.out hA1 hA6 hB' hB6); clear hB'; replace hT := hT.below hb; replace hB := hB.trans (hb.mono hB.size); clear hb)
        | (go_at_call 22; refine (known_calls _ hT).mono ?_; rintro e w' ⟨rfl, hb⟩; replace hB := hB.trans (hb.mono hB.size); clear hb hT)
        | (go_at_call 18; with_reducible refine (n1 hM.out _).mono ?_; rintro e w' ⟨rfl, rfl⟩)
        | (go_at_call 18; with_reducible refine (n2 hM.out _).mono ?_; rintro e w' ⟨rfl, rfl⟩)
        | (go_at_call 26; refine (dots_calls _ _).mono ?_; rintro e w' ⟨rfl, rfl⟩))
      go_ret
      exact ⟨rfl, hB⟩
    · cases minus
      · go_enter Tryd.func7, Tryd.ntmps7
        go_wp2_with (first
          | (go_at_call 25; with_reducible refine (digits_calls a a0 a1 _).mono ?_; rintro e w' ⟨A, rfl, hb, hA, hA1, hA6⟩; have HA := Lib.hid hA; clear hA; replace hT := hT.below hb; replace hB := hB.trans (hb.mono hB.size); clear hb)
          | (go_at_call 25; with_reducible refine (digits_calls b b0 b1 _).mono ?_; rintro e w' ⟨B, rfl, hb, hB', hB1, hB6⟩; have hM := Lib.hid (mantB A B HA.out hA1 hA6 hB' hB6); clear hB'; replace hT := hT.below hb; replace hB := hB.trans (hb.mono hB.size); clear hb)
          | (go_at_call 25; with_reducible refine (digits_calls p p0 p1 _).mono ?_; rintro e w' ⟨P, rfl, hb, hP, hP1, hP6⟩; have HP := Lib.hid hP; clear hP; replace hT := hT.below hb; replace hB := hB.trans (hb.mono hB.size); clear hb)
          | (go_at_call 22; refine (known_calls _ hT).mono ?_; rintro e w' ⟨rfl, hb⟩; replace hB := hB.trans (hb.mono hB.size); clear hb hT)
          | (go_at_call 18; with_reducible refine (n3 hM.out _).mono ?_; rintro e w' ⟨rfl, rfl⟩)
          | (go_at_call 18; with_reducible refine (n5 hM.out HP.out hP1 hP6 _).mono ?_; rintro e w' ⟨rfl, rfl⟩)
          | (go_at_call 18; with_reducible refine (n6 hM.out HP.out hP1 hP6 _).mono ?_; rintro e w' ⟨rfl, rfl⟩)
          | (go_at_call 26; refine (dots_calls _ _).mono ?_; rintro e w' ⟨rfl, rfl⟩))
        go_ret
        exact ⟨rfl, hB⟩
      · go_enter Tryd.func7, Tryd.ntmps7
        go_wp2_with (first
          | (go_at_call 25; with_reducible refine (digits_calls a a0 a1 _).mono ?_; rintro e w' ⟨A, rfl, hb, hA, hA1, hA6⟩; have HA := Lib.hid hA; clear hA; replace hT := hT.below hb; replace hB := hB.trans (hb.mono hB.size); clear hb)
          | (go_at_call 25; with_reducible refine (digits_calls b b0 b1 _).mono ?_; rintro e w' ⟨B, rfl, hb, hB', hB1, hB6⟩; have hM := Lib.hid (mantB A B HA.out hA1 hA6 hB' hB6); clear hB'; replace hT := hT.below hb; replace hB := hB.trans (hb.mono hB.size); clear hb)
          | (go_at_call 25; with_reducible refine (digits_calls p p0 p1 _).mono ?_; rintro e w' ⟨P, rfl, hb, hP, hP1, hP6⟩; have HP := Lib.hid hP; clear hP; replace hT := hT.below hb; replace hB := hB.trans (hb.mono hB.size); clear hb)
          | (go_at_call 22; refine (known_calls _ hT).mono ?_; rintro e w' ⟨rfl, hb⟩; replace hB := hB.trans (hb.mono hB.size); clear hb hT)
          | (go_at_call 18; with_reducible refine (n4 hM.out _).mono ?_; rintro e w' ⟨rfl, rfl⟩)
          | (go_at_call 18; with_reducible refine (n7 hM.out HP.out hP1 hP6 _).mono ?_; rintro e w' ⟨rfl, rfl⟩)
          | (go_at_call 18; with_reducible refine (n8 hM.out HP.out hP1 hP6 _).mono ?_; rintro e w' ⟨rfl, rfl⟩)
          | (go_at_call 26; refine (dots_calls _ _).mono ?_; rintro e w' ⟨rfl, rfl⟩))
        go_ret
        exact ⟨rfl, hB⟩
end Go.Proofs.YtpdkfofoeoakmaaDoor
