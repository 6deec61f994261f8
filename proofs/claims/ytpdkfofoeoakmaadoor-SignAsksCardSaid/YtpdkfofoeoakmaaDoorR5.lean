/- The law SignAsks: what the program's functions and the document's own tell of a text, held side by side. The table of blanks being laid. -/
import Derived.Test.YtpdkfofoeoakmaaDoorR6
import Derived.Test.YtpdkfofoeoakmaaDoorR4
namespace Go.Proofs.YtpdkfofoeoakmaaDoor
open Go.RowKit Go.Sub

set_option maxRecDepth 100000 in
set_option maxHeartbeats 2000000 in
theorem asks_calls (s : ByteArray) (w : World) (hs : s.size < 4611686018427387904) (hT : TabX w) :
    Calls Tryd.prog 33 #[.string s] w fun e w' => e = .returned (.bool true) ∧ Below w.heap.size w w' := by
  have c1 := word_calls s
  have c2 := number_calls s
  have c3 := oper_calls s
  have c4 := escape_calls s
  have c5 := plain_calls s
  have c6 := key_calls s
  have d1 := rword_calls s
  have d2 := rnumber_calls s
  have d3 := roper_calls s
  have d4 := rescape_calls s
  have d5 := rplain_calls s
  have d6 := rkey_calls s
  generalize wordN s.data.toList = n1 at *
  generalize numberN s.data.toList = n2 at *
  generalize operN s.data.toList = n3 at *
  generalize escN s.data.toList = n4 at *
  generalize plainB s.data.toList = n5 at *
  generalize isKey s.data.toList = n6 at *
  have C1 := Lib.hid c1; have C2 := Lib.hid c2; have C3 := Lib.hid c3; have C4 := Lib.hid c4; have C5 := Lib.hid c5; have C6 := Lib.hid c6
  have D1 := Lib.hid d1; have D2 := Lib.hid d2; have D3 := Lib.hid d3; have D4 := Lib.hid d4; have D5 := Lib.hid d5; have D6 := Lib.hid d6
  clear c1 c2 c3 c4 c5 c6 d1 d2 d3 d4 d5 d6
  have hB : Below w.heap.size w w := Below.refl _ _
  cases n5 <;> cases n6
  all_goals
    go_enter Tryd.func33, Tryd.ntmps33
    go_wp2_with (first
      | (go_at_call 19; with_reducible refine (C1.out _ hs).mono ?_; rintro e w' ⟨rfl, rfl⟩)
      | (go_at_call 18; with_reducible refine (C2.out _ hs).mono ?_; rintro e w' ⟨rfl, rfl⟩)
      | (go_at_call 21; with_reducible refine (C3.out _).mono ?_; rintro e w' ⟨rfl, hb⟩; replace hT := hT.below hb; replace hB := hB.trans (hb.mono hB.size); clear hb)
      | (go_at_call 20; with_reducible refine (C4.out _ hs).mono ?_; rintro e w' ⟨rfl, rfl⟩)
      | (go_at_call 23; with_reducible refine (C5.out _ hs hT).mono ?_; rintro e w' ⟨rfl, hb⟩; replace hT := hT.below hb; replace hB := hB.trans (hb.mono hB.size); clear hb)
      | (go_at_call 24; with_reducible refine (C6.out _ hT).mono ?_; rintro e w' ⟨rfl, hb⟩; replace hT := hT.below hb; replace hB := hB.trans (hb.mono hB.size); clear hb)
      | (go_at_call 48; with_reducible refine (D1.out _ hs).mono ?_; rintro e w' ⟨rfl, rfl⟩)
      | (go_at_call 49; with_reducible refine (D2.out _ hs).mono ?_; rintro e w' ⟨rfl, rfl⟩)
      | (go_at_call 50; with_reducible refine (D3.out _ hs).mono ?_; rintro e w' ⟨rfl, hb⟩; replace hT := hT.below hb; replace hB := hB.trans (hb.mono hB.size); clear hb)
      | (go_at_call 51; with_reducible refine (D4.out _ hs).mono ?_; rintro e w' ⟨rfl, hb⟩; replace hT := hT.below hb; replace hB := hB.trans (hb.mono hB.size); clear hb)
      | (go_at_call 52; with_reducible refine (D5.out _ hs).mono ?_; rintro e w' ⟨rfl, hb⟩; replace hT := hT.below hb; replace hB := hB.trans (hb.mono hB.size); clear hb)
      | (go_at_call 53; with_reducible refine (D6.out _).mono ?_; rintro e w' ⟨rfl, hb⟩; replace hT := hT.below hb; replace hB := hB.trans (hb.mono hB.size); clear hb))
    go_ret
    exact ⟨rfl, hB⟩
end Go.Proofs.YtpdkfofoeoakmaaDoor
