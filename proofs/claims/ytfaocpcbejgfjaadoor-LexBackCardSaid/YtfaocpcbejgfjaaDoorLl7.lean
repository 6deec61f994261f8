/- The law LexBack, walked. Its condition: the choices' cells hold bytes. -/
import Derived.Test.YtfaocpcbejgfjaaDoorLl5
import Derived.Test.YtfaocpcbejgfjaaDoorSm4
namespace Go.Proofs.YtfaocpcbejgfjaaDoor
open Go.RowKit Go.Sub

theorem tokB_str {s : ByteArray} {ys : List Tok3} (h : joinL (ys.map (tokB s.data.toList)) = s.data.toList) : (⟨(joinL (ys.map (tokB s.data.toList))).toArray⟩ : ByteArray) = s := by
  rw [h]
set_option maxRecDepth 100000 in
set_option maxHeartbeats 4000000 in
theorem bk_calls (s : ByteArray) (hs : s.size ≤ 300) (w : World) :
    Calls Tryd.prog 14 #[.string s] w fun e w' => e = .returned (.bool true) ∧ Below w.heap.size w w' := by
  obtain ⟨ys, er, z, ht⟩ : ∃ ys er z, tokensN s = (ys, er, z) := ⟨_, _, _, rfl⟩
  obtain ⟨q1, q2⟩ := tokens_shape (by omega) ht
  have T := Lib.hid (tokens_any ht (by omega))
  by_cases he : er = 0
  · subst he
    obtain ⟨rfl, hk, hj, hn⟩ := q2 rfl
    have hr := right_own (by omega) ht
    have hJ := tokB_str hj
    have hjl : (joinL (ys.map (tokB s.data.toList))).length ≤ 1000000 := by rw [hj, ← Lib.size_eq]; omega
    have Hj := Lib.hid fun v w h => join_calls v (ys.map (tokB s.data.toList)) w h hjl
    rw [hJ] at Hj
    have Hr := Lib.hid fun v w h => right_calls v (ys.map (tokB s.data.toList)) w h hjl
    rw [hr] at Hr
    have Hk := Lib.hid hk
    clear q1 q2 ht hk hj hr hJ hjl
    go_enter Tryd.func14, Tryd.ntmps14
    go_wp2_with (go_at_call 11; with_reducible refine (T.out _).mono ?_; rintro e w1 ⟨v, rfl, row, hB⟩)
    have htr := tokRow_own row (by omega)
    have Htr := Lib.hid htr
    obtain ⟨p, cap, rfl, _, hc⟩ := htr
    rw [List.length_map] at *
    clear row
    have HB := Lib.hid hB
    clear hB
    go_wp2
    go_loopw [6] (fun i wr => ∃ n : Nat, i = .int .i64 n ∧ n ≤ ys.length ∧ wr = w1) (fun i _ => ys.length - (intOf i).toNat)
    case atStart => exact ⟨0, rfl, by omega, rfl⟩
    case round =>
      obtain ⟨n, rfl, hn2, rfl⟩ := hrel
      by_cases hlt : n < ys.length
      · obtain ⟨y, hy⟩ : ∃ y, ys[n]? = some y := ⟨_, List.getElem?_eq_getElem hlt⟩
        obtain ⟨⟨k1, k2⟩, k3, k4⟩ := Hk.out y (List.mem_of_getElem? hy)
        obtain ⟨a, o1, rfl, c1, c2⟩ := hc n (tokB s.data.toList y) (by rw [List.getElem?_map, hy]; rfl)
        obtain ⟨X, hX⟩ : ∃ X : ByteArray, (tokB s.data.toList y).2 = X := ⟨_, rfl⟩
        have hXs : 0 < X.size := by
          rw [← hX, Lib.size_eq]
          show 0 < ((s.data.toList.drop y.2.1).take y.2.2).length
          rw [List.length_take, List.length_drop, ← Lib.size_eq]; omega
        obtain ⟨e1, e2⟩ := not_empty X hXs
        rw [hX] at c2
        have c1' : wr.cell? ⟨a, o1 + n * 2, none⟩ = some (.int .i64 (y.1 : Int)) := c1
        clear hc hX c1 hy
        go_wp2
        go_roundw
        case rel => exact ⟨n + 1, by go_num, by omega, by first | rfl | trivial⟩
        case measure => simp only [intOf]; omega
      · clear hc
        go_wp2_with (first
          | (go_at_call 18; refine (Hj.out _ _ Htr.out).mono ?_; rintro e w2 ⟨rfl, hb⟩; have HB2 := Lib.hid (HB.out.trans (hb.mono HB.out.size)); have Htr2 := Lib.hid (Htr.out.below hb); clear hb)
          | (go_at_call 19; refine (Hr.out _ _ Htr2.out).mono ?_; rintro e w3 ⟨rfl, hb⟩; have HB3 := Lib.hid (HB2.out.trans (hb.mono HB2.out.size)); clear hb))
        go_ret
        exact ⟨rfl, HB3.out⟩
  · obtain ⟨rfl, hz0, hz1⟩ := q1 he
    have y1 : ((er : Int) != 0) = true := by rw [bne_iff_ne]; omega
    clear q1 q2 ht
    go_enter Tryd.func14, Tryd.ntmps14
    go_wp2_with (go_at_call 11; with_reducible refine (T.out _).mono ?_; rintro e w1 ⟨v, rfl, row, hB⟩; obtain ⟨p, cap, rfl, _⟩ := row_shapeB row; clear row)
    go_ret
    exact ⟨rfl, hB⟩
set_option maxRecDepth 100000 in
set_option maxHeartbeats 4000000 in
theorem back_core (s : ByteArray) (v : Value) (w : World) (hv : BytesV w v) :
    Calls Tryd.prog 9 #[.string s, v] w fun e w' => e = .returned (.bool true) ∧ Below w.heap.size w w' := by
  have Hv := Lib.hid hv
  clear hv
  by_cases hs : 300 < s.size
  · go_enter Tryd.func9, Tryd.ntmps9
    go_wp2_with (go_at_call 12; refine (known_calls _).mono ?_; rintro e w1 ⟨rfl, hB⟩)
    go_ret
    exact ⟨rfl, hB⟩
  · have Hs := Lib.hid fun w => bk_calls s (by omega) w
    go_enter Tryd.func9, Tryd.ntmps9
    go_wp2_with (first
      | (go_at_call 12; refine (known_calls _).mono ?_; rintro e w1 ⟨rfl, hB⟩)
      | (go_at_call 14; with_reducible refine (Hs.out _).mono ?_; rintro e w2 ⟨rfl, hb⟩; replace hB := hB.trans (hb.mono hB.size); clear hb)
      | (go_at_call 10; refine (source_calls v _ (Hv.out.below hB)).mono ?_; rintro e w3 ⟨R, rfl, hR, hu, hb⟩; replace hB := hB.trans (hb.mono hB.size); clear hb hu)
      | (go_at_call 14; refine (bk_calls R hR _).mono ?_; rintro e w4 ⟨rfl, hb⟩; replace hB := hB.trans (hb.mono hB.size); clear hb))
    go_ret
    exact ⟨rfl, hB⟩
end Go.Proofs.YtfaocpcbejgfjaaDoor
