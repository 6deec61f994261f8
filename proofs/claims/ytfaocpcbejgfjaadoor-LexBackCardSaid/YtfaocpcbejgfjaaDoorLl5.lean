/- The law LexFirst, walked. Its condition: the choices' cells hold bytes. -/
import Derived.Test.YtfaocpcbejgfjaaDoorLe3
import Derived.Test.YtfaocpcbejgfjaaDoorLs2
namespace Go.Proofs.YtfaocpcbejgfjaaDoor
open Go.RowKit Go.Sub

theorem tokens_any {s : ByteArray} {ys : List Tok3} {er : Nat} {z : Int} (h : tokensN s = (ys, er, z)) (hs : s.size < 4611686018427387904) (w : World) :
    Calls Tryd.prog 11 #[.string s] w fun e w' => ∃ v, e = .returned (.tuple #[v, .int .u16 (er : Int), .int .i64 z]) ∧ w'.ownsRow w.heap.size 32 2 v ys.length (tokC s.data.toList ys) ∧ Below w.heap.size w w' := by
  have hc := tokens_calls s w hs
  rw [h] at hc
  exact hc
set_option maxRecDepth 100000 in
set_option maxHeartbeats 4000000 in
theorem first_core (v : Value) (w : World) (hv : BytesV w v) :
    Calls Tryd.prog 3 #[v] w fun e w' => e = .returned (.bool true) ∧ Below w.heap.size w w' := by
  have Hs := Lib.hid (source_calls v w hv)
  clear hv
  go_enter Tryd.func3, Tryd.ntmps3
  go_wp2_with (go_at_call 10; refine (Hs.out).mono ?_; rintro e w1 ⟨R, rfl, hR, hu, hB⟩; clear Hs; have Hu := Lib.hid hu; clear hu)
  obtain ⟨ys, b, st, inn, er, h1, h2, h3⟩ := lex_whole R.data.toList
  rw [← Lib.size_eq] at h2 h3
  have ht := tokens_at (by omega) Hu.out h2
  have hRs : R.size < 4611686018427387904 := by omega
  by_cases he : er = 11 ∨ er = 12
  · have hb : b < R.size := by
      rcases h3 with ⟨h, _, _⟩ | ⟨_, h⟩
      · exact h
      · exfalso
        cases hc : (inn || !st.isEmpty)
        · rw [hc] at h; simp at h; omega
        · rw [hc] at h; simp at h; omega
    rw [if_neg (by omega)] at ht
    obtain ⟨zs, hcut⟩ := cut_told (s := R) (by omega) Hu.out h1 (T := R.extract 0 b) (by rw [Lib.extract_data]; simp)
    have hTs : (R.extract 0 b).size < 4611686018427387904 := ext_lt _ _ _ (by omega)
    have Ht := Lib.hid (tokens_none ht hRs)
    clear h1 h2 h3 ht
    cases hc : (inn || !st.isEmpty)
    · rw [hc] at hcut
      have Hc := Lib.hid (tokens_any hcut hTs)
      clear hc hcut
      rcases he with rfl | rfl
      all_goals
        go_wp2_with (first
          | (go_at_call 11; with_reducible refine (Ht.out _).mono ?_; rintro e w2 ⟨p2, cap2, rfl, hb2⟩; replace hB := hB.trans (hb2.mono hB.size); clear hb2)
          | (go_at_call 11; with_reducible refine (Hc.out _).mono ?_; rintro e w3 ⟨v3, rfl, _, hb2⟩; replace hB := hB.trans (hb2.mono hB.size); clear hb2)
          | (go_at_call 12; refine (known_calls _).mono ?_; rintro e w4 ⟨rfl, hb2⟩; replace hB := hB.trans (hb2.mono hB.size); clear hb2))
        go_ret
        exact ⟨rfl, hB⟩
    · rw [hc] at hcut
      have Hc := Lib.hid (tokens_any hcut hTs)
      clear hc hcut
      rcases he with rfl | rfl
      all_goals
        go_wp2_with (first
          | (go_at_call 11; with_reducible refine (Ht.out _).mono ?_; rintro e w2 ⟨p2, cap2, rfl, hb2⟩; replace hB := hB.trans (hb2.mono hB.size); clear hb2)
          | (go_at_call 11; with_reducible refine (Hc.out _).mono ?_; rintro e w3 ⟨v3, rfl, _, hb2⟩; replace hB := hB.trans (hb2.mono hB.size); clear hb2)
          | (go_at_call 12; refine (known_calls _).mono ?_; rintro e w4 ⟨rfl, hb2⟩; replace hB := hB.trans (hb2.mono hB.size); clear hb2))
        go_ret
        exact ⟨rfl, hB⟩
  · have hsome : ∃ zs z, tokensN R = (zs, er, z) := by
      by_cases h0 : er = 0
      · rw [if_pos h0] at ht; subst h0; exact ⟨_, _, ht⟩
      · rw [if_neg h0] at ht; exact ⟨_, _, ht⟩
    obtain ⟨zs, z, ht2⟩ := hsome
    have Ht := Lib.hid (tokens_any ht2 hRs)
    have y1 : ((er : Int) != 11) = true := by rw [bne_iff_ne]; omega
    have y2 : ((er : Int) != 12) = true := by rw [bne_iff_ne]; omega
    clear h1 h2 h3 ht ht2 he
    go_wp2_with (first
      | (go_at_call 11; with_reducible refine (Ht.out _).mono ?_; rintro e w2 ⟨v2, rfl, _, hb2⟩; replace hB := hB.trans (hb2.mono hB.size); clear hb2)
      | (go_at_call 12; refine (known_calls _).mono ?_; rintro e w4 ⟨rfl, hb2⟩; replace hB := hB.trans (hb2.mono hB.size); clear hb2))
    go_ret
    exact ⟨rfl, hB⟩
end Go.Proofs.YtfaocpcbejgfjaaDoor
