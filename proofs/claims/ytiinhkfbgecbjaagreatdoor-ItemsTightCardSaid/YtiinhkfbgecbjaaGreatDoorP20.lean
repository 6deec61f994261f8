/- ItemsTight, walked. Its condition: how the choices lie in memory. -/
import Derived.Test.YtiinhkfbgecbjaaGreatDoorC3
namespace Go.Proofs.YtiinhkfbgecbjaaGreatDoor
set_option linter.unusedSimpArgs false
set_option linter.unusedVariables false
open Go.RowKit Go.Sub

theorem colon_list {s : ByteArray} : s = ⟨#[58]⟩ ↔ s.toList = [58] := ⟨fun h => by rw [h, ByteArray.toList_eq], fun h => bytes_same (b := ⟨#[58]⟩) (h.trans (by rw [ByteArray.toList_eq]))⟩
set_option maxRecDepth 100000 in
set_option maxHeartbeats 4000000 in
theorem tight_core (v : Value) (k : Nat) (hk : k ≤ 255) (w : World) (hv : BytesV w v) : Calls Tryz.prog 3 #[v, .int .u8 (k : Int)] w fun e w' => e = .returned (.bool true) ∧ Below w.heap.size w w' := by
  have HV := Lib.hid hv
  clear hv
  go_enter Tryz.func3, Tryz.ntmps3
  go_upto_region 2 with (first
    | (go_at_call 10; refine (source_calls _ _ HV.out).mono ?_; rintro e w1 ⟨R, rfl, hR, hb1⟩; have HB1 := Lib.hid hb1; clear hb1)
    | (go_at_call 9; refine (stokens_calls _ _ (by omega)).mono ?_; rintro e w2 ⟨p, c, xs, er, z, rfl, hrow, hlen, hsrc, -, hb2⟩; have HB2 := Lib.hid (HB1.out.trans (hb2.mono HB1.out.size)); have HR := Lib.hid hrow; have HS := Lib.hid hsrc; clear hb2 hrow hsrc))
  by_cases he : er = 0
  · subst he
    have hs := HS.out rfl
    by_cases hl : xs.length < 2
    · have y1 : decide ((xs.length : Int) < 2) = true := decide_eq_true (by omega)
      go_wp2_with (go_at_call 11; refine (known_calls _).mono ?_; rintro e w3 ⟨rfl, hb3⟩; have HB3 := Lib.hid (HB2.out.trans (hb3.mono HB2.out.size)); have HB32 := Lib.hid hb3; clear hb3)
      go_ret
      exact ⟨rfl, HB3.out⟩
    · have y1 : decide ((xs.length : Int) < 2) = false := decide_eq_false (by omega)
      have y2 : ((xs.length : Int) < 2) = False := eq_false (by omega)
      have y3 : IntKind.i64.wrap ((xs.length : Int) - 1) = (xs.length : Int) - 1 := IntWalk.i64_in _ (by omega)
      obtain ⟨i, hi, hil⟩ : ∃ i : Nat, (k : Int) % ((xs.length : Int) - 1) = (i : Int) ∧ i + 1 < xs.length := by
        have e1 := Int.emod_nonneg (k : Int) (b := (xs.length : Int) - 1) (by omega)
        have e2 := Int.emod_lt_of_pos (k : Int) (b := (xs.length : Int) - 1) (by omega)
        exact ⟨((k : Int) % ((xs.length : Int) - 1)).toNat, by omega, by omega⟩
      have y4 : IntKind.i64.wrap ((i : Int) + 1) = ((i + 1 : Nat) : Int) := by rw [IntWalk.i64_in _ (by omega)]; omega
      have hxa := List.getElem?_eq_getElem (show i < xs.length by omega)
      have hxb := List.getElem?_eq_getElem hil
      obtain ⟨p', c', e', -, hce⟩ := HR.out
      cases e'
      obtain ⟨b, o, rfl, c0, c1⟩ := hce i _ hxa
      obtain ⟨b', o', e2, d0, d1⟩ := hce (i + 1) _ hxb
      cases e2
      have ht := hs.tight i _ _ hxa hxb
      obtain ⟨⟨a1, a2⟩, -⟩ := hs.kinds _ (List.mem_of_getElem? hxa)
      obtain ⟨⟨b1, b2⟩, -⟩ := hs.kinds _ (List.mem_of_getElem? hxb)
      have hsa := sumI_mem (List.mem_of_getElem? hxa)
      have hsb := sumI_mem (List.mem_of_getElem? hxb)
      have hsu : sumI xs ≤ 600 := Nat.le_trans hs.sum (by omega)
      generalize xs[i] = xa at *
      generalize xs[i + 1] = xb at *
      obtain ⟨ka, sa⟩ := xa
      obtain ⟨kb, sb⟩ := xb
      dsimp only at c0 c1 d0 d1 a1 a2 b1 b2 hsa hsb
      have QT := Lib.hid (fun W => itight_calls (ka, sa) (kb, sb) W (by show sa.size + sb.size ≤ _; omega))
      rw [ht] at QT
      have el : ((i : Int) % 1) = 0 := by omega
      have al := (Below.refl w2.heap.size w2).alloc (Nat.le_refl _) (.cells #[.int .i64 ka, .string sa] 29)
      have al2 := ((Below.refl w2.heap.size w2).alloc (Nat.le_refl _) (.cells #[.int .i64 ka, .string sa] 29)).alloc (by simp) (.cells #[.int .i64 kb, .string sb] 29)
      have d0' := (al.cell (World.block_lt_of_cell? _ _ d0)).trans d0
      have d1' := (al.cell (World.block_lt_of_cell? _ _ d1)).trans d1
      have n1 : ((w2.alloc (.cells #[.int .i64 ka, .string sa] 29)).alloc (.cells #[.int .i64 kb, .string sb] 29)).heap[w2.heap.size]? = some (.cells #[.int .i64 ka, .string sa] 29 (0, 0)) := (Below.heap_alloc _ _ _ (by simp)).trans (World.alloc_heap_new w2 _)
      have n2 : ((w2.alloc (.cells #[.int .i64 ka, .string sa] 29)).alloc (.cells #[.int .i64 kb, .string sb] 29)).heap[w2.heap.size + 1]? = some (.cells #[.int .i64 kb, .string sb] 29 (0, 0)) := by
        have := World.alloc_heap_new (w2.alloc (.cells #[.int .i64 ka, .string sa] 29)) (.cells #[.int .i64 kb, .string sb] 29)
        rwa [World.size_alloc] at this
      have HAL := Lib.hid al2
      clear hce hxa hxb hs hsa hsb hsu ht al al2
      go_upto_region 7 with (fail)
      obtain ⟨W4, hW4⟩ : ∃ W4, (w2.alloc (.cells #[.int .i64 ka, .string sa] 29)).alloc (.cells #[.int .i64 kb, .string sb] 29) = W4 := ⟨_, rfl⟩
      rw [hW4] at n1 n2 HAL ⊢
      have x0 : W4.cell? ⟨w2.heap.size, 0, none⟩ = some (.int .i64 ka) := cell_of_block n1 rfl
      have x1 : W4.cell? ⟨w2.heap.size, 1, none⟩ = some (.string sa) := cell_of_block n1 rfl
      have z0 : W4.cell? ⟨w2.heap.size + 1, 0, none⟩ = some (.int .i64 kb) := cell_of_block n2 rfl
      have z1 : W4.cell? ⟨w2.heap.size + 1, 1, none⟩ = some (.string sb) := cell_of_block n2 rfl
      have HB4 := Lib.hid (HB2.out.trans (HAL.out.mono HB2.out.size))
      clear hW4 n1 n2 d0 d1 d0' d1' c0 c1
      have hsp : spaceB (ka, sa) (kb, sb) = decide (ka < 3 ∨ kb < 3 ∨ (ka = 6 ∧ (kb = 6 ∨ kb = 3)) ∨ (sa = ⟨#[58]⟩ ∧ sb = ⟨#[58]⟩ ∧ ka = 13)) := rfl
      have HSP := Lib.hid hsp
      clear hsp
      by_cases c1 : ka < 3
      · have l1 : decide (ka < 3) = true := decide_eq_true c1; have l1' : (ka < 3) = True := eq_true c1
        have hv : Hid (spaceB (ka, sa) (kb, sb) = true) := Lib.hid (by rw [HSP.out]; exact decide_eq_true (.inl c1))
        rw [hv.out] at QT 
        (try clear c1) 
        (try clear c2) 
        (try clear c3) 
        (try clear c4) 
        (try clear c5) 
        (try clear c6) 
        (try clear c7) 
        go_wp2_with (first 
          | (go_at_call 11; refine (known_calls _).mono ?_; rintro e w5 ⟨rfl, hb5⟩; have x0' := (hb5.cell (World.block_lt_of_cell? _ _ x0)).trans x0; have x1' := (hb5.cell (World.block_lt_of_cell? _ _ x1)).trans x1; have z0' := (hb5.cell (World.block_lt_of_cell? _ _ z0)).trans z0; have z1' := (hb5.cell (World.block_lt_of_cell? _ _ z1)).trans z1; have HB5 := Lib.hid (HB4.out.trans (hb5.mono HB4.out.size)); clear hb5) 
          | (go_at_call 12; refine (QT.out _).mono ?_; rintro e w6 ⟨rfl, hb6⟩; have HB6 := Lib.hid (HB5.out.trans (hb6.mono HB5.out.size)); clear hb6)) 
        go_ret 
        exact ⟨by first | rfl | simp, HB6.out⟩
      · have l1 : decide (ka < 3) = false := decide_eq_false c1; have l1' : (ka < 3) = False := eq_false c1
        by_cases c2 : kb < 3
        · have l2 : decide (kb < 3) = true := decide_eq_true c2; have l2' : (kb < 3) = True := eq_true c2
          have hv : Hid (spaceB (ka, sa) (kb, sb) = true) := Lib.hid (by rw [HSP.out]; exact decide_eq_true (.inr (.inl c2)))
          rw [hv.out] at QT 
          (try clear c1) 
          (try clear c2) 
          (try clear c3) 
          (try clear c4) 
          (try clear c5) 
          (try clear c6) 
          (try clear c7) 
          go_wp2_with (first 
            | (go_at_call 11; refine (known_calls _).mono ?_; rintro e w5 ⟨rfl, hb5⟩; have x0' := (hb5.cell (World.block_lt_of_cell? _ _ x0)).trans x0; have x1' := (hb5.cell (World.block_lt_of_cell? _ _ x1)).trans x1; have z0' := (hb5.cell (World.block_lt_of_cell? _ _ z0)).trans z0; have z1' := (hb5.cell (World.block_lt_of_cell? _ _ z1)).trans z1; have HB5 := Lib.hid (HB4.out.trans (hb5.mono HB4.out.size)); clear hb5) 
            | (go_at_call 12; refine (QT.out _).mono ?_; rintro e w6 ⟨rfl, hb6⟩; have HB6 := Lib.hid (HB5.out.trans (hb6.mono HB5.out.size)); clear hb6)) 
          go_ret 
          exact ⟨by first | rfl | simp, HB6.out⟩
        · have l2 : decide (kb < 3) = false := decide_eq_false c2; have l2' : (kb < 3) = False := eq_false c2
          by_cases c3 : ka = 6
          · subst c3
            by_cases c4 : kb = 6
            · subst c4
              have hv : Hid (spaceB (6, sa) (6, sb) = true) := Lib.hid (by rw [HSP.out]; exact decide_eq_true (by omega))
              rw [hv.out] at QT 
              (try clear c1) 
              (try clear c2) 
              (try clear c3) 
              (try clear c4) 
              (try clear c5) 
              (try clear c6) 
              (try clear c7) 
              go_wp2_with (first 
                | (go_at_call 11; refine (known_calls _).mono ?_; rintro e w5 ⟨rfl, hb5⟩; have x0' := (hb5.cell (World.block_lt_of_cell? _ _ x0)).trans x0; have x1' := (hb5.cell (World.block_lt_of_cell? _ _ x1)).trans x1; have z0' := (hb5.cell (World.block_lt_of_cell? _ _ z0)).trans z0; have z1' := (hb5.cell (World.block_lt_of_cell? _ _ z1)).trans z1; have HB5 := Lib.hid (HB4.out.trans (hb5.mono HB4.out.size)); clear hb5) 
                | (go_at_call 12; refine (QT.out _).mono ?_; rintro e w6 ⟨rfl, hb6⟩; have HB6 := Lib.hid (HB5.out.trans (hb6.mono HB5.out.size)); clear hb6)) 
              go_ret 
              exact ⟨by first | rfl | simp, HB6.out⟩
            · by_cases c5 : kb = 3
              · subst c5
                have hv : Hid (spaceB (6, sa) (3, sb) = true) := Lib.hid (by rw [HSP.out]; exact decide_eq_true (by omega))
                rw [hv.out] at QT 
                (try clear c1) 
                (try clear c2) 
                (try clear c3) 
                (try clear c4) 
                (try clear c5) 
                (try clear c6) 
                (try clear c7) 
                go_wp2_with (first 
                  | (go_at_call 11; refine (known_calls _).mono ?_; rintro e w5 ⟨rfl, hb5⟩; have x0' := (hb5.cell (World.block_lt_of_cell? _ _ x0)).trans x0; have x1' := (hb5.cell (World.block_lt_of_cell? _ _ x1)).trans x1; have z0' := (hb5.cell (World.block_lt_of_cell? _ _ z0)).trans z0; have z1' := (hb5.cell (World.block_lt_of_cell? _ _ z1)).trans z1; have HB5 := Lib.hid (HB4.out.trans (hb5.mono HB4.out.size)); clear hb5) 
                  | (go_at_call 12; refine (QT.out _).mono ?_; rintro e w6 ⟨rfl, hb6⟩; have HB6 := Lib.hid (HB5.out.trans (hb6.mono HB5.out.size)); clear hb6)) 
                go_ret 
                exact ⟨by first | rfl | simp, HB6.out⟩
              · have hv : Hid (spaceB (6, sa) (kb, sb) = false) := Lib.hid (by rw [HSP.out]; exact decide_eq_false (by omega))
                have e4 : (kb == 6) = false := beq_eq_false_iff_ne.2 c4
                have e5 : (kb == 3) = false := beq_eq_false_iff_ne.2 c5
                have e4' : (kb = 6) = False := eq_false c4
                have e5' : (kb = 3) = False := eq_false c5
                have e8 : ((6 : Int) == 13) = false := by decide
                by_cases c6 : sa = ⟨#[58]⟩
                · have s6 : sa.toList = [58] := colon_list.1 c6; have s6b : (sa.toList == [58]) = true := beq_iff_eq.2 (colon_list.1 c6)
                  by_cases c7 : sb = ⟨#[58]⟩
                  · have s7 : sb.toList = [58] := colon_list.1 c7; have s7b : (sb.toList == [58]) = true := beq_iff_eq.2 (colon_list.1 c7)
                    rw [hv.out] at QT 
                    (try clear c1) 
                    (try clear c2) 
                    (try clear c3) 
                    (try clear c4) 
                    (try clear c5) 
                    (try clear c6) 
                    (try clear c7) 
                    go_wp2_with (first 
                      | (go_at_call 11; refine (known_calls _).mono ?_; rintro e w5 ⟨rfl, hb5⟩; have x0' := (hb5.cell (World.block_lt_of_cell? _ _ x0)).trans x0; have x1' := (hb5.cell (World.block_lt_of_cell? _ _ x1)).trans x1; have z0' := (hb5.cell (World.block_lt_of_cell? _ _ z0)).trans z0; have z1' := (hb5.cell (World.block_lt_of_cell? _ _ z1)).trans z1; have HB5 := Lib.hid (HB4.out.trans (hb5.mono HB4.out.size)); clear hb5) 
                      | (go_at_call 12; refine (QT.out _).mono ?_; rintro e w6 ⟨rfl, hb6⟩; have HB6 := Lib.hid (HB5.out.trans (hb6.mono HB5.out.size)); clear hb6)) 
                    go_ret 
                    exact ⟨by first | rfl | simp, HB6.out⟩
                  · have s7 : (sb.toList = [58]) = False := eq_false fun h => c7 (colon_list.2 h); have s7b : (sb.toList == [58]) = false := beq_eq_false_iff_ne.2 fun h => c7 (colon_list.2 h)
                    rw [hv.out] at QT 
                    (try clear c1) 
                    (try clear c2) 
                    (try clear c3) 
                    (try clear c4) 
                    (try clear c5) 
                    (try clear c6) 
                    (try clear c7) 
                    go_wp2_with (first 
                      | (go_at_call 11; refine (known_calls _).mono ?_; rintro e w5 ⟨rfl, hb5⟩; have x0' := (hb5.cell (World.block_lt_of_cell? _ _ x0)).trans x0; have x1' := (hb5.cell (World.block_lt_of_cell? _ _ x1)).trans x1; have z0' := (hb5.cell (World.block_lt_of_cell? _ _ z0)).trans z0; have z1' := (hb5.cell (World.block_lt_of_cell? _ _ z1)).trans z1; have HB5 := Lib.hid (HB4.out.trans (hb5.mono HB4.out.size)); clear hb5) 
                      | (go_at_call 12; refine (QT.out _).mono ?_; rintro e w6 ⟨rfl, hb6⟩; have HB6 := Lib.hid (HB5.out.trans (hb6.mono HB5.out.size)); clear hb6)) 
                    go_ret 
                    exact ⟨by first | rfl | simp, HB6.out⟩
                · have s6 : (sa.toList = [58]) = False := eq_false fun h => c6 (colon_list.2 h); have s6b : (sa.toList == [58]) = false := beq_eq_false_iff_ne.2 fun h => c6 (colon_list.2 h)
                  rw [hv.out] at QT 
                  (try clear c1) 
                  (try clear c2) 
                  (try clear c3) 
                  (try clear c4) 
                  (try clear c5) 
                  (try clear c6) 
                  (try clear c7) 
                  go_wp2_with (first 
                    | (go_at_call 11; refine (known_calls _).mono ?_; rintro e w5 ⟨rfl, hb5⟩; have x0' := (hb5.cell (World.block_lt_of_cell? _ _ x0)).trans x0; have x1' := (hb5.cell (World.block_lt_of_cell? _ _ x1)).trans x1; have z0' := (hb5.cell (World.block_lt_of_cell? _ _ z0)).trans z0; have z1' := (hb5.cell (World.block_lt_of_cell? _ _ z1)).trans z1; have HB5 := Lib.hid (HB4.out.trans (hb5.mono HB4.out.size)); clear hb5) 
                    | (go_at_call 12; refine (QT.out _).mono ?_; rintro e w6 ⟨rfl, hb6⟩; have HB6 := Lib.hid (HB5.out.trans (hb6.mono HB5.out.size)); clear hb6)) 
                  go_ret 
                  exact ⟨by first | rfl | simp, HB6.out⟩
          · have e3 : (ka == 6) = false := beq_eq_false_iff_ne.2 c3
            have e3' : (ka = 6) = False := eq_false c3
            by_cases c6 : sa = ⟨#[58]⟩
            · have s6 : sa.toList = [58] := colon_list.1 c6; have s6b : (sa.toList == [58]) = true := beq_iff_eq.2 (colon_list.1 c6)
              by_cases c7 : sb = ⟨#[58]⟩
              · have s7 : sb.toList = [58] := colon_list.1 c7; have s7b : (sb.toList == [58]) = true := beq_iff_eq.2 (colon_list.1 c7)
                by_cases c8 : ka = 13
                · subst c8
                  have hv : Hid (spaceB (13, sa) (kb, sb) = true) := Lib.hid (by rw [HSP.out]; exact decide_eq_true (.inr (.inr (.inr ⟨c6, c7, rfl⟩))))
                  rw [hv.out] at QT 
                  (try clear c1) 
                  (try clear c2) 
                  (try clear c3) 
                  (try clear c4) 
                  (try clear c5) 
                  (try clear c6) 
                  (try clear c7) 
                  go_wp2_with (first 
                    | (go_at_call 11; refine (known_calls _).mono ?_; rintro e w5 ⟨rfl, hb5⟩; have x0' := (hb5.cell (World.block_lt_of_cell? _ _ x0)).trans x0; have x1' := (hb5.cell (World.block_lt_of_cell? _ _ x1)).trans x1; have z0' := (hb5.cell (World.block_lt_of_cell? _ _ z0)).trans z0; have z1' := (hb5.cell (World.block_lt_of_cell? _ _ z1)).trans z1; have HB5 := Lib.hid (HB4.out.trans (hb5.mono HB4.out.size)); clear hb5) 
                    | (go_at_call 12; refine (QT.out _).mono ?_; rintro e w6 ⟨rfl, hb6⟩; have HB6 := Lib.hid (HB5.out.trans (hb6.mono HB5.out.size)); clear hb6)) 
                  go_ret 
                  exact ⟨by first | rfl | simp, HB6.out⟩
                · have e8 : (ka == 13) = false := beq_eq_false_iff_ne.2 c8
                  have e8' : (ka = 13) = False := eq_false c8
                  have hv : Hid (spaceB (ka, sa) (kb, sb) = false) := Lib.hid (by rw [HSP.out]; exact decide_eq_false (by omega))
                  rw [hv.out] at QT 
                  (try clear c1) 
                  (try clear c2) 
                  (try clear c3) 
                  (try clear c4) 
                  (try clear c5) 
                  (try clear c6) 
                  (try clear c7) 
                  go_wp2_with (first 
                    | (go_at_call 11; refine (known_calls _).mono ?_; rintro e w5 ⟨rfl, hb5⟩; have x0' := (hb5.cell (World.block_lt_of_cell? _ _ x0)).trans x0; have x1' := (hb5.cell (World.block_lt_of_cell? _ _ x1)).trans x1; have z0' := (hb5.cell (World.block_lt_of_cell? _ _ z0)).trans z0; have z1' := (hb5.cell (World.block_lt_of_cell? _ _ z1)).trans z1; have HB5 := Lib.hid (HB4.out.trans (hb5.mono HB4.out.size)); clear hb5) 
                    | (go_at_call 12; refine (QT.out _).mono ?_; rintro e w6 ⟨rfl, hb6⟩; have HB6 := Lib.hid (HB5.out.trans (hb6.mono HB5.out.size)); clear hb6)) 
                  go_ret 
                  exact ⟨by first | rfl | simp, HB6.out⟩
              · have s7 : (sb.toList = [58]) = False := eq_false fun h => c7 (colon_list.2 h); have s7b : (sb.toList == [58]) = false := beq_eq_false_iff_ne.2 fun h => c7 (colon_list.2 h)
                have hv : Hid (spaceB (ka, sa) (kb, sb) = false) := Lib.hid (by rw [HSP.out]; exact decide_eq_false (by rintro (h | h | h | h); exact c1 h; exact c2 h; exact c3 h.1; exact c7 h.2.1))
                rw [hv.out] at QT 
                (try clear c1) 
                (try clear c2) 
                (try clear c3) 
                (try clear c4) 
                (try clear c5) 
                (try clear c6) 
                (try clear c7) 
                go_wp2_with (first 
                  | (go_at_call 11; refine (known_calls _).mono ?_; rintro e w5 ⟨rfl, hb5⟩; have x0' := (hb5.cell (World.block_lt_of_cell? _ _ x0)).trans x0; have x1' := (hb5.cell (World.block_lt_of_cell? _ _ x1)).trans x1; have z0' := (hb5.cell (World.block_lt_of_cell? _ _ z0)).trans z0; have z1' := (hb5.cell (World.block_lt_of_cell? _ _ z1)).trans z1; have HB5 := Lib.hid (HB4.out.trans (hb5.mono HB4.out.size)); clear hb5) 
                  | (go_at_call 12; refine (QT.out _).mono ?_; rintro e w6 ⟨rfl, hb6⟩; have HB6 := Lib.hid (HB5.out.trans (hb6.mono HB5.out.size)); clear hb6)) 
                go_ret 
                exact ⟨by first | rfl | simp, HB6.out⟩
            · have s6 : (sa.toList = [58]) = False := eq_false fun h => c6 (colon_list.2 h); have s6b : (sa.toList == [58]) = false := beq_eq_false_iff_ne.2 fun h => c6 (colon_list.2 h)
              have hv : Hid (spaceB (ka, sa) (kb, sb) = false) := Lib.hid (by rw [HSP.out]; exact decide_eq_false (by rintro (h | h | h | h); exact c1 h; exact c2 h; exact c3 h.1; exact c6 h.1))
              rw [hv.out] at QT 
              (try clear c1) 
              (try clear c2) 
              (try clear c3) 
              (try clear c4) 
              (try clear c5) 
              (try clear c6) 
              (try clear c7) 
              go_wp2_with (first 
                | (go_at_call 11; refine (known_calls _).mono ?_; rintro e w5 ⟨rfl, hb5⟩; have x0' := (hb5.cell (World.block_lt_of_cell? _ _ x0)).trans x0; have x1' := (hb5.cell (World.block_lt_of_cell? _ _ x1)).trans x1; have z0' := (hb5.cell (World.block_lt_of_cell? _ _ z0)).trans z0; have z1' := (hb5.cell (World.block_lt_of_cell? _ _ z1)).trans z1; have HB5 := Lib.hid (HB4.out.trans (hb5.mono HB4.out.size)); clear hb5) 
                | (go_at_call 12; refine (QT.out _).mono ?_; rintro e w6 ⟨rfl, hb6⟩; have HB6 := Lib.hid (HB5.out.trans (hb6.mono HB5.out.size)); clear hb6)) 
              go_ret 
              exact ⟨by first | rfl | simp, HB6.out⟩
  · have y1 : ((er : Int) != 0) = true := by rw [bne_iff_ne]; omega
    have y2 : ((er : Int) = 0) = False := eq_false (by omega)
    go_wp2_with (go_at_call 11; refine (known_calls _).mono ?_; rintro e w3 ⟨rfl, hb3⟩; have HB3 := Lib.hid (HB2.out.trans (hb3.mono HB2.out.size)); have HB32 := Lib.hid hb3; clear hb3)
    go_ret
    exact ⟨rfl, HB3.out⟩
theorem tight_u8 (v : Value) (k : Int) (h0 : 0 ≤ k) (h1 : k ≤ 255) (w : World) (hv : BytesV w v) : Calls Tryz.prog 3 #[v, .int .u8 k] w fun e w' => e = .returned (.bool true) ∧ Below w.heap.size w w' := by
  obtain ⟨n, rfl⟩ := Int.eq_ofNat_of_zero_le h0
  exact tight_core v n (by omega) w hv
end Go.Proofs.YtiinhkfbgecbjaaGreatDoor
