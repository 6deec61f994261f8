/- ItemsAsks, walked. Its condition: how the tokens and the choices lie in memory; all together of at most 2^20 bytes. -/
import Derived.Test.YtiinhkfbgecbjaaGreatDoorC3
import Derived.Deep.RegionHeld3
import Derived.Deep.Cut
namespace Go.Proofs.YtiinhkfbgecbjaaGreatDoor
set_option linter.unusedSimpArgs false
set_option linter.unusedVariables false
open Go.ChangeShapes Go.WideShapes Go.ChangeAt Go.RowKit Go.Sub

/-- two tokens in boxes -/
structure TwoBox (W : World) (A : Nat) (a b : TokB) : Prop where
  one : W.heap[A]? = some (.cells #[.int .i64 a.1, .string a.2] 29 (0, 0))
  two : W.heap[A + 1]? = some (.cells #[.int .i64 b.1, .string b.2] 29 (0, 0))
theorem TwoBox.cells {W U : World} {A : Nat} {a b : TokB} (h : TwoBox W A a b) (k : Below W.heap.size W U) : (U.cell? ⟨A, 0, none⟩ = some (.int .i64 a.1) ∧ U.cell? ⟨A, 1, none⟩ = some (.string a.2)) ∧ (U.cell? ⟨A + 1, 0, none⟩ = some (.int .i64 b.1) ∧ U.cell? ⟨A + 1, 1, none⟩ = some (.string b.2)) := by
  have q : ∀ {b : Nat} {o : Obj}, W.heap[b]? = some o → U.heap[b]? = some o := fun hb => (k.block _ (Array.getElem?_eq_some_iff.1 hb).1).trans hb
  exact ⟨⟨cell_of_block (q h.one) rfl, cell_of_block (q h.one) rfl⟩, ⟨cell_of_block (q h.two) rfl, cell_of_block (q h.two) rfl⟩⟩
set_option maxRecDepth 100000 in
set_option maxHeartbeats 4000000 in
theorem iasks_core (v0 v3 : Value) (xs : List TokB) (a b : TokB) (k : Nat) (hk : k ≤ 255) (w : World) (h : TokRow w v0 xs) (hs : sumT xs ≤ 1048576) (hwf : ∀ x ∈ xs, WfT x) (ha : a.2.size ≤ 1048576) (hb : b.2.size ≤ 1048576) (hv : BytesV w v3) :
    Calls Tryz.prog 5 #[v0, .agg #[.int .i64 a.1, .string a.2], .agg #[.int .i64 b.1, .string b.2], v3, .int .u8 (k : Int)] w fun e w' => e = .returned (.bool true) ∧ Below w.heap.size w w' := by
  obtain ⟨ka, sa⟩ := a
  obtain ⟨kb, sb⟩ := b
  dsimp only at ha hb ⊢
  obtain ⟨W1, hW1⟩ : ∃ W1, (w.alloc (.cells #[.int .i64 ka, .string sa] 29)).alloc (.cells #[.int .i64 kb, .string sb] 29) = W1 := ⟨_, rfl⟩
  have h1 : Below w.heap.size w W1 := by rw [← hW1]; exact ((Below.refl _ w).alloc (Nat.le_refl _) _).alloc (by simp) _
  have tb : TwoBox W1 w.heap.size (ka, sa) (kb, sb) := by
    refine ⟨by rw [← hW1]; exact (Below.heap_alloc _ _ _ (by simp)).trans (World.alloc_heap_new w _), ?_⟩
    have := World.alloc_heap_new (w.alloc (.cells #[.int .i64 ka, .string sa] 29)) (.cells #[.int .i64 kb, .string sb] 29)
    rw [World.size_alloc] at this
    rw [← hW1]
    exact this
  have HX := Lib.hid (h.below h1)
  have HV := Lib.hid (hv.below h1)
  have HB1 := Lib.hid h1
  have TB := Lib.hid tb
  have QX := Lib.hid (fun W hW (hq : sumT xs ≤ 400000) => asks_calls v0 xs W (HX.out.below hW) hq hwf)
  have QT := Lib.hid (fun W (hq : sa.size + sb.size ≤ 1000000) => ltight_calls (ka, sa) (kb, sb) W hq)
  obtain ⟨pv, cv, rfl, -⟩ := tokShape h
  clear h hv h1 tb hwf
  have w5 : IntKind.i64.wrap ((sa.size : Int) + (sb.size : Int)) = (sa.size : Int) + (sb.size : Int) := IntWalk.i64_in _ (by omega)
  go_enter Tryz.func5, Tryz.ntmps5
  go_upto_region 1 with (fail)
  clear hW1
  by_cases hm : 300 < sumT xs
  · have y1 : decide (300 < sumT xs) = true := decide_eq_true hm
    have y2 : (300 < sumT xs) = True := eq_true hm
    go_wp2_with (first
      | (go_at_call 14; refine (imany_calls _ xs _ HX.out (by omega)).mono ?_; rintro e wm ⟨rfl, hbm⟩; obtain ⟨⟨x0, x1⟩, ⟨z0, z1⟩⟩ := TB.out.cells hbm; have HM := Lib.hid hbm; clear hbm)
      | (go_at_call 11; refine (known_calls _).mono ?_; rintro e wk ⟨rfl, hbk⟩; have HK := Lib.hid (HM.out.trans (hbk.mono HM.out.size)); clear hbk))
    go_ret
    exact ⟨rfl, HB1.out.trans (HK.out.mono HB1.out.size)⟩
  · have y1 : decide (300 < sumT xs) = false := decide_eq_false hm
    have y2 : (300 < sumT xs) = False := eq_false hm
    by_cases hl : 200 < sa.size + sb.size
    · have y3 : decide ((sa.size : Int) + (sb.size : Int) > 200) = true := decide_eq_true (by omega)
      have y4 : (200 < (sa.size : Int) + (sb.size : Int)) = True := eq_true (by omega)
      go_wp2_with (first
        | (go_at_call 14; refine (imany_calls _ xs _ HX.out (by omega)).mono ?_; rintro e wm ⟨rfl, hbm⟩; obtain ⟨⟨x0, x1⟩, ⟨z0, z1⟩⟩ := TB.out.cells hbm; have HM := Lib.hid hbm; clear hbm)
        | (go_at_call 11; refine (known_calls _).mono ?_; rintro e wk ⟨rfl, hbk⟩; have HK := Lib.hid (HM.out.trans (hbk.mono HM.out.size)); clear hbk))
      go_ret
      exact ⟨rfl, HB1.out.trans (HK.out.mono HB1.out.size)⟩
    · have y3 : decide ((sa.size : Int) + (sb.size : Int) > 200) = false := decide_eq_false (by omega)
      have y4 : (200 < (sa.size : Int) + (sb.size : Int)) = False := eq_false (by omega)
      go_upto_region 5 with (first
        | (go_at_call 14; refine (imany_calls _ xs _ HX.out (by omega)).mono ?_; rintro e wm ⟨rfl, hbm⟩; obtain ⟨⟨x0, x1⟩, ⟨z0, z1⟩⟩ := TB.out.cells hbm; have HM := Lib.hid hbm; clear hbm)
        | (go_at_call 11; refine (known_calls _).mono ?_; rintro e wk ⟨rfl, hbk⟩; have HK := Lib.hid (HM.out.trans (hbk.mono HM.out.size)); clear hbk)
        | (go_at_call 10; refine (source_calls _ _ (HV.out.below HK.out)).mono ?_; rintro e ws ⟨R, rfl, hR, hbs⟩; have HS := Lib.hid (HK.out.trans (hbs.mono HK.out.size)); clear hbs)
        | (go_at_call 9; refine (stokens_calls _ _ (by omega)).mono ?_; rintro e wt ⟨p, c, ms, er, z, rfl, hrow, hlen, hsrc, hsr0, hbt⟩; have HT := Lib.hid (HS.out.trans (hbt.mono HS.out.size)); have HR := Lib.hid hrow; have HC := Lib.hid hsrc; have HC0 := Lib.hid hsr0; clear hbt hrow hsrc hsr0))
      have hms : sumT ms ≤ 600 ∧ ∀ x ∈ ms, WfT x := by
        by_cases he : er = 0
        · have hh := HC.out he
          have := hh.sum
          exact ⟨by omega, hh.wf (by omega)⟩
        · rw [HC0.out he]
          exact ⟨by decide, fun x hx => by cases hx⟩
      obtain ⟨hm1, hm2⟩ := hms
      have QX := Lib.hid (fun W hW => QX.out W hW (by omega))
      have QT := Lib.hid (fun W => QT.out W (by omega))
      have QM : Hid (∀ W, Below wt.heap.size wt W → Calls Tryz.prog 16 #[.slice p ms.length c] W fun e w' => e = .returned (.bool true) ∧ Below W.heap.size W w') := Lib.hid (fun W hW => asks_calls _ ms W (HR.out.below hW) (by omega) hm2)
      by_cases hl1 : 1 < ms.length
      · have y5 : decide ((ms.length : Int) > 1) = true := decide_eq_true (by omega)
        have y6 : (1 < (ms.length : Int)) = True := eq_true (by omega)
        have y7 : IntKind.i64.wrap ((ms.length : Int) - 1) = (ms.length : Int) - 1 := IntWalk.i64_in _ (by omega)
        obtain ⟨i, hi, hil⟩ : ∃ i : Nat, (k : Int) % ((ms.length : Int) - 1) = (i : Int) ∧ i + 1 < ms.length := by
          have e1 := Int.emod_nonneg (k : Int) (b := (ms.length : Int) - 1) (by omega)
          have e2 := Int.emod_lt_of_pos (k : Int) (b := (ms.length : Int) - 1) (by omega)
          exact ⟨((k : Int) % ((ms.length : Int) - 1)).toNat, by omega, by omega⟩
        have y8 : IntKind.i64.wrap ((i : Int) + 1) = ((i + 1 : Nat) : Int) := by rw [IntWalk.i64_in _ (by omega)]; omega
        have hxa := List.getElem?_eq_getElem (show i < ms.length by omega)
        have hxb := List.getElem?_eq_getElem hil
        obtain ⟨p', c', e', -, hce⟩ := HR.out
        cases e'
        obtain ⟨b, o, rfl, c0, c1⟩ := hce i _ hxa
        obtain ⟨b', o', e2, d0, d1⟩ := hce (i + 1) _ hxb
        cases e2
        have hsa := sumI_mem (List.mem_of_getElem? hxa)
        have hsb := sumI_mem (List.mem_of_getElem? hxb)
        have hsu : sumI ms ≤ 600 := hm1
        generalize ms[i] = xa at *
        generalize ms[i + 1] = xb at *
        obtain ⟨kc, sc⟩ := xa
        obtain ⟨kd, sd⟩ := xb
        dsimp only at c0 c1 d0 d1 hsa hsb
        have Q1 := Lib.hid (fun W => ltight_calls (kc, sc) (kd, sd) W (by show sc.size + sd.size ≤ _; omega))
        have Q2 := Lib.hid (fun W => ltight_calls (kd, sd) (kc, sc) W (by show sd.size + sc.size ≤ _; omega))
        have u1 : (0 : Int) ≤ (i : Int) := by omega
        have u2 : (i : Int) < (ms.length : Int) := by omega
        have u3 : ((i + 1 : Nat) : Int) < (ms.length : Int) := by omega
        have u4 : (0 : Int) ≤ (i : Int) + 1 := by omega
        have u5 : (i : Int) + 1 < (ms.length : Int) := by omega
        have u6 : ((i : Int) + 1).toNat = i + 1 := by omega
        have show1 : ∀ U, Below wt.heap.size wt U → (U.cell? ⟨b, o + i * 2, none⟩ = some (.int .i64 kc) ∧ U.cell? ⟨b, o + i * 2 + 1, none⟩ = some (.string sc)) ∧ (U.cell? ⟨b, o + (i + 1) * 2, none⟩ = some (.int .i64 kd) ∧ U.cell? ⟨b, o + (i + 1) * 2 + 1, none⟩ = some (.string sd)) ∧ Below wt.heap.size wt U := fun U h =>
          ⟨⟨(h.cell (p := ⟨b, o + i * 2, none⟩) (World.block_lt_of_cell? _ _ c0)).trans c0, (h.cell (p := ⟨b, o + i * 2 + 1, none⟩) (World.block_lt_of_cell? _ _ c1)).trans c1⟩, ⟨(h.cell (p := ⟨b, o + (i + 1) * 2, none⟩) (World.block_lt_of_cell? _ _ d0)).trans d0, (h.cell (p := ⟨b, o + (i + 1) * 2 + 1, none⟩) (World.block_lt_of_cell? _ _ d1)).trans d1⟩, h⟩
        have SHOW := Lib.hid show1
        have HBel := Lib.hid (Below.refl wt.heap.size wt)
        clear hce hxa hxb hsa hsb hsu show1
        go_upto_region 7 with (fail)
        go_region_held3 (fun w' => (w'.cell? ⟨b, o + i * 2, none⟩ = some (.int .i64 kc) ∧ w'.cell? ⟨b, o + i * 2 + 1, none⟩ = some (.string sc)) ∧ (w'.cell? ⟨b, o + (i + 1) * 2, none⟩ = some (.int .i64 kd) ∧ w'.cell? ⟨b, o + (i + 1) * 2 + 1, none⟩ = some (.string sd)) ∧ Below wt.heap.size wt w')
          (first | exact SHOW.out _ HBel.out.drew | assumption | (refine SHOW.out _ ?_; assumption))
          (first
            | (go_at_call 15; with_reducible refine (Q1.out _).mono ?_; rintro _ U ⟨rfl, bu⟩; have bb := Below.trans (And.right (And.right (by assumption))) (bu.mono (Below.size (And.right (And.right (by assumption))))); clear bu)
            | (go_at_call 15; with_reducible refine (Q2.out _).mono ?_; rintro _ U ⟨rfl, bu⟩; have bb := Below.trans (And.right (And.right (by assumption))) (bu.mono (Below.size (And.right (And.right (by assumption))))); clear bu))
        all_goals
          have hbx : Below wt.heap.size wt _ := And.right (And.right (by assumption))
          have HT2 := Lib.hid hbx
          have HH2 := Lib.hid (HT.out.trans (hbx.mono HT.out.size))
          clear hbx
          go_wp2_with (first 
            | (go_at_call 16; with_reducible refine (QX.out _ HH2.out).mono ?_; rintro e wa ⟨rfl, hbq⟩; have HA1 := Lib.hid (HH2.out.trans (hbq.mono HH2.out.size)); have HT1 := Lib.hid (HT2.out.trans (hbq.mono HT2.out.size)); clear hbq) 
            | (go_at_call 16; with_reducible refine (QM.out _ HT1.out).mono ?_; rintro e wb ⟨rfl, hbq⟩; have HA2 := Lib.hid (HA1.out.trans (hbq.mono HA1.out.size)); obtain ⟨⟨x0, x1⟩, ⟨z0, z1⟩⟩ := TB.out.cells HA2.out; clear hbq) 
            | (go_at_call 15; with_reducible refine (QT.out _).mono ?_; rintro e wc ⟨rfl, hbq⟩; have HA3 := Lib.hid (HA2.out.trans (hbq.mono HA2.out.size)); clear hbq)) 
          go_ret 
          exact ⟨rfl, HB1.out.trans (HA3.out.mono HB1.out.size)⟩
      · have y5 : decide ((ms.length : Int) > 1) = false := decide_eq_false (by omega)
        have y6 : (1 < (ms.length : Int)) = False := eq_false (by omega)
        have HT0 := Lib.hid (Below.refl wt.heap.size wt)
        go_wp2_with (first 
          | (go_at_call 16; with_reducible refine (QX.out _ HT.out).mono ?_; rintro e wa ⟨rfl, hbq⟩; have HA1 := Lib.hid (HT.out.trans (hbq.mono HT.out.size)); have HT1 := Lib.hid (HT0.out.trans (hbq.mono HT0.out.size)); clear hbq) 
          | (go_at_call 16; with_reducible refine (QM.out _ HT1.out).mono ?_; rintro e wb ⟨rfl, hbq⟩; have HA2 := Lib.hid (HA1.out.trans (hbq.mono HA1.out.size)); obtain ⟨⟨x0, x1⟩, ⟨z0, z1⟩⟩ := TB.out.cells HA2.out; clear hbq) 
          | (go_at_call 15; with_reducible refine (QT.out _).mono ?_; rintro e wc ⟨rfl, hbq⟩; have HA3 := Lib.hid (HA2.out.trans (hbq.mono HA2.out.size)); clear hbq)) 
        go_ret 
        exact ⟨rfl, HB1.out.trans (HA3.out.mono HB1.out.size)⟩
set_option maxRecDepth 100000 in
/-- a list of tokens that is handed in -/
theorem toks_wide {H : Type} {enc : TypeId × Value → H} {W : World} {r : Go.Reach} {b0 : Nat} {sp : Nat → Bool} {v : Value} {d : DataW H} {ps : List MemPlace}
    (hval : Value.okWide Tryz.prog W r b0 23 v) (hd : DataW.Trod enc Tryz.prog W 0 sp true 23 v d ps) (hbulk : Rows.uptoBulk d ≤ 1048576) : ∃ xs, TokRow W v xs ∧ (sumT xs ≤ 1048576 ∧ ∀ x ∈ xs, WfT x) := by
  obtain ⟨a0, len, cap, rfl⟩ := okWide_slice Tryz.underlying23 hval
  obtain ⟨fuel, hf⟩ := hd
  rcases Go.Deep.open_slice_pairs Tryz.underlying23 Tryz.underlying29 cellsTok rfl rfl cells3 cells9 hf with ⟨hcs, _⟩ | ⟨a, len', cap', m, n, V0, V1, D0, D1, P0, P1, hcs, _, hlc, hcm, hm, hx, hall⟩
  · simp [Value.cells] at hcs
    obtain ⟨rfl, rfl, rfl⟩ := hcs
    exact ⟨[], ⟨none, 0, rfl, by simp, fun i x hx => by simp at hx⟩, by decide, fun x hx => by cases hx⟩
  · simp [Value.cells] at hcs
    obtain ⟨rfl, rfl, rfl⟩ := hcs
    have hlm : len ≤ m := by rw [hm]; split <;> omega
    have each : ∀ i, i < len → ∃ q : TokB, W.cell? (a.add (i * 2)) = some (.int .i64 q.1) ∧ W.cell? (a.add (i * 2 + 1)) = some (.string q.2) ∧ 1 + q.2.size ≤ Rows.uptoBulk (.agg [D0 i, D1 i] : DataW H) ∧ WfT q := by
      intro i hi
      obtain ⟨c0, c1, t0, t1⟩ := hall i (by omega)
      obtain ⟨x, e0, d0, wx⟩ := DataW.trod_int Tryz.underlying3 t0
      obtain ⟨s, e1, d1, ws⟩ := DataW.trod_string Tryz.underlying9 t1
      simp only [List.cons.injEq, and_true] at e0 e1
      simp only [Prod.mk.injEq] at d0 d1
      rw [e0] at c0
      rw [e1] at c1
      refine ⟨(x, s), c0, c1, ?_, wx, ws⟩
      rw [d0.1, d1.1]
      simp only [Rows.uptoBulk, Rows.uptoBulkAll]
      rw [← Lib.size_eq]
      omega
    obtain ⟨q, hq⟩ := Go.Deep.choose_lt each
    simp only [Prod.mk.injEq] at hx
    have hs : sumT ((List.range len).map q) ≤ 1048576 := by
      refine Nat.le_trans (sum_bulk (fun i => (.agg [D0 i, D1 i] : DataW H)) q (List.range len) fun i hi => (hq i (List.mem_range.1 hi)).2.2.1) ?_
      rw [hx.1, Rows.uptoBulk] at hbulk
      omega
    have hj := sumT_join ((List.range len).map q)
    rw [List.length_map, List.length_range] at hj
    refine ⟨(List.range len).map q, ⟨some a, cap, by rw [List.length_map, List.length_range], by rw [List.length_map, List.length_range]; omega, fun i x hx => ?_⟩, hs, fun x hx => by obtain ⟨i, hi, rfl⟩ := List.mem_map.1 hx; exact (hq i (List.mem_range.1 hi)).2.2.2⟩
    have hi : i < len := by
      have := (List.getElem?_eq_some_iff.1 hx).1
      rwa [List.length_map, List.length_range] at this
    rw [List.getElem?_map, List.getElem?_range hi] at hx
    obtain rfl : q i = x := by simpa using hx
    obtain ⟨c0, c1, _⟩ := hq i hi
    have hpl : a = ⟨a.block, a.off, none⟩ := cell_plain (n := 0) (by simpa using (hq 0 (by omega)).1)
    refine ⟨a.block, a.off, by rw [← hpl], ?_, ?_⟩
    · rw [hpl] at c0
      have e := Go.WideShapes.add_plain a.block a.off (i * 2)
      rwa [e] at c0
    · rw [hpl] at c1
      have e := Go.WideShapes.add_plain a.block a.off (i * 2 + 1)
      rwa [e, ← Nat.add_assoc] at c1
theorem iasks_u8 (v0 v3 : Value) (xs : List TokB) (a b : TokB) (k : Int) (h0 : 0 ≤ k) (h1 : k ≤ 255) (w : World) (h : TokRow w v0 xs) (hs : sumT xs ≤ 1048576) (hwf : ∀ x ∈ xs, WfT x) (ha : a.2.size ≤ 1048576) (hb : b.2.size ≤ 1048576) (hv : BytesV w v3) :
    Calls Tryz.prog 5 #[v0, .agg #[.int .i64 a.1, .string a.2], .agg #[.int .i64 b.1, .string b.2], v3, .int .u8 k] w fun e w' => e = .returned (.bool true) ∧ Below w.heap.size w w' := by
  obtain ⟨n, rfl⟩ := Int.eq_ofNat_of_zero_le h0
  exact iasks_core v0 v3 xs a b n (by omega) w h hs hwf ha hb hv
end Go.Proofs.YtiinhkfbgecbjaaGreatDoor
