/- The walk of PrecAsks: it returns true, of every input; the table of blanks being laid, the two texts together shorter than what wraps. -/
import Derived.Test.YtbjhfkaboncpoaaDoorT11
import Derived.Deep.RegionWith
namespace Go.Proofs.YtbjhfkaboncpoaaDoor
open Go.RowKit Go.Shelf Go.Sub Go.Sort

theorem ops_short : ∀ x ∈ opsX, x.1.size ≤ 3 := by decide +kernel
/-- what holds in each world of the last statement -/
structure AskSt (w : World) (B4 B9 b : Nat) (kd kk : Int) (t o : ByteArray) (W : World) : Prop where
  t0 : W.heap[B4]? = some (.cells #[.int .i64 kd, .string t] 29 (0, 0))
  u0 : W.heap[B9]? = some (.cells #[.int .i64 kk, .string o] 29 (0, 0))
  ops : OpersAt W b
  lt : b < W.heap.size
  tab : TabX W
  bel : Below w.heap.size w W
theorem AskSt.below {w : World} {B4 B9 b : Nat} {kd kk : Int} {t o : ByteArray} {W W' : World} (h : AskSt w B4 B9 b kd kk t o W) (hb : Below W.heap.size W W') : AskSt w B4 B9 b kd kk t o W' :=
  ⟨(hb.block _ (heap_lt h.t0)).trans h.t0, (hb.block _ (heap_lt h.u0)).trans h.u0, h.ops.below hb h.lt, Nat.lt_of_lt_of_le h.lt hb.size, h.tab.below hb, h.bel.trans (hb.mono h.bel.size)⟩
theorem AskSt.cells {w : World} {B4 B9 b : Nat} {kd kk : Int} {t o : ByteArray} {W : World} (h : AskSt w B4 B9 b kd kk t o W) : W.cell? ⟨B4, 0, none⟩ = some (.int .i64 kd) ∧ W.cell? ⟨B4, 1, none⟩ = some (.string t) ∧ W.cell? ⟨B9, 0, none⟩ = some (.int .i64 kk) ∧ W.cell? ⟨B9, 1, none⟩ = some (.string o) :=
  ⟨cell_of_heap h.t0 rfl, cell_of_heap h.t0 rfl, cell_of_heap h.u0 rfl, cell_of_heap h.u0 rfl⟩
theorem AskSt.drew {w : World} {B4 B9 b : Nat} {kd kk : Int} {t o : ByteArray} {W : World} (h : AskSt w B4 B9 b kd kk t o W) : AskSt w B4 B9 b kd kk t o W.drew := h.below ⟨rfl, rfl, rfl, Nat.le_refl _, fun _ _ => rfl⟩

set_option maxRecDepth 100000 in
set_option maxHeartbeats 4000000 in
theorem precasks_core (s t : ByteArray) (kd k : Int) (hs : s.size + t.size ≤ 9223372036854775000) (hk0 : 0 ≤ k) (hk1 : k ≤ 255) (w : World) (hT : TabX w) :
    Calls Tryd.prog 5 #[.string s, .agg #[.int .i64 kd, .string t], .int .u8 k] w fun e w' => e = .returned (.bool true) ∧ Below w.heap.size w w' := by
  have hT1 := hT.alloc (.cells #[.int .i64 kd, .string t] 29)
  have hB1 : Below w.heap.size w (w.alloc (.cells #[.int .i64 kd, .string t] 29)) := (Below.refl _ w).alloc (Nat.le_refl _) _
  by_cases hlen : 200 < s.size + t.size
  · go_enter Tryd.func5, Tryd.ntmps5
    go_wp2_with (go_at_call 12; refine (known_calls _ hT1).mono ?_; rintro e w' ⟨rfl, hb⟩; replace hB1 := hB1.trans (hb.mono hB1.size); clear hb)
    go_ret
    exact ⟨rfl, hB1⟩
  · have ht0 := (World.alloc_heap_new w (.cells #[.int .i64 kd, .string t] 29))
    go_enter Tryd.func5, Tryd.ntmps5
    go_wp2_with (first
      | (go_at_call 12; refine (known_calls _ hT1).mono ?_; rintro e w' ⟨rfl, hb⟩; replace ht0 := (hb.block _ (heap_lt ht0)).trans ht0; replace hT1 := TabX.below hT1 hb; replace hB1 := hB1.trans (hb.mono hB1.size); clear hb)
      | (go_at_call 14; refine (refopers_calls _).mono ?_; rintro e w' ⟨b, cap, rfl, hcap1, hcap2, hat, hb⟩; replace ht0 := (hb.block _ (heap_lt ht0)).trans ht0; replace hT1 := TabX.below hT1 hb; replace hB1 := hB1.trans (hb.mono hB1.size); obtain ⟨x, hx, hxm⟩ := op_at (k % 24).toNat (by omega); have hc := hat _ x hx; have Hat := Lib.hid hat; have hcat := fun W => run_string_add_sum (P := Tryd.prog) W s x.1 (by have := ops_short x hxm; omega); clear hb hat hx hxm))
    have hk15 : 0 ≤ k % 15 ∧ k % 15 ≤ 14 := by omega
    obtain ⟨h150, h151⟩ := hk15
    have hu0 := World.alloc_heap_new w' (.cells #[.int .i64 (k % 15), .string x.1] 29)
    have ht1 := (Below.heap_alloc w' (.cells #[.int .i64 (k % 15), .string x.1] 29) _ (heap_lt ht0)).trans ht0
    have Hat2 := Lib.hid ((OpersAt.below Hat.out ((Below.refl _ w').alloc (Nat.le_refl _) (.cells #[.int .i64 (k % 15), .string x.1] 29)) (by have := World.block_lt_of_cell? _ _ hc; exact this)))
    have hT2 := hT1.alloc (.cells #[.int .i64 (k % 15), .string x.1] 29)
    have hB2 := hB1.alloc hB1.size (.cells #[.int .i64 (k % 15), .string x.1] 29)
    have hbl := World.block_lt_of_cell? _ _ hc
    simp only at hbl
    have hbl2 : b < (w'.alloc (.cells #[.int .i64 (k % 15), .string x.1] 29)).heap.size := by simp; omega
    have hS : AskSt w w.heap.size w'.heap.size b kd (k % 15) t x.1 (w'.alloc (.cells #[.int .i64 (k % 15), .string x.1] 29)) := ⟨ht1, hu0, Hat2.out, hbl2, hT2, hB2⟩
    clear hu0 ht1 Hat2 hbl2 hT2 hB2 hB1 hT1 hc ht0 Hat hbl
    generalize (w'.alloc (.cells #[.int .i64 (k % 15), .string x.1] 29)) = W at *
    generalize w'.heap.size = B9 at *
    generalize hB4 : w.heap.size = B4 at hS ⊢
    clear hT
    replace hS := hS.drew
    obtain ⟨ct0, ct1, cu0, cu1⟩ := hS.cells
    go_region_with (first
      | (go_at_call 15; refine (asks_calls _ _ hS.tab).mono ?_; rintro e w' ⟨rfl, hb⟩; replace hS := hS.below hb; obtain ⟨ct0, ct1, cu0, cu1⟩ := hS.cells; clear hb)
      | (go_at_call 16; refine (of_calls _ _ _ hS.tab).mono ?_; rintro e w' ⟨rfl, hb⟩; replace hS := hS.below hb; obtain ⟨ct0, ct1, cu0, cu1⟩ := hS.cells; clear hb)
      | (go_at_call 17; refine (refof_calls _ _ _).mono ?_; rintro e w' ⟨rfl, hb⟩; replace hS := hS.below hb; obtain ⟨ct0, ct1, cu0, cu1⟩ := hS.cells; clear hb)
      | (go_at_call 8; refine (opers_calls _ hS.tab).mono ?_; rintro e w' ⟨b1, rfl, hat1, hb⟩; replace hS := hS.below hb; obtain ⟨ct0, ct1, cu0, cu1⟩ := hS.cells; have Hat1 := Lib.hid (p := OpersAt w' b1) hat1; clear hb hat1)
      | (go_at_call 18; refine (same_calls _ _ _ _ Hat1.out hS.ops).mono ?_; rintro e w' ⟨rfl, n, rfl⟩; replace hS := hS.below (W' := World.drewN _ n) ⟨rfl, rfl, rfl, Nat.le_refl _, fun _ _ => rfl⟩))
    all_goals
      go_wp2
      go_ret
      exact ⟨rfl, hS.bel⟩
end Go.Proofs.YtbjhfkaboncpoaaDoor
