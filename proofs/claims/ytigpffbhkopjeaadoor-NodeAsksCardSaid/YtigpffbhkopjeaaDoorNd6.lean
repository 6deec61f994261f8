/- A copy of a tree, in new memory. Its condition: how the tree lies in memory; at most 10^9 nodes. -/
import Derived.Test.YtigpffbhkopjeaaDoorNd5
import Derived.OwnWalk
namespace Go.Proofs.YtigpffbhkopjeaaDoor
open Go.RowKit Go.Sub Go.Sort

theorem node_info : (Tryd.prog.info? 25).map (fun i => (i.zero, i.size, i.bytes)) = some (some (.agg #[.int .i64 0, .string ByteArray.empty, .slice none 0 0]), 3, 48) := by kernel_rfl
theorem nodes_und : Tryd.prog.underlying 23 = some (.slice 25) := by kernel_rfl
def CopyPost (w : World) (n : NodeT) (e : Ending) (w' : World) : Prop := ∃ u, e = .returned (nodeV n u) ∧ KidsApart w' (fun c => w.heap.size ≤ c ∧ c < w'.heap.size) u n.kids ∧ Below w.heap.size w w'
set_option maxRecDepth 100000 in
set_option maxHeartbeats 1000000 in
theorem copy_calls : ∀ (n : NodeT) (u : Value) (w : World) (S : Nat → Prop), KidsAt w S u n.kids → countN n ≤ 1000000000 →
    Calls Tryd.prog 15 #[nodeV n u] w (CopyPost w n) := by
  refine NodeT.ind fun n ih => ?_
  intro u w S hu hn
  obtain ⟨pu, cu, rfl, lu⟩ := hu.shape 
  obtain ⟨k, t, l⟩ := n 
  have IH := Lib.hid ih 
  unfold nodeV 
  simp only [NodeT.kind_mk, NodeT.text_mk, NodeT.kids_mk] at * 
  obtain ⟨x1, x2, x3⟩ := box_new w k t (.slice pu l.length cu) 25 
  have HU := Lib.hid (hu.stays x2) 
  have HB := Lib.hid x2 
  have X1 := Lib.hid x1 
  clear ih hu x1 x2 x3
  rw [countN] at hn
  have hlen := countL_le_length l
  obtain ⟨i0, hi, hz0, hz1, hz2⟩ := info_parts node_info
  have hlen2 : l.length ≤ 1000000000 := by omega
  have b0 := nbox_new w 25 k t (.slice pu l.length cu)
  have b1 := nbox_new (w.alloc (.cells #[.int .i64 k, .string t, .slice pu l.length cu] 25)) 25 0 ⟨#[]⟩ (.slice none 0 0)
  have hb1 : Below (w.alloc (.cells #[.int .i64 k, .string t, .slice pu l.length cu] 25)).heap.size _ _ := (Below.refl _ (w.alloc (.cells #[.int .i64 k, .string t, .slice pu l.length cu] 25))).alloc (Nat.le_refl _) (.cells #[.int .i64 0, .string ⟨#[]⟩, .slice none 0 0] 25)
  replace b0 := b0.stays hb1
  replace HB := Lib.hid (HB.out.trans (hb1.mono (by simp)))
  replace HU := Lib.hid (HU.out.stays hb1)
  rw [World.size_alloc] at b1
  have B0 := Lib.hid b0
  have B1 := Lib.hid b1
  clear b0 b1 hb1 X1
  go_enter Tryd.func15, Tryd.ntmps15
  go_wp2
  generalize (w.alloc (.cells #[.int .i64 k, .string t, .slice pu l.length cu] 25)).alloc (.cells #[.int .i64 0, .string ⟨#[]⟩, .slice none 0 0] 25) = W1 at *
  go_loopw [3, 9] (fun v i wr => ∃ (j : Nat) (us : List Value) (T : Nat → Nat → Prop), j ≤ l.length ∧ i = .int .i64 j ∧ Hid (CopyInv W1 W1.heap.size 25 l j v us T wr)) (fun _ i _ => l.length - (intOf i).toNat)
  case atStart => exact ⟨0, [], _, Nat.zero_le _, rfl, Lib.hid (CopyInv.start _ _ _ _)⟩
  case round =>
    rename_i v
    obtain ⟨j, us, T, hj, rfl, HC⟩ := hrel
    have HW := Lib.hid HC.out.bel
    by_cases hlt : j < l.length
    · have hx := List.getElem?_eq_getElem hlt 
      obtain ⟨b, o, ux, rfl, -, a1, ax⟩ := HU.out.kid hx 
      obtain ⟨c0, c1, c2⟩ := a1.stays HW.out 
      obtain ⟨px, cx, rfl, lx⟩ := ax.shape
      have hcx : countN l[j] ≤ countL l := countL_mem (List.getElem_mem hlt)
      have hcall := fun w2 (hb : Below wr.heap.size wr w2) => IH.out (l[j]) (List.getElem_mem hlt) _ w2 S ((ax.stays HW.out).stays hb) (by omega)
      generalize l[j] = x at *
      have Hx := Lib.hid hx
      have hal := (Below.refl wr.heap.size wr).alloc (Nat.le_refl _) (.cells #[.int .i64 x.kind, .string x.text, .slice px x.kids.length cx] 25)
      have hc2 := hcall _ hal
      unfold nodeV at hc2
      have Hc := Lib.hid hc2
      have Hal := Lib.hid hal
      obtain ⟨pv, cv, rfl, _⟩ := row_shape' HC.out.own
      clear hcall hx ax a1 hn hc2 hal
      go_wp2_with (first
        | (go_at_call 15; refine (Hc.out).mono ?_; rintro e w1 ⟨u1, rfl, hk1, hb1⟩; obtain ⟨p1, c1', rfl, _⟩ := hk1.at.shape; unfold nodeV; have HB1 := Lib.hid (Hal.out.trans (hb1.mono (by simp))); have HK1 := Lib.hid (hk1.mono (S' := fun c => wr.heap.size ≤ c ∧ c < w1.heap.size) (fun c hc => ⟨by have := hc.1; simp at this; omega, hc.2⟩)); have HN1 := Lib.hid (new_cells w1 [.int .i64 x.kind, .string x.text, .slice p1 x.kids.length c1'] 25); have HO1 := Lib.hid (ownsRow_keeps HC.out.own (Keeps.of_below' (O := fun _ => False) (HB1.out.trans (((Below.refl _ w1).alloc (Nat.le_refl _) (.cells #[.int .i64 x.kind, .string x.text, .slice p1 x.kids.length c1'] 25)).mono HB1.out.size))) (fun _ _ h => h)); clear hk1 hb1)
        | (at_builtin; refine wpList_append_O _ rfl _ _ 23 rfl W1.heap.size 25 i0 _ 3 48 nodes_und hi hz0 hz1 hz2 rfl (by decide) _ j _ rfl HO1.out ⟨w1.heap.size, 0, none⟩ 1 1 [.int .i64 x.kind, .string x.text, .slice p1 x.kids.length c1'] rfl rfl HN1.out (by intro u hu; simp at hu; rcases hu with rfl | rfl | rfl <;> rfl) (by simp only [maxLen]; omega) (by omega) (by have := HB1.out.size; have := HW.out.size; simp; omega) ?_; intro v' w3 hown hkeep hblk _; have hnx := HC.out.next (Nat.le_refl _) HW.out.size Hx.out HB1.out HK1.out ((Below.refl _ w1).alloc (Nat.le_refl _) _) hown hkeep hblk; obtain ⟨g', cap', rfl⟩ := own_succ' hown; have HNX := Lib.hid hnx; clear hown hkeep hblk hnx))
      go_roundw
      case rel => exact ⟨j + 1, _, _, by omega, by go_num, HNX⟩
      case measure => simp [intOf]; omega
    · obtain rfl : j = l.length := by omega
      have hbx0 := B0.out.stays HW.out
      have hbx1 := B1.out.stays HW.out
      obtain ⟨c0, c1, c2⟩ := hbx0.cells
      obtain ⟨d0, d1, d2⟩ := hbx1.cells
      obtain ⟨e0, e1, e2⟩ := hbx0.free
      obtain ⟨f0, f1, f2⟩ := hbx1.free
      obtain ⟨pv, cv, rfl, _⟩ := row_shape' HC.out.own
      have HD := Lib.hid (HC.out.done lu)
      have Hn1 := Lib.hid (B1.out.lt)
      have hk0 := keeps_set wr w.heap.size 2 (.slice pv l.length cv) (O := fun b => b = w.heap.size) rfl
      obtain ⟨hp1, hp⟩ := (hbx1.keeps hk0 (by omega)).put (k' := k) (t' := t) (u' := .slice pv l.length cv)
      have HQ := Lib.hid hp1
      have HP := Lib.hid ((hk0.mono (O' := fun b => b = w.heap.size ∨ b = w.heap.size + 1) (fun b _ h => .inl h)).trans (hp.mono (fun b _ h => .inr h)))
      clear hk0 hp hp1 hn hbx0 hbx1
      go_wp2
      have hq := HQ.out
      have hP := HP.out
      clear HQ HP
      generalize ((((wr.setCell ⟨w.heap.size, 2, none⟩ (.slice pv l.length cv)).setCell ⟨w.heap.size + 1, 0, none⟩ (.int .i64 k)).setCell ⟨w.heap.size + 1, 1, none⟩ (.string t)).setCell ⟨w.heap.size + 1, 2, none⟩ (.slice pv l.length cv)) = W9 at *
      obtain ⟨q0, q1, q2⟩ := hq.cells
      have HP := Lib.hid hP
      clear hP hq
      refine bodyPost_ret (v := .agg #[.int .i64 k, .string t, .slice pv l.length cv]) (by simp [results, Tryd.results15, go_sem, q0, q1, q2]) rfl ⟨_, rfl, ?_, ?_⟩
      · have := HD.out.keeps HP.out (fun b hb h => by have := Hn1.out; have := hb.1; omega)
        have hsz := HP.out.size
        have hsz2 := HB.out.size
        exact this.mono fun c hc => ⟨by omega, by have := hc.2; omega⟩
      · exact (HB.out.trans (HW.out.mono HB.out.size)).trans (HP.out.below (Nat.le_trans HB.out.size HW.out.size) fun b hb => by omega)
end Go.Proofs.YtigpffbhkopjeaaDoor
