/- A node by a path: the document's answer. Its condition: how the tree and the path lie in memory. -/
import Derived.Test.YtigpffbhkopjeaaDoorNd12
import Derived.RegionTactic
import Derived.RegionCalls
import Derived.Deep.QuietTactic
import Derived.BigQuiet
namespace Go.Proofs.YtigpffbhkopjeaaDoor
open Go.RowKit Go.Sub Go.Sort

theorem ints_within {w : World} {S : Nat → Prop} {v : Value} {xs : List Int} (h : IntsAt w S v xs) : IntsAt w (fun b => S b ∧ b < w.heap.size) v xs := by
  obtain ⟨p, cap, b, o, e, hp, hl, hc⟩ := h
  exact ⟨p, cap, b, o, e, fun h0 => ⟨(hp h0).1, (hp h0).2, World.block_lt_of_cell? _ _ (hc 0 _ (List.getElem?_eq_getElem h0))⟩, hl, hc⟩
def RAtPost (w : World) (S : Nat → Prop) (r : Option NodeT) (e : Ending) (w' : World) : Prop :=
  ∃ u, e = .returned (.tuple #[nodeV (r.getD zeroN) u, .bool r.isSome]) ∧ KidsAt w' S u (r.getD zeroN).kids ∧ Below w.heap.size w w'
set_option maxRecDepth 100000 in
set_option maxHeartbeats 1000000 in
theorem rat_calls (n : NodeT) (u : Value) (path : List Int) (v : Value) (w : World) (S S' : Nat → Prop) (hu : KidsAt w S u n.kids) (hv : IntsAt w S' v path) :
    Calls Tryd.prog 43 #[nodeV n u, v] w (RAtPost w S (atN n path)) := by
  obtain ⟨pu, cu, rfl, lu⟩ := hu.shape
  obtain ⟨pv, cv, rfl, lv⟩ := hv.shape
  obtain ⟨r, hr⟩ : ∃ r, r = atN n path := ⟨_, rfl⟩
  rw [← hr]
  have HR := Lib.hid hr
  clear hr
  have hB := ((Below.refl _ w).alloc (Nat.le_refl _) (.cells #[.int .i64 n.kind, .string n.text, .slice pu n.kids.length cu] 25)).alloc (by simp) (.cells #[.int .i64 0, .string ⟨#[]⟩, .slice none 0 0] 25)
  have b1 := (nbox_new w 25 n.kind n.text (.slice pu n.kids.length cu)).stays ((Below.refl _ _).alloc (Nat.le_refl _) (.cells #[.int .i64 0, .string ⟨#[]⟩, .slice none 0 0] 25))
  have b2 := nbox_new (w.alloc (.cells #[.int .i64 n.kind, .string n.text, .slice pu n.kids.length cu] 25)) 25 0 ⟨#[]⟩ (.slice none 0 0)
  have HU := Lib.hid (hu.within.stays hB)
  have HV := Lib.hid ((ints_within hv).stays hB)
  have HB := Lib.hid hB
  have B1 := Lib.hid b1
  rw [World.size_alloc] at b2
  have B2 := Lib.hid b2
  unfold nodeV
  clear hu hv hB b1 b2
  go_enter Tryd.func43, Tryd.ntmps43
  go_wp2
  generalize (w.alloc (.cells #[.int .i64 n.kind, .string n.text, .slice pu n.kids.length cu] 25)).alloc (.cells #[.int .i64 0, .string ⟨#[]⟩, .slice none 0 0] 25) = W1 at *
  go_loopw [6] (fun i wr => ∃ (j : Nat) (m : NodeT) (um : Value), j ≤ path.length ∧ i = .int .i64 j ∧ Hid (atN n (path.take j) = some m) ∧ Hid (NBox wr w.heap.size 25 m.kind m.text um) ∧ Hid (KidsAt W1 (fun b => S b ∧ b < w.heap.size) um m.kids) ∧ Hid (Keeps (fun b => b = w.heap.size) W1 wr)) (fun i _ => path.length - (intOf i).toNat)
  case atStart => exact ⟨0, n, _, Nat.zero_le _, rfl, Lib.hid (atN_nil n), B1, HU, Lib.hid (Keeps.refl _ _)⟩
  case round =>
    obtain ⟨j, m, um, hj, rfl, HM, HX, HK, HW⟩ := hrel
    obtain ⟨pm, cm, rfl, lm⟩ := HK.out.shape
    have hkw := HK.out.keeps HW.out (fun b hb e => by have := hb.2; omega)
    have HKW := Lib.hid hkw
    have hbw := B2.out.keeps HW.out (by omega)
    have HB2 := Lib.hid hbw
    obtain ⟨x0, x1, x2⟩ := HX.out.cells
    obtain ⟨y0, y1, y2⟩ := HX.out.free
    obtain ⟨z0, z1, z2⟩ := hbw.free
    obtain ⟨d0, d1, d2⟩ := hbw.cells
    clear hkw hbw
    by_cases hlt : j < path.length
    · have hx := List.getElem?_eq_getElem hlt
      have hv2 := HV.out.keeps HW.out (fun b hb e => by have := hb.2; omega)
      obtain ⟨bp, op, rfl, -, hcell⟩ := hv2.at hx
      by_cases hin : path[j] < 0 ∨ (m.kids.length : Int) ≤ path[j]
      · have hno := atN_take_none HM.out hx hin
        obtain rfl : r = none := HR.out.trans hno
        clear hno hx hv2
        generalize path[j] = z at *
        have hwr := HW.out
        have hpq := fun k => NBox.put (w := wr.drewN k) HB2.out (k' := 0) (t' := ⟨#[]⟩) (u' := .slice none 0 0)
        have HPQ := Lib.hid hpq
        clear hpq
        have htest : (if z < 0 then True else (m.kids.length : Int) ≤ z) := by split <;> first | trivial | omega
        have HT := Lib.hid htest
        clear htest hin
        by_cases hz : z < 0
        · go_wp2 
          go_quiet (fail) 
          go_wp2 
          obtain ⟨hq, hP⟩ := HPQ.out nq 
          have hwd : Keeps (fun b => b = w.heap.size + 1) wr (wr.drewN nq) := ⟨rfl, rfl, rfl, Nat.le_refl _, fun _ _ _ => rfl⟩ 
          replace hP := hwd.trans hP 
          clear HPQ 
          generalize (((wr.drewN nq).setCell ⟨w.heap.size + 1, 0, none⟩ (.int .i64 0)).setCell ⟨w.heap.size + 1, 1, none⟩ (.string ⟨#[]⟩)).setCell ⟨w.heap.size + 1, 2, none⟩ (.slice none 0 0) = W9 at * 
          obtain ⟨q0, q1, q2⟩ := hq.cells 
          have HP := Lib.hid hP 
          clear hP hq 
          refine bodyPost_ret (v := .tuple #[.agg #[.int .i64 0, .string ⟨#[]⟩, .slice none 0 0], .bool false]) (by simp [results, Tryd.results43, go_sem, q0, q1, q2]) rfl ⟨_, rfl, KidsAt.nil _ _, ?_⟩ 
          exact (HB.out.trans (hwr.below HB.out.size fun b hb => by omega)).trans (HP.out.below (Nat.le_trans HB.out.size hwr.size) fun b hb => by omega)
        · have hz2 := HT.out
          rw [if_neg hz] at hz2
          have HZ := Lib.hid hz
          clear hz
          have hz0 : (z < 0) = False := by simp; have := HZ.out; omega
          go_wp2 
          go_quiet (fail) 
          go_wp2 
          obtain ⟨hq, hP⟩ := HPQ.out nq 
          have hwd : Keeps (fun b => b = w.heap.size + 1) wr (wr.drewN nq) := ⟨rfl, rfl, rfl, Nat.le_refl _, fun _ _ _ => rfl⟩ 
          replace hP := hwd.trans hP 
          clear HPQ 
          generalize (((wr.drewN nq).setCell ⟨w.heap.size + 1, 0, none⟩ (.int .i64 0)).setCell ⟨w.heap.size + 1, 1, none⟩ (.string ⟨#[]⟩)).setCell ⟨w.heap.size + 1, 2, none⟩ (.slice none 0 0) = W9 at * 
          obtain ⟨q0, q1, q2⟩ := hq.cells 
          have HP := Lib.hid hP 
          clear hP hq 
          refine bodyPost_ret (v := .tuple #[.agg #[.int .i64 0, .string ⟨#[]⟩, .slice none 0 0], .bool false]) (by simp [results, Tryd.results43, go_sem, q0, q1, q2]) rfl ⟨_, rfl, KidsAt.nil _ _, ?_⟩ 
          exact (HB.out.trans (hwr.below HB.out.size fun b hb => by omega)).trans (HP.out.below (Nat.le_trans HB.out.size hwr.size) fun b hb => by omega)
      · obtain ⟨i, hi⟩ : ∃ i : Nat, path[j] = (i : Int) := ⟨path[j].toNat, by omega⟩
        have hil : i < m.kids.length := by omega
        have hk := List.getElem?_eq_getElem hil
        obtain ⟨g, og, ux, rfl, hgb, a1, ax⟩ := HKW.out.kid hk
        rw [hi] at hx hcell
        have hnx := atN_take_succ HM.out hx hk
        obtain ⟨g2, og2, ux2, e2, hgb2, a2, ax2⟩ := HK.out.kid hk
        injection e2 with e2
        injection e2 with e2 e3
        subst e2 e3
        have hux : ux2 = ux := by
          have h1 := a1.2.2
          rw [HW.out.cell a2.2.2 (by have := hgb2.2; omega)] at h1
          exact Option.some.inj h1
        subst hux
        generalize m.kids[i] = kx at *
        obtain ⟨px, cx, rfl, lx⟩ := ax2.shape
        obtain ⟨q0, q1, q2⟩ := a1
        have hpq := fun k => NBox.put (w := wr.drewN k) HX.out (k' := kx.kind) (t' := kx.text) (u' := .slice px kx.kids.length cx)
        have HPQ := Lib.hid hpq
        clear hpq
        have HA := Lib.hid ax2
        have HN := Lib.hid hnx
        clear hnx hk hi hx ax ax2 a2 hin hv2
        go_wp2
        go_quiet (fail)
        go_wp2
        go_region
        go_wp2
        go_roundw
        case rel =>
          obtain ⟨hq, hP⟩ := HPQ.out (nq + 1)
          have hwd : Keeps (fun b => b = w.heap.size) wr (wr.drewN (nq + 1)) := ⟨rfl, rfl, rfl, Nat.le_refl _, fun _ _ _ => rfl⟩
          exact ⟨j + 1, kx, _, by omega, by go_num, HN, Lib.hid hq, HA, Lib.hid (HW.out.trans (hwd.trans hP))⟩
        case measure => simp [intOf]; omega
    · obtain rfl : j = path.length := by omega
      have hm := HM.out
      rw [List.take_length] at hm
      obtain rfl : r = some m := HR.out.trans hm
      obtain ⟨hp1, hp⟩ := HB2.out.put (k' := m.kind) (t' := m.text) (u' := .slice pm m.kids.length cm)
      have HQ := Lib.hid hp1
      have HP := Lib.hid hp
      clear hp1 hp hm
      go_wp2
      have hq := HQ.out
      have hP := HP.out
      have hW := HW.out
      clear HQ HP
      generalize ((wr.setCell ⟨w.heap.size + 1, 0, none⟩ (.int .i64 m.kind)).setCell ⟨w.heap.size + 1, 1, none⟩ (.string m.text)).setCell ⟨w.heap.size + 1, 2, none⟩ (.slice pm m.kids.length cm) = W9 at *
      obtain ⟨q0, q1, q2⟩ := hq.cells
      have HP := Lib.hid hP
      have HWW := Lib.hid hW
      clear hP hq hW
      refine bodyPost_ret (v := .tuple #[.agg #[.int .i64 m.kind, .string m.text, .slice pm m.kids.length cm], .bool true]) (by simp [results, Tryd.results43, go_sem, q0, q1, q2]) rfl ⟨_, rfl, (HKW.out.keeps HP.out (fun b hb e => by have := hb.2; omega)).mono fun c hc => hc.1, ?_⟩
      exact (HB.out.trans (HWW.out.below HB.out.size fun b hb => by omega)).trans (HP.out.below (Nat.le_trans HB.out.size HWW.out.size) fun b hb => by omega)
end Go.Proofs.YtigpffbhkopjeaaDoor
