/- A node by a path: the code. Its condition: how the tree and the path lie in memory; at most 10^9 nodes. -/
import Derived.Test.YtigpffbhkopjeaaDoorNd11
namespace Go.Proofs.YtigpffbhkopjeaaDoor
open Go.RowKit Go.Sub Go.Sort

theorem count_at : ∀ (p : List Int) (n m : NodeT), atN n p = some m → countN m ≤ countN n
  | [], n, m, h => by rw [atN_nil] at h; cases h; omega
  | i :: p, n, m, h => by
    rw [atN_cons] at h
    split at h
    · cases hk : n.kids[i.toNat]? with
      | none => rw [hk] at h; cases h
      | some k =>
        rw [hk] at h
        have := count_at p k m h
        have h2 := countL_mem (List.mem_of_getElem? hk)
        rw [countN_eq n]; omega
    · cases h
def zeroN : NodeT := .mk 0 ⟨#[]⟩ []
/-- what a look at a path tells: a node in new memory, or none -/
def AtPost (w : World) (r : Option NodeT) (e : Ending) (w' : World) : Prop :=
  ∃ u, e = .returned (.tuple #[nodeV (r.getD zeroN) u, .bool r.isSome]) ∧ KidsAt w' (fun c => w.heap.size ≤ c ∧ Loose w' c) u (r.getD zeroN).kids ∧ Below w.heap.size w w'
theorem atN_take_none {n : NodeT} {path : List Int} {j : Nat} {x : Int} {m : NodeT} (h : atN n (path.take j) = some m) (hx : path[j]? = some x) (hi : x < 0 ∨ (m.kids.length : Int) ≤ x) : atN n path = none := by
  have e : path = path.take j ++ x :: path.drop (j + 1) := by
    have hl := (List.getElem?_eq_some_iff.1 hx)
    obtain ⟨hl, hx⟩ := hl
    rw [← hx, List.getElem_cons_drop, List.take_append_drop]
  rw [e, atN_append, h]
  show atN m (x :: _) = none
  rw [atN_cons]
  split
  · rw [List.getElem?_eq_none (by omega)]; rfl
  · rfl
theorem atN_take_succ {n : NodeT} {path : List Int} {j : Nat} {i : Nat} {m k : NodeT} (h : atN n (path.take j) = some m) (hx : path[j]? = some (i : Int)) (hk : m.kids[i]? = some k) : atN n (path.take (j + 1)) = some k := by
  rw [List.take_add_one, hx]
  show atN n (path.take j ++ [(i : Int)]) = _
  rw [atN_append, h]
  show atN m [(i : Int)] = _
  rw [atN_cons, if_pos (by omega), Int.toNat_natCast, hk]
  exact atN_nil k
set_option maxRecDepth 100000 in
set_option maxHeartbeats 1000000 in
theorem at_calls (n : NodeT) (u : Value) (path : List Int) (v : Value) (w : World) (S S' : Nat → Prop) (hu : KidsAt w S u n.kids) (hv : IntsAt w S' v path) (hn : countN n ≤ 1000000000) :
    Calls Tryd.prog 17 #[nodeV n u, v] w (AtPost w (atN n path)) := by
  obtain ⟨pu, cu, rfl, lu⟩ := hu.shape
  obtain ⟨pv, cv, rfl, lv⟩ := hv.shape
  obtain ⟨r, hr⟩ : ∃ r, r = atN n path := ⟨_, rfl⟩
  rw [← hr]
  have HR := Lib.hid hr
  clear hr
  have hB := ((Below.refl _ w).alloc (Nat.le_refl _) (.cells #[.int .i64 n.kind, .string n.text, .slice pu n.kids.length cu] 25)).alloc (by simp) (.cells #[.int .i64 0, .string ⟨#[]⟩, .slice none 0 0] 25)
  have b1 := (nbox_new w 25 n.kind n.text (.slice pu n.kids.length cu)).stays ((Below.refl _ _).alloc (Nat.le_refl _) (.cells #[.int .i64 0, .string ⟨#[]⟩, .slice none 0 0] 25))
  have b2 := nbox_new (w.alloc (.cells #[.int .i64 n.kind, .string n.text, .slice pu n.kids.length cu] 25)) 25 0 ⟨#[]⟩ (.slice none 0 0)
  have HU := Lib.hid (hu.stays hB)
  have HV := Lib.hid (hv.stays hB)
  have HB := Lib.hid hB
  have B1 := Lib.hid b1
  rw [World.size_alloc] at b2
  have B2 := Lib.hid b2
  unfold nodeV
  clear hu hv hB b1 b2
  go_enter Tryd.func17, Tryd.ntmps17
  go_wp2
  generalize (w.alloc (.cells #[.int .i64 n.kind, .string n.text, .slice pu n.kids.length cu] 25)).alloc (.cells #[.int .i64 0, .string ⟨#[]⟩, .slice none 0 0] 25) = W1 at *
  go_loopw [6, 11] (fun x i wr => ∃ (j b o : Nat) (m : NodeT) (um : Value), j ≤ path.length ∧ i = .int .i64 j ∧ x = .pointer (some ⟨b, o, none⟩) ∧ Hid (atN n (path.take j) = some m) ∧ NCells W1 b o m.kind m.text um ∧ Hid (KidsAt W1 S um m.kids) ∧ wr = W1) (fun _ i _ => path.length - (intOf i).toNat)
  case atStart => exact ⟨0, w.heap.size, 0, n, _, Nat.zero_le _, rfl, rfl, Lib.hid (atN_nil n), ⟨B1.out.cells.1, B1.out.cells.2.1, B1.out.cells.2.2⟩, HU, rfl⟩
  case round =>
    obtain ⟨j, b, o, m, um, hj, rfl, rfl, HM, hc, HK, rfl⟩ := hrel
    obtain ⟨pm, cm, rfl, lm⟩ := HK.out.shape
    by_cases hlt : j < path.length
    · have hx := List.getElem?_eq_getElem hlt
      obtain ⟨bp, op, rfl, -, hcell⟩ := HV.out.at hx
      by_cases hin : path[j] < 0 ∨ (m.kids.length : Int) ≤ path[j]
      · have hno := atN_take_none HM.out hx hin
        obtain rfl : r = none := HR.out.trans hno
        have hcall := kid_none wr b o m.kind m.text pm m.kids.length cm path[j] hc hin
        have Hc := Lib.hid hcall
        have hbx := B2.out
        obtain ⟨e0, e1, e2⟩ := hbx.free
        obtain ⟨d0, d1, d2⟩ := hbx.cells
        obtain ⟨hp1, hp⟩ := hbx.put (k' := 0) (t' := ⟨#[]⟩) (u' := .slice none 0 0)
        have HQ := Lib.hid hp1
        have HP := Lib.hid hp
        have Hbx := Lib.hid hbx
        clear hx hcall hno hin hp1 hp hbx
        generalize path[j] = z at *
        go_wp2_with (go_at_call 37; with_reducible refine (Hc.out).mono ?_; rintro e w2 ⟨rfl, rfl⟩)
        have hq := HQ.out
        have hP := HP.out
        clear HQ HP Hbx
        have hs := HB.out
        generalize ((w2.setCell ⟨w.heap.size + 1, 0, none⟩ (.int .i64 0)).setCell ⟨w.heap.size + 1, 1, none⟩ (.string ⟨#[]⟩)).setCell ⟨w.heap.size + 1, 2, none⟩ (.slice none 0 0) = W9 at *
        obtain ⟨q0, q1, q2⟩ := hq.cells
        have HP := Lib.hid hP
        clear hP hq
        refine bodyPost_ret (v := .tuple #[.agg #[.int .i64 0, .string ⟨#[]⟩, .slice none 0 0], .bool false]) (by simp [results, Tryd.results17, go_sem, q0, q1, q2]) rfl ⟨_, rfl, KidsAt.nil _ _, ?_⟩
        exact hs.trans (HP.out.below hs.size fun b hb => by omega)
      · obtain ⟨i, hi⟩ : ∃ i : Nat, path[j] = (i : Int) := ⟨path[j].toNat, by omega⟩
        have hil : i < m.kids.length := by omega
        have hk := List.getElem?_eq_getElem hil
        obtain ⟨g, og, ux, rfl, -, a1, ax⟩ := HK.out.kid hk
        rw [hi] at hx hcell
        have hnx := atN_take_succ HM.out hx hk
        have hcall := kid_some wr b o m.kind m.text g og m.kids.length cm i hc hil (by omega)
        generalize m.kids[i] = kx at *
        have Hc := Lib.hid hcall
        have Hx := Lib.hid hnx
        have Ha := Lib.hid ax
        have H1 := Lib.hid a1
        clear hcall hnx hk hi hx ax a1 hin
        go_wp2_with (go_at_call 37; with_reducible refine (Hc.out).mono ?_; rintro e w2 ⟨rfl, rfl⟩)
        go_roundw
        case rel => exact ⟨j + 1, g, og + i * 3, kx, ux, by omega, by go_num, rfl, Hx, H1.out, Ha, trivial⟩
        case measure => simp [intOf]; omega
    · obtain rfl : j = path.length := by omega
      have hm := HM.out
      rw [List.take_length] at hm
      obtain rfl : r = some m := HR.out.trans hm
      obtain ⟨c0, c1, c2⟩ := hc
      have hcall := copy_calls m (.slice pm m.kids.length cm) wr S HK.out (by have := count_at _ _ _ hm; omega)
      unfold nodeV at hcall
      have Hc := Lib.hid hcall
      clear hcall hm
      go_wp2_with (go_at_call 15; refine (Hc.out).mono ?_; rintro e w2 ⟨u2, rfl, hk2, hb2⟩; obtain ⟨p2, c2', rfl, _⟩ := hk2.at.shape; unfold nodeV; have hbx := B2.out.stays hb2; obtain ⟨e0, e1, e2⟩ := hbx.free; obtain ⟨d0, d1, d2⟩ := hbx.cells; have Hbx := Lib.hid hbx; have HK2 := Lib.hid hk2; have HB2 := Lib.hid hb2; clear hk2 hb2 hbx)
      obtain ⟨hq, hP⟩ := Hbx.out.put (k' := m.kind) (t' := m.text) (u' := .slice p2 m.kids.length c2')
      have HQ2 := HK2.out.keeps hP (fun b hb e => by have := hb.1; have := B2.out.lt; omega)
      have hs := HB.out
      have hsz := HB2.out.size
      have hs3 := hP.size
      have hlt2 := B2.out.lt
      clear Hbx
      generalize ((w2.setCell ⟨w.heap.size + 1, 0, none⟩ (.int .i64 m.kind)).setCell ⟨w.heap.size + 1, 1, none⟩ (.string m.text)).setCell ⟨w.heap.size + 1, 2, none⟩ (.slice p2 m.kids.length c2') = W9 at *
      obtain ⟨q0, q1, q2⟩ := hq.cells
      have HP := Lib.hid hP
      have HQ3 := Lib.hid HQ2
      clear hP hq HQ2 e0 e1 e2 d0 d1 d2
      refine bodyPost_ret (v := .tuple #[.agg #[.int .i64 m.kind, .string m.text, .slice p2 m.kids.length c2'], .bool true]) (by simp [results, Tryd.results17, go_sem, q0, q1, q2]) rfl ⟨_, rfl, HQ3.out.loose.mono fun c hc => ⟨by have := hc.1.1; omega, hc.2⟩, ?_⟩
      exact (hs.trans (HB2.out.mono hs.size)).trans (HP.out.below (Nat.le_trans hs.size hsz) fun b hb => by omega)
end Go.Proofs.YtigpffbhkopjeaaDoor
