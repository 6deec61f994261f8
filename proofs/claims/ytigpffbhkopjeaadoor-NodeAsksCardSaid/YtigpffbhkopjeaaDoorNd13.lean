/- A tree with another node at a path: the code. Its condition: how the trees and the path lie in memory; at most 10^9 nodes each. -/
import Derived.Test.YtigpffbhkopjeaaDoorNd12
namespace Go.Proofs.YtigpffbhkopjeaaDoor
open Go.RowKit Go.Sub Go.Sort

theorem drop_at {path : List Int} {j : Nat} {x : Int} (hx : path[j]? = some x) : path.drop j = x :: path.drop (j + 1) := by
  obtain ⟨hl, hx⟩ := List.getElem?_eq_some_iff.1 hx
  rw [← hx, List.getElem_cons_drop]
/-- a node of the copy on the way -/
structure WithInv (W : World) (Q : Nat → Prop) (B : Nat) (n : NodeT) (path : List Int) (j b o : Nat) (m : NodeT) (um : Value) (S : Nat → Prop) (f : NodeT → NodeT) : Prop where
  cells : NCells W b o m.kind m.text um
  kids : KidsApart W S um m.kids
  off : ¬ S b
  sub : ∀ c, S c → Q c
  base : Q b
  loose : Loose W b
  hole : Hole W Q b o S (fun w' y => NodeAt w' Q B 0 y) f
  rest : ∀ x, withN n path x = (withN m (path.drop j) x).map f
theorem WithInv.nowhere {W : World} {Q : Nat → Prop} {B : Nat} {n : NodeT} {path : List Int} {j b o : Nat} {m : NodeT} {um : Value} {S : Nat → Prop} {f : NodeT → NodeT} (h : WithInv W Q B n path j b o m um S f) {i : Int} (hx : path[j]? = some i) (hi : i < 0 ∨ (m.kids.length : Int) ≤ i) (x : NodeT) : withN n path x = none := by
  rw [h.rest, drop_at hx, withN_cons]
  split
  · rw [List.getElem?_eq_none (by omega)]; rfl
  · rfl
theorem WithInv.next {W : World} {Q : Nat → Prop} {B : Nat} {n : NodeT} {path : List Int} {j b o : Nat} {m : NodeT} {p : Option Addr} {l c : Nat} {S : Nat → Prop} {f : NodeT → NodeT} (h : WithInv W Q B n path j b o m (.slice p l c) S f) {i : Nat} {k : NodeT} (hx : path[j]? = some (i : Int)) (hk : m.kids[i]? = some k) :
    ∃ g og u S' f', p = some ⟨g, og, none⟩ ∧ WithInv W Q B n path (j + 1) g (og + i * 3) k u S' f' := by
  obtain ⟨g, og, u, S', e, h1, h2, h3, h4, h5, h6, h7⟩ := h.hole.kid h.sub (fun _ h => h) h.off h.cells h.kids hk
  refine ⟨g, og, u, S', _, e, ⟨h1, h2, h3, fun c hc => h.sub c (h6 c hc), h.sub _ h4, h5, h7, fun x => ?_⟩⟩
  rw [h.rest, drop_at hx, withN_cons, if_pos (by omega), Int.toNat_natCast, hk]
  simp only [Option.bind_some, Option.map_map]
  rfl
/-- the other node laid there: the whole is so -/
theorem WithInv.put {W W2 : World} {Q : Nat → Prop} {B : Nat} {n : NodeT} {path : List Int} {j b o : Nat} {m : NodeT} {um : Value} {S : Nat → Prop} {f : NodeT → NodeT} (h : WithInv W Q B n path j b o m um S f) (hj : path.length ≤ j) (hb : Below W.heap.size W W2) {x : NodeT} {u : Value} (hx : KidsApart W2 (fun c => W.heap.size ≤ c ∧ c < W2.heap.size) u x.kids) (hQ : ∀ c, W.heap.size ≤ c → Q c)
    {W3 : World} (hW : ((W2.setCell ⟨b, o, none⟩ (.int .i64 x.kind)).setCell ⟨b, o + 1, none⟩ (.string x.text)).setCell ⟨b, o + 2, none⟩ u = W3) :
    withN n path x = some (f x) ∧ NodeAt W3 Q B 0 (f x) ∧ Keeps (fun d => d = b) W2 W3 ∧ W3.heap.size = W2.heap.size := by
  have hl := h.cells.lt
  obtain ⟨⟨p0, p1, p2⟩, hk, hK, hs, _⟩ := put3 W2 b o (h.cells.stays hb) (h.loose.stays hb) (.int .i64 x.kind) (.string x.text) u W3 hW
  refine ⟨?_, ?_, hK, hs⟩
  · rw [h.rest, List.drop_of_length_le hj, withN_nil]; rfl
  · refine h.hole W3 x (fun c q v h1 h2 hc => hk c q v h1 ((hb.cell (p := ⟨c, q, none⟩) (World.block_lt_of_cell? _ _ hc)).trans hc)) ⟨u, ⟨p0, p1, p2⟩, ?_⟩
    refine (hx.keeps hK fun c hc e => ?_).at.mono fun c hc => hQ c hc.1
    have := hc.1
    omega
/-- what is told: the tree with the other node, in new memory, or none -/
def WithPost (w : World) (r : Option NodeT) (e : Ending) (w' : World) : Prop :=
  ∃ u, e = .returned (.tuple #[nodeV (r.getD zeroN) u, .bool r.isSome]) ∧ KidsAt w' (fun c => w.heap.size ≤ c) u (r.getD zeroN).kids ∧ Below w.heap.size w w'
set_option maxRecDepth 100000 in
set_option maxHeartbeats 1000000 in
theorem with_calls (n x : NodeT) (u ux : Value) (path : List Int) (v : Value) (w : World) (S Sx S' : Nat → Prop) (hu : KidsAt w S u n.kids) (hux : KidsAt w Sx ux x.kids) (hv : IntsAt w S' v path) (hn : countN n ≤ 1000000000) (hx : countN x ≤ 1000000000) :
    Calls Tryd.prog 19 #[nodeV n u, v, nodeV x ux] w (WithPost w (withN n path x)) := by
  obtain ⟨pu, cu, rfl, lu⟩ := hu.shape
  obtain ⟨px, cx, rfl, lx⟩ := hux.shape
  obtain ⟨pv, cv, rfl, lv⟩ := hv.shape
  obtain ⟨r, hr⟩ : ∃ r, r = withN n path x := ⟨_, rfl⟩
  rw [← hr]
  have HR := Lib.hid hr
  clear hr
  have s1 := fun (A : World) (o : Obj) => (Below.refl A.heap.size A).alloc (Nat.le_refl _) o
  have b1 := nbox_new w 25 n.kind n.text (.slice pu n.kids.length cu)
  have b2 := nbox_new (w.alloc (.cells #[.int .i64 n.kind, .string n.text, .slice pu n.kids.length cu] 25)) 25 x.kind x.text (.slice px x.kids.length cx)
  have b3 := nbox_new ((w.alloc (.cells #[.int .i64 n.kind, .string n.text, .slice pu n.kids.length cu] 25)).alloc (.cells #[.int .i64 x.kind, .string x.text, .slice px x.kids.length cx] 25)) 25 0 ⟨#[]⟩ (.slice none 0 0)
  replace b2 := b2.stays (s1 _ (.cells #[.int .i64 0, .string ⟨#[]⟩, .slice none 0 0] 25))
  have hB : Below w.heap.size w (((w.alloc (.cells #[.int .i64 n.kind, .string n.text, .slice pu n.kids.length cu] 25)).alloc (.cells #[.int .i64 x.kind, .string x.text, .slice px x.kids.length cx] 25)).alloc (.cells #[.int .i64 0, .string ⟨#[]⟩, .slice none 0 0] 25)) :=
    (((Below.refl _ w).alloc (Nat.le_refl _) _).alloc (by simp) _).alloc (by simp; omega) _
  have HU := Lib.hid (hu.stays hB)
  have HX := Lib.hid (hux.stays hB)
  have HV := Lib.hid (hv.stays hB)
  have HB := Lib.hid hB
  simp only [World.size_alloc] at b2 b3
  have B2 := Lib.hid b2
  have B3 := Lib.hid b3
  have hcall := copy_calls n (.slice pu n.kids.length cu) _ S HU.out hn
  unfold nodeV at hcall ⊢
  have Hc := Lib.hid hcall
  clear hu hux hv hB b1 b2 b3 s1 hcall
  go_enter Tryd.func19, Tryd.ntmps19
  go_wp2_with fail
  have hW1s : (((w.alloc (.cells #[.int .i64 n.kind, .string n.text, .slice pu n.kids.length cu] 25)).alloc (.cells #[.int .i64 x.kind, .string x.text, .slice px x.kids.length cx] 25)).alloc (.cells #[.int .i64 0, .string ⟨#[]⟩, .slice none 0 0] 25)).heap.size = w.heap.size + 3 := by simp
  generalize ((w.alloc (.cells #[.int .i64 n.kind, .string n.text, .slice pu n.kids.length cu] 25)).alloc (.cells #[.int .i64 x.kind, .string x.text, .slice px x.kids.length cx] 25)).alloc (.cells #[.int .i64 0, .string ⟨#[]⟩, .slice none 0 0] 25) = W1 at *
  have HS1 := Lib.hid hW1s
  clear hW1s
  refine (Hc.out).mono ?_
  rintro e W2 ⟨u2, rfl, hk2, hb2⟩
  obtain ⟨p2, c2', rfl, l2⟩ := hk2.at.shape
  have HK2 := Lib.hid hk2
  have HB2 := Lib.hid hb2
  clear hb2 hk2 Hc
  unfold nodeV
  go_wp2
  have hal : Below W2.heap.size W2 (W2.alloc (.cells #[.int .i64 n.kind, .string n.text, .slice p2 n.kids.length c2'] 25)) := (Below.refl _ _).alloc (Nat.le_refl _) _
  have hbx := nbox_new W2 25 n.kind n.text (.slice p2 n.kids.length c2')
  have HK3 := Lib.hid (HK2.out.stays hal)
  have HB3 := Lib.hid (HB2.out.trans (hal.mono HB2.out.size))
  have HX3 := Lib.hid (HX.out.stays HB3.out)
  have HV3 := Lib.hid (HV.out.stays HB3.out)
  have hbr := B3.out.stays HB3.out
  have hbX := B2.out.stays HB3.out
  have hz3 : (W2.alloc (.cells #[.int .i64 n.kind, .string n.text, .slice p2 n.kids.length c2'] 25)).heap.size = W2.heap.size + 1 := by simp
  generalize W2.alloc (.cells #[.int .i64 n.kind, .string n.text, .slice p2 n.kids.length c2'] 25) = W3 at *
  have hinv : WithInv W3 (fun c => W1.heap.size ≤ c) W2.heap.size n path 0 W2.heap.size 0 n (.slice p2 n.kids.length c2') (fun c => W1.heap.size ≤ c ∧ c < W2.heap.size) id :=
    ⟨⟨hbx.cells.1, hbx.cells.2.1, hbx.cells.2.2⟩, HK3.out, fun h => by have := h.2; omega, fun c h => h.1, HB2.out.size, ⟨_, _, hbx⟩, fun w' y _ h => h, fun y => by rw [List.drop_zero]; cases withN n path y <;> rfl⟩
  have HZ3 := Lib.hid hz3
  have HI := Lib.hid hinv
  have Hbr := Lib.hid hbr
  have HbX := Lib.hid hbX
  have HL1 := Lib.hid HB2.out.size
  clear hinv hbx hal hz3 hbr hbX
  go_loopw [9, 16] (fun q i wr => ∃ (j b o : Nat) (m : NodeT) (um : Value) (S : Nat → Prop) (f : NodeT → NodeT), j ≤ path.length ∧ i = .int .i64 j ∧ q = .pointer (some ⟨b, o, none⟩) ∧ Hid (WithInv W3 (fun c => W1.heap.size ≤ c) W2.heap.size n path j b o m um S f) ∧ wr = W3) (fun _ i _ => path.length - (intOf i).toNat)
  case atStart => exact ⟨0, _, 0, n, _, _, _, Nat.zero_le _, rfl, rfl, HI, rfl⟩
  case round =>
    obtain ⟨j, b, o, m, um, S, f, hj, rfl, rfl, HI, rfl⟩ := hrel
    obtain ⟨pm, cm, rfl, lm⟩ := HI.out.kids.at.shape
    by_cases hlt : j < path.length
    · have hx := List.getElem?_eq_getElem hlt
      obtain ⟨bp, op, rfl, -, hcell⟩ := HV3.out.at hx
      by_cases hin : path[j] < 0 ∨ (m.kids.length : Int) ≤ path[j]
      · have hno := HI.out.nowhere hx hin x
        obtain rfl : r = none := HR.out.trans hno
        have hcall := kid_none wr b o m.kind m.text pm m.kids.length cm path[j] HI.out.cells hin
        have Hc := Lib.hid hcall
        obtain ⟨e0, e1, e2⟩ := Hbr.out.free
        obtain ⟨d0, d1, d2⟩ := Hbr.out.cells
        obtain ⟨hp1, hp⟩ := Hbr.out.put (k' := 0) (t' := ⟨#[]⟩) (u' := .slice none 0 0)
        have HQ := Lib.hid hp1
        have HP := Lib.hid hp
        clear hx hcall hno hin hp1 hp
        generalize path[j] = z at *
        go_wp2_with (go_at_call 37; with_reducible refine (Hc.out).mono ?_; rintro e w2 ⟨rfl, rfl⟩)
        have hq := HQ.out
        have hP := HP.out
        clear HQ HP
        have hs := HB.out.trans (HB3.out.mono HB.out.size)
        generalize ((w2.setCell ⟨w.heap.size + 1 + 1, 0, none⟩ (.int .i64 0)).setCell ⟨w.heap.size + 1 + 1, 1, none⟩ (.string ⟨#[]⟩)).setCell ⟨w.heap.size + 1 + 1, 2, none⟩ (.slice none 0 0) = W9 at *
        obtain ⟨q0, q1, q2⟩ := hq.cells
        have HP := Lib.hid hP
        clear hP hq
        refine bodyPost_ret (v := .tuple #[.agg #[.int .i64 0, .string ⟨#[]⟩, .slice none 0 0], .bool false]) (by simp [results, Tryd.results19, go_sem, q0, q1, q2]) rfl ⟨_, rfl, KidsAt.nil _ _, ?_⟩
        exact hs.trans (HP.out.below hs.size fun b hb => by omega)
      · obtain ⟨i, hi⟩ : ∃ i : Nat, path[j] = (i : Int) := ⟨path[j].toNat, by omega⟩
        have hil : i < m.kids.length := by omega
        have hk := List.getElem?_eq_getElem hil
        rw [hi] at hx hcell
        obtain ⟨g, og, ux, S', f', rfl, hnx⟩ := HI.out.next hx hk
        have hcall := kid_some wr b o m.kind m.text g og m.kids.length cm i HI.out.cells hil (by omega)
        generalize m.kids[i] = kx at *
        have Hc := Lib.hid hcall
        have Hx := Lib.hid hnx
        clear hcall hnx hk hi hx hin
        go_wp2_with (go_at_call 37; with_reducible refine (Hc.out).mono ?_; rintro e w2 ⟨rfl, rfl⟩)
        go_roundw
        case rel => exact ⟨j + 1, g, og + i * 3, kx, ux, S', f', by omega, by go_num, rfl, Hx, trivial⟩
        case measure => simp [intOf]; omega
    · obtain ⟨c0, c1, c2⟩ := HbX.out.cells
      have hcall := copy_calls x (.slice px x.kids.length cx) wr Sx HX3.out hx
      unfold nodeV at hcall
      have Hc := Lib.hid hcall
      clear hcall
      go_wp2_with (go_at_call 15; refine (Hc.out).mono ?_; refine Hid.out ?_)
      refine Lib.hid ?_
      rintro e W4 ⟨u4, rfl, hk4, hb4⟩
      obtain ⟨p4, c4', rfl, l4⟩ := hk4.at.shape
      have hQ : ∀ c, wr.heap.size ≤ c → W1.heap.size ≤ c := fun c hc => by have := HL1.out; have := HZ3.out; omega
      obtain ⟨hw, ⟨ur, hcr, hkr⟩, hkeep, hsz5⟩ := HI.out.put (by omega) hb4 hk4 hQ rfl
      obtain ⟨pr, cr, rfl, lr⟩ := hkr.shape
      obtain ⟨r0, r1, r2⟩ := hcr.zero
      generalize f x = fx at *
      obtain rfl : r = some fx := HR.out.trans hw
      have hbb : w.heap.size + 1 + 1 ≠ b := fun e => by have := HI.out.base; have := HS1.out; omega
      have hbr5 := (Hbr.out.stays hb4).keeps hkeep (fun e => hbb e)
      obtain ⟨a0, a1, a2⟩ := HI.out.cells.stays hb4
      have f0 := (HI.out.loose.stays hb4).free o
      have f1 := (HI.out.loose.stays hb4).free (o + 1)
      have f2 := (HI.out.loose.stays hb4).free (o + 2)
      obtain ⟨e0, e1, e2⟩ := hbr5.free
      obtain ⟨d0, d1, d2⟩ := hbr5.cells
      have hput := hbr5.put (k' := fx.kind) (t' := fx.text) (u' := .slice pr fx.kids.length cr)
      have HPut := Lib.hid hput
      have HKR := Lib.hid hkr
      have HB4 := Lib.hid hb4
      have HK5 := Lib.hid hkeep
      have HBase := Lib.hid HI.out.base
      clear hput hkr hb4 hkeep hw hbr5 hcr hk4 hsz5 hQ c0 c1 c2 HI hbb
      unfold nodeV
      go_wp2
      generalize ((W4.setCell ⟨b, o, none⟩ (.int .i64 x.kind)).setCell ⟨b, o + 1, none⟩ (.string x.text)).setCell ⟨b, o + 2, none⟩ (.slice p4 x.kids.length c4') = W5 at *
      clear r0 r1 r2 a0 a1 a2 f0 f1 f2 e0 e1 e2 d0 d1 d2
      obtain ⟨hq, hP⟩ := HPut.out
      have hkr := HKR.out.keeps hP (fun c hc e => by have := HS1.out; omega)
      have hs := HB.out.trans (HB3.out.mono HB.out.size)
      have hs4 := hs.trans (HB4.out.mono hs.size)
      have HKr := Lib.hid hkr
      generalize ((W5.setCell ⟨w.heap.size + 1 + 1, 0, none⟩ (.int .i64 fx.kind)).setCell ⟨w.heap.size + 1 + 1, 1, none⟩ (.string fx.text)).setCell ⟨w.heap.size + 1 + 1, 2, none⟩ (.slice pr fx.kids.length cr) = W9 at *
      obtain ⟨q0, q1, q2⟩ := hq.cells
      have HP := Lib.hid hP
      clear hP hq hkr
      refine bodyPost_ret (v := .tuple #[.agg #[.int .i64 fx.kind, .string fx.text, .slice pr fx.kids.length cr], .bool true]) (by simp [results, Tryd.results19, go_sem, q0, q1, q2]) rfl ⟨_, rfl, HKr.out.mono fun c hc => by have := HS1.out; omega, ?_⟩
      have h5 := hs4.trans (HK5.out.below hs4.size fun c hc => by have := HBase.out; have := HS1.out; omega)
      exact h5.trans (HP.out.below h5.size fun c hc => by omega)
end Go.Proofs.YtigpffbhkopjeaaDoor
