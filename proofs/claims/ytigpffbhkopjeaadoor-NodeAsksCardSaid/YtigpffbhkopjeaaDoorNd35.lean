/- What NodeAsks asks of two trees, and of a tree at a path. Its condition: how the trees and the path lie in memory; at most 10^8 nodes. -/
import Derived.Test.YtigpffbhkopjeaaDoorNd34
namespace Go.Proofs.YtigpffbhkopjeaaDoor
open Go.RowKit Go.Sub Go.Sort

set_option maxRecDepth 100000 in
set_option maxHeartbeats 1000000 in
theorem two_calls (a b : NodeT) (ua ub : Value) (w : World) (S S' : Nat → Prop) (ha : KidsAt w S ua a.kids) (hb : KidsAt w S' ub b.kids) :
    Calls Tryd.prog 24 #[nodeV a ua, nodeV b ub] w fun e w' => e = .returned (.bool true) ∧ Below w.heap.size w w' := by
  obtain ⟨pa, ca, rfl, la⟩ := ha.shape
  obtain ⟨pb, cb, rfl, lb⟩ := hb.shape
  have h1 := (Below.refl w.heap.size w).alloc (Nat.le_refl _) (.cells #[.int .i64 a.kind, .string a.text, .slice pa a.kids.length ca] 25)
  have h2 := (Below.refl (w.alloc (.cells #[.int .i64 a.kind, .string a.text, .slice pa a.kids.length ca] 25)).heap.size _).alloc (Nat.le_refl _) (.cells #[.int .i64 b.kind, .string b.text, .slice pb b.kids.length cb] 25)
  have b1 := (nbox_new w 25 a.kind a.text (.slice pa a.kids.length ca)).stays h2
  have b2 := nbox_new (w.alloc (.cells #[.int .i64 a.kind, .string a.text, .slice pa a.kids.length ca] 25)) 25 b.kind b.text (.slice pb b.kids.length cb)
  have ha2 := (ha.stays h1).stays h2
  have hb2 := (hb.stays h1).stays h2
  have hB := h1.trans (h2.mono h1.size)
  rw [World.size_alloc] at b2
  unfold nodeV
  clear h1 h2 ha hb
  go_enter Tryd.func24, Tryd.ntmps24
  go_upto_region 1 with (fail)
  generalize (w.alloc (.cells #[.int .i64 a.kind, .string a.text, .slice pa a.kids.length ca] 25)).alloc (.cells #[.int .i64 b.kind, .string b.text, .slice pb b.kids.length cb] 25) = W1 at *
  obtain ⟨x, hx⟩ : ∃ x, x = eqN a b := ⟨_, rfl⟩
  have q1 : ∀ U (_ : Below W1.heap.size W1 U), Calls Tryd.prog 20 #[.agg #[.int .i64 a.kind, .string a.text, .slice pa a.kids.length ca], .agg #[.int .i64 b.kind, .string b.text, .slice pb b.kids.length cb]] U fun e w' => e = .returned (.bool x) ∧ Below U.heap.size U w' := fun U h => hx ▸ nsame_ok a b _ _ U _ _ (ha2.stays h) (hb2.stays h)
  have q2 : ∀ U (_ : Below W1.heap.size W1 U), Calls Tryd.prog 14 #[.agg #[.int .i64 a.kind, .string a.text, .slice pa a.kids.length ca], .agg #[.int .i64 b.kind, .string b.text, .slice pb b.kids.length cb]] U fun e w' => e = .returned (.bool x) ∧ Below U.heap.size U w' := fun U h => hx ▸ same_calls a b _ _ U _ _ (ha2.stays h) (hb2.stays h)
  have show1 : ∀ U, Below W1.heap.size W1 U → (U.cell? ⟨w.heap.size, 0, none⟩ = some (.int .i64 a.kind) ∧ U.cell? ⟨w.heap.size, 1, none⟩ = some (.string a.text) ∧ U.cell? ⟨w.heap.size, 2, none⟩ = some (.slice pa a.kids.length ca)) ∧ (U.cell? ⟨w.heap.size + 1, 0, none⟩ = some (.int .i64 b.kind) ∧ U.cell? ⟨w.heap.size + 1, 1, none⟩ = some (.string b.text) ∧ U.cell? ⟨w.heap.size + 1, 2, none⟩ = some (.slice pb b.kids.length cb)) ∧ Below W1.heap.size W1 U := fun U h => ⟨(b1.stays h).cells, (b2.stays h).cells, h⟩
  obtain ⟨c0, c1, c2⟩ := b1.cells
  obtain ⟨d0, d1, d2⟩ := b2.cells
  have SHOW := Lib.hid show1
  have HBel := Lib.hid (Below.refl W1.heap.size W1)
  have Q1 := Lib.hid q1
  have Q2 := Lib.hid q2
  have HB := Lib.hid hB
  clear show1 q1 q2 hB ha2 hb2 hx b1 b2
  go_region_held3 (fun w' => (w'.cell? ⟨w.heap.size, 0, none⟩ = some (.int .i64 a.kind) ∧ w'.cell? ⟨w.heap.size, 1, none⟩ = some (.string a.text) ∧ w'.cell? ⟨w.heap.size, 2, none⟩ = some (.slice pa a.kids.length ca)) ∧ (w'.cell? ⟨w.heap.size + 1, 0, none⟩ = some (.int .i64 b.kind) ∧ w'.cell? ⟨w.heap.size + 1, 1, none⟩ = some (.string b.text) ∧ w'.cell? ⟨w.heap.size + 1, 2, none⟩ = some (.slice pb b.kids.length cb)) ∧ Below W1.heap.size W1 w') (first | exact SHOW.out _ HBel.out.drew | assumption | (refine SHOW.out _ ?_; assumption))
    (first
      | (go_at_call 20; with_reducible refine (Q1.out _ (And.right (And.right (by assumption)))).mono ?_; rintro _ U ⟨rfl, bu⟩; have bb := Below.trans (And.right (And.right (by assumption))) (bu.mono (Below.size (And.right (And.right (by assumption))))); clear bu)
      | (go_at_call 14; with_reducible refine (Q2.out _ (And.right (And.right (by assumption)))).mono ?_; rintro _ U ⟨rfl, bu⟩; have bb := Below.trans (And.right (And.right (by assumption))) (bu.mono (Below.size (And.right (And.right (by assumption))))); clear bu))
  go_wp2
  go_ret
  exact ⟨by simp, HB.out.trans ((show Below W1.heap.size W1 _ by assumption).mono HB.out.size)⟩
set_option maxRecDepth 100000 in
set_option maxHeartbeats 1000000 in
theorem weight_calls (n : NodeT) (u : Value) (w : World) (S : Nat → Prop) (hu : KidsAt w S u n.kids) (ht : tmaxN n ≤ 140737488355328) :
    Calls Tryd.prog 21 #[nodeV n u] w fun e w' => e = .returned (.int .i64 (1000 - max (leftN n 1000) (-1))) ∧ Below w.heap.size w w' := by
  obtain ⟨pu, cu, rfl, lu⟩ := hu.shape
  have h1 := (Below.refl w.heap.size w).alloc (Nat.le_refl _) (.cells #[.int .i64 n.kind, .string n.text, .slice pu n.kids.length cu] 25)
  have b1 := nbox_new w 25 n.kind n.text (.slice pu n.kids.length cu)
  have hc := left_calls n _ 1000 _ S (hu.stays h1) ht (by omega) (by omega)
  have hle := leftN_low n 1000
  obtain ⟨c0, c1, c2⟩ := b1.cells
  unfold nodeV at *
  clear hu b1 ht
  go_enter Tryd.func21, Tryd.ntmps21
  go_upto_region 1 with (fail)
  generalize w.alloc (.cells #[.int .i64 n.kind, .string n.text, .slice pu n.kids.length cu] 25) = W1 at *
  generalize hm : leftN n 1000 = m at *
  have HM := Lib.hid hm
  clear hm
  have w1 : IntKind.i64.wrap (1000 - max m (-1)) = 1000 - max m (-1) := IntWalk.i64_in _ (by omega)
  have Hc := Lib.hid hc
  have HB := Lib.hid h1
  clear hc h1
  go_wp2_with (go_at_call 39; refine (Hc.out).mono ?_; rintro e w2 ⟨rfl, hb⟩; have HW2 := Lib.hid (HB.out.trans (hb.mono HB.out.size)); clear hb)
  go_ret
  exact ⟨by rw [HM.out]; rfl, HW2.out⟩
/-- what At and With tell, node and word apart -/
def Told2 (w : World) (y : NodeT) (o : Bool) (e : Ending) (w' : World) : Prop :=
  ∃ p c, e = .returned (.tuple #[.agg #[.int .i64 y.kind, .string y.text, .slice p y.kids.length c], .bool o]) ∧ Hid (KidsAt w' (fun _ => True) (.slice p y.kids.length c) y.kids) ∧ Hid (Below w.heap.size w w')
theorem told2 {w w' : World} {S : Nat → Prop} {y : NodeT} {o : Bool} {e : Ending} {u : Value} (he : e = .returned (.tuple #[nodeV y u, .bool o])) (hk : KidsAt w' S u y.kids) (hb : Below w.heap.size w w') : Told2 w y o e w' := by
  obtain ⟨p, c, rfl, _⟩ := hk.shape
  exact ⟨p, c, he, Lib.hid (hk.mono fun _ _ => trivial), Lib.hid hb⟩
set_option maxRecDepth 100000 in
set_option maxHeartbeats 2000000 in
theorem atlaw_calls (n x : NodeT) (u ux : Value) (path : List Int) (v : Value) (w : World) (S Sx S' : Nat → Prop) (hu : KidsAt w S u n.kids) (hux : KidsAt w Sx ux x.kids) (hv : PathAt w S' v path) (hn : countN n ≤ 1000000) (hx : countN x ≤ 1000000) :
    Calls Tryd.prog 25 #[nodeV n u, v, nodeV x ux] w fun e w' => e = .returned (.bool true) ∧ Below w.heap.size w w' := by
  obtain ⟨pu, cu, rfl, lu⟩ := hu.shape
  obtain ⟨px, cx, rfl, lx⟩ := hux.shape
  obtain ⟨pv, cv, rfl, lv⟩ := hv.1.shape
  have h1 := (Below.refl w.heap.size w).alloc (Nat.le_refl _) (.cells #[.int .i64 n.kind, .string n.text, .slice pu n.kids.length cu] 25)
  have h2 := (Below.refl (w.alloc (.cells #[.int .i64 n.kind, .string n.text, .slice pu n.kids.length cu] 25)).heap.size _).alloc (Nat.le_refl _) (.cells #[.int .i64 x.kind, .string x.text, .slice px x.kids.length cx] 25)
  have b1 := (nbox_new w 25 n.kind n.text (.slice pu n.kids.length cu)).stays h2
  have b2 := nbox_new (w.alloc (.cells #[.int .i64 n.kind, .string n.text, .slice pu n.kids.length cu] 25)) 25 x.kind x.text (.slice px x.kids.length cx)
  have hB := h1.trans (h2.mono h1.size)
  have hu2 := hu.stays hB
  have hx2 := hux.stays hB
  have hv2 : PathAt _ S' (.slice pv path.length cv) path := ⟨hv.1.stays hB, hv.2⟩
  rw [World.size_alloc] at b2
  obtain ⟨y, hy⟩ : ∃ y, y = (atN n path).getD zeroN := ⟨_, rfl⟩
  obtain ⟨o, ho⟩ : ∃ o, o = (atN n path).isSome := ⟨_, rfl⟩
  obtain ⟨z, hz⟩ : ∃ z, z = (withN n path x).getD zeroN := ⟨_, rfl⟩
  obtain ⟨q, hq⟩ : ∃ q, q = (withN n path x).isSome := ⟨_, rfl⟩
  unfold nodeV
  clear h1 h2 hu hux hv
  go_enter Tryd.func25, Tryd.ntmps25
  go_upto_region 1 with (fail)
  generalize (w.alloc (.cells #[.int .i64 n.kind, .string n.text, .slice pu n.kids.length cu] 25)).alloc (.cells #[.int .i64 x.kind, .string x.text, .slice px x.kids.length cx] 25) = W1 at *
  have atT : ∀ U, Below W1.heap.size W1 U → Calls Tryd.prog 17 #[.agg #[.int .i64 n.kind, .string n.text, .slice pu n.kids.length cu], .slice pv path.length cv] U (Told2 U y o) := fun U h => by
    refine (at_calls n _ path _ U _ _ (hu2.stays h) (hv2.1.stays h) (by omega)).mono ?_
    rintro e V ⟨u, he, ku, bl⟩
    rw [← hy, ← ho] at he
    rw [← hy] at ku
    exact told2 he ku bl
  have ratT : ∀ U, Below W1.heap.size W1 U → Calls Tryd.prog 43 #[.agg #[.int .i64 n.kind, .string n.text, .slice pu n.kids.length cu], .slice pv path.length cv] U (Told2 U y o) := fun U h => by
    refine (rat_calls n _ path _ U _ _ (hu2.stays h) (hv2.1.stays h)).mono ?_
    rintro e V ⟨u, he, ku, bl⟩
    rw [← hy, ← ho] at he
    rw [← hy] at ku
    exact told2 he ku bl
  have wT : ∀ U, Below W1.heap.size W1 U → Calls Tryd.prog 19 #[.agg #[.int .i64 n.kind, .string n.text, .slice pu n.kids.length cu], .slice pv path.length cv, .agg #[.int .i64 x.kind, .string x.text, .slice px x.kids.length cx]] U (Told2 U z q) := fun U h => by
    refine (with_calls n x _ _ path _ U _ _ _ (hu2.stays h) (hx2.stays h) (hv2.1.stays h) (by omega) (by omega)).mono ?_
    rintro e V ⟨u, he, ku, bl⟩
    rw [← hz, ← hq] at he
    rw [← hz] at ku
    exact told2 he ku bl
  have rwT : ∀ U, Below W1.heap.size W1 U → Calls Tryd.prog 44 #[.agg #[.int .i64 n.kind, .string n.text, .slice pu n.kids.length cu], .slice pv path.length cv, .agg #[.int .i64 x.kind, .string x.text, .slice px x.kids.length cx]] U (Told2 U z q) := fun U h => by
    refine (rwith_calls path n x _ _ _ U _ _ ((hu2.stays h).mono (S' := fun _ => True) fun _ _ => trivial) ((hx2.stays h).mono fun _ _ => trivial) ⟨hv2.1.stays h, hv2.2⟩ (by omega)).mono ?_
    rintro e V ⟨u, he, ku, bl⟩
    rw [← hz, ← hq] at he
    rw [← hz] at ku
    exact told2 he ku bl
  have AT := Lib.hid (atT W1 (Below.refl _ _))
  have RAT := Lib.hid ratT
  have WT := Lib.hid wT
  have RWT := Lib.hid rwT
  have B1 := Lib.hid b1
  have B2 := Lib.hid b2
  have HB := Lib.hid hB
  obtain ⟨c0, c1, c2⟩ := b1.cells
  clear atT ratT wT rwT b1 b2 hB hu2 hx2 hv2 hy ho hz hq
  go_upto_region 2 with (go_at_call 17; refine AT.out.mono ?_; rintro _ V1 ⟨p1, e1, rfl, ku, bl⟩) 
  obtain ⟨tb, bb, zz⟩ := treeBox_new ku.out bl.out 
  clear ku bl zz
  generalize V1.alloc (.cells #[.int .i64 y.kind, .string y.text, .slice p1 y.kids.length e1] 25) = W2 at *
  generalize V1.heap.size = A1 at *
  have T1 := Lib.hid tb
  have B3 := Lib.hid bb
  obtain ⟨c0, c1, c2⟩ := (B1.out.stays bb).cells
  have RAT := Lib.hid (RAT.out W2 bb)
  clear tb bb AT
  go_upto_region 3 with (go_at_call 43; refine RAT.out.mono ?_; rintro _ V2 ⟨p2, e2, rfl, ku, bl⟩) 
  obtain ⟨tb, bb, zz⟩ := treeBox_new ku.out bl.out 
  clear ku bl zz
  generalize V2.alloc (.cells #[.int .i64 y.kind, .string y.text, .slice p2 y.kids.length e2] 25) = W3 at *
  generalize V2.heap.size = A2 at *
  have T1 := Lib.hid (T1.out.stays bb)
  have T2 := Lib.hid tb
  have B4 := Lib.hid (B3.out.trans (bb.mono B3.out.size))
  obtain ⟨c0, c1, c2⟩ := (B1.out.stays B4.out).cells
  obtain ⟨d0, d1, d2⟩ := (B2.out.stays B4.out).cells
  have WT := Lib.hid (WT.out W3 B4.out)
  clear tb bb RAT
  go_upto_region 4 with (go_at_call 19; refine WT.out.mono ?_; rintro _ V3 ⟨p3, e3, rfl, ku, bl⟩) 
  obtain ⟨tb, bb, zz⟩ := treeBox_new ku.out bl.out 
  clear ku bl zz
  generalize V3.alloc (.cells #[.int .i64 z.kind, .string z.text, .slice p3 z.kids.length e3] 25) = W4 at *
  generalize V3.heap.size = A3 at *
  have T1 := Lib.hid (T1.out.stays bb)
  have T2 := Lib.hid (T2.out.stays bb)
  have T3 := Lib.hid tb
  have B5 := Lib.hid (B4.out.trans (bb.mono B4.out.size))
  obtain ⟨c0, c1, c2⟩ := (B1.out.stays B5.out).cells
  obtain ⟨d0, d1, d2⟩ := (B2.out.stays B5.out).cells
  have RWT := Lib.hid (RWT.out W4 B5.out)
  clear tb bb WT
  go_upto_region 5 with (go_at_call 44; refine RWT.out.mono ?_; rintro _ V4 ⟨p4, e4, rfl, ku, bl⟩) 
  obtain ⟨tb, bb, zz⟩ := treeBox_new ku.out bl.out 
  clear ku bl zz
  generalize V4.alloc (.cells #[.int .i64 z.kind, .string z.text, .slice p4 z.kids.length e4] 25) = W5 at *
  generalize V4.heap.size = A4 at *
  have T1 := T1.out.stays bb
  have T2 := T2.out.stays bb
  have T3 := T3.out.stays bb
  have B6 := Lib.hid (B5.out.trans (bb.mono B5.out.size))
  obtain ⟨f0, f1, f2⟩ := T1.box.cells
  obtain ⟨g0, g1, g2⟩ := T2.box.cells
  obtain ⟨h0, h1, h2⟩ := T3.box.cells
  obtain ⟨k0, k1, k2⟩ := tb.box.cells
  have s1 := same_calls y y _ _ W5 _ _ T1.kids T2.kids
  rw [(eqN_iff _ _).2 rfl] at s1
  unfold nodeV at s1
  have s2 := fun U (h : Below W5.heap.size W5 U) => same_calls z z _ _ U _ _ (T3.kids.stays h) (tb.kids.stays h)
  rw [(eqN_iff _ _).2 rfl] at s2
  unfold nodeV at s2
  have cells2 := fun U (h : Below W5.heap.size W5 U) => And.intro (T3.stays h).box.cells (tb.stays h).box.cells
  have S1 := Lib.hid s1
  have S2 := Lib.hid s2
  have C2 := Lib.hid cells2
  clear s1 s2 cells2 T1 T2 T3 tb bb RWT B1 B2
  have o1 : (o == o) = true := by simp
  have q1 : (q == q) = true := by simp
  go_wp2_with (first
    | (go_at_call 14; with_reducible refine S1.out.mono ?_; rintro _ U ⟨rfl, bu⟩; have BU := Lib.hid bu; obtain ⟨⟨h0, h1, h2⟩, ⟨k0, k1, k2⟩⟩ := C2.out U bu; clear bu)
    | (go_at_call 14; with_reducible refine (S2.out _ BU.out).mono ?_; rintro _ U2 ⟨rfl, bu⟩; have BU2 := Lib.hid (BU.out.trans (bu.mono BU.out.size)); clear bu))
  go_ret
  exact ⟨rfl, HB.out.trans ((B6.out.trans (BU2.out.mono B6.out.size)).mono HB.out.size)⟩
end Go.Proofs.YtigpffbhkopjeaaDoor
