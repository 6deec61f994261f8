/- NodeCopy. Its condition: the lists lie in memory; the tables that Go's library reads. -/
import Derived.Test.YtigpffbhkopjeaaDoorNd25
import Derived.Deep.Cut
import Derived.Deep.RegionHeld3
namespace Go.Sub
open Go.RowKit

/-- a row of nodes that may be written -/
def RowC (W : World) (p : Option Addr) (b o N : Nat) : Prop := ∀ i < N, p = some ⟨b, o, none⟩ ∧ Loose W b ∧ ∃ k t u, NCells W b (o + i * 3) k t u
theorem RowC.of_kids {w : World} {S : Nat → Prop} {p : Option Addr} {n cap : Nat} {l : List NodeT} (h : KidsAt w S (.slice p n cap) l) (hS : ∀ b, S b → Loose w b) : ∃ b o, RowC w p b o l.length ∧ (0 < l.length → S b) := by
  generalize hv : Value.slice p n cap = v at h
  cases h with
  | mk p' cap' l b o us hp hlen hc hk =>
    cases hv
    refine ⟨b, o, fun i hi => ?_, fun h => (hp h).2⟩
    have h0 : 0 < l.length := by omega
    exact ⟨(hp h0).1, hS b (hp h0).2, _, _, _, hc i l[i] (List.getElem?_eq_getElem hi)⟩
theorem RowC.of_apart {w : World} {S : Nat → Prop} {p : Option Addr} {n cap : Nat} {l : List NodeT} (h : KidsApart w S (.slice p n cap) l) : ∃ b o, RowC w p b o l.length ∧ (0 < l.length → S b) := by
  generalize hv : Value.slice p n cap = v at h
  cases h with
  | mk S p' cap' l b o us T hp hlen hT hd hc hk =>
    cases hv
    refine ⟨b, o, fun i hi => ?_, fun h => (hp h).1.2⟩
    have h0 : 0 < l.length := by omega
    exact ⟨(hp h0).1.1, (hp h0).2, _, _, _, hc i l[i] (List.getElem?_eq_getElem hi)⟩
theorem RowC.keeps {w w' : World} {O : Nat → Prop} {p : Option Addr} {b o N : Nat} (h : RowC w p b o N) (hk : Keeps O w w') (hO : 0 < N → ¬ O b) : RowC w' p b o N := fun i hi => by
  obtain ⟨e, hl, k, t, u, hc⟩ := h i hi
  have hn := hO (by omega)
  exact ⟨e, hl.keep fun hlt => hk.block b hlt hn, k, t, u, hk.cell hc.1 hn, hk.cell hc.2.1 hn, hk.cell hc.2.2 hn⟩
theorem put1 (w : World) (g o : Nat) (v : Value) {T : TypeId} {cs : Array Value} (hb : w.heap[g]? = some (.cells cs T (0, 0))) : Loose (w.setCell ⟨g, o, none⟩ v) g ∧ Keeps (fun d => d = g) w (w.setCell ⟨g, o, none⟩ v) :=
  ⟨⟨_, _, heap_setCell_same w g o _ _ v hb⟩, keeps_set w g o v (O := fun d => d = g) rfl⟩
theorem RowC.text {w : World} {p : Option Addr} {b o N j : Nat} (h : RowC w p b o N) (hj : j < N) (s : ByteArray) : RowC (w.setCell ⟨b, o + j * 3 + 1, none⟩ (.string s)) p b o N ∧ Keeps (fun d => 0 < N ∧ d = b) w (w.setCell ⟨b, o + j * 3 + 1, none⟩ (.string s)) := by
  obtain ⟨-, ⟨cs, T, hb⟩, -⟩ := h j hj
  obtain ⟨hl, hk⟩ := put1 w b (o + j * 3 + 1) (.string s) hb
  refine ⟨fun i hi => ?_, hk.mono fun d _ hd => ⟨by omega, hd⟩⟩
  obtain ⟨e, -, k, t, u, c0, c1, c2⟩ := h i hi
  by_cases hij : i = j
  · subst hij
    exact ⟨e, hl, k, s, u, by rw [World.cell?_setCell_other _ _ _ _ (by simp)]; exact c0, World.cell?_setCell_same _ _ _ c1, by rw [World.cell?_setCell_other _ _ _ _ (by simp)]; exact c2⟩
  · exact ⟨e, hl, k, t, u, by rw [World.cell?_setCell_other _ _ _ _ (fun e => by simp at e <;> omega)]; exact c0, by rw [World.cell?_setCell_other _ _ _ _ (fun e => by simp at e <;> omega)]; exact c1, by rw [World.cell?_setCell_other _ _ _ _ (fun e => by simp at e <;> omega)]; exact c2⟩
theorem RowC.kind {w : World} {p : Option Addr} {b o N j : Nat} (h : RowC w p b o N) (hj : j < N) (z : Int) : RowC (w.setCell ⟨b, o + j * 3, none⟩ (.int .i64 z)) p b o N ∧ Keeps (fun d => 0 < N ∧ d = b) w (w.setCell ⟨b, o + j * 3, none⟩ (.int .i64 z)) := by
  obtain ⟨-, ⟨cs, T, hb⟩, -⟩ := h j hj
  obtain ⟨hl, hk⟩ := put1 w b (o + j * 3) (.int .i64 z) hb
  refine ⟨fun i hi => ?_, hk.mono fun d _ hd => ⟨by omega, hd⟩⟩
  obtain ⟨e, -, k, t, u, c0, c1, c2⟩ := h i hi
  by_cases hij : i = j
  · subst hij
    exact ⟨e, hl, z, t, u, World.cell?_setCell_same _ _ _ c0, by rw [World.cell?_setCell_other _ _ _ _ (by simp)]; exact c1, by rw [World.cell?_setCell_other _ _ _ _ (by simp)]; exact c2⟩
  · exact ⟨e, hl, k, t, u, by rw [World.cell?_setCell_other _ _ _ _ (fun e => by simp at e <;> omega)]; exact c0, by rw [World.cell?_setCell_other _ _ _ _ (fun e => by simp at e <;> omega)]; exact c1, by rw [World.cell?_setCell_other _ _ _ _ (fun e => by simp at e <;> omega)]; exact c2⟩
theorem RowC.open {w : World} {p : Option Addr} {b o N j : Nat} (h : RowC w p b o N) (hj : j < N) : p = some ⟨b, o, none⟩ ∧ (∃ k, w.cell? ⟨b, o + j * 3, none⟩ = some (.int .i64 k)) ∧ (∃ t, w.cell? ⟨b, o + j * 3 + 1, none⟩ = some (.string t)) ∧ w.frozen? ⟨b, o + j * 3, none⟩ = false ∧ w.frozen? ⟨b, o + j * 3 + 1, none⟩ = false := by
  obtain ⟨e, hl, k, t, u, c0, c1, c2⟩ := h j hj
  exact ⟨e, ⟨k, c0⟩, ⟨t, c1⟩, hl.free _, hl.free _⟩
end Go.Sub
namespace Go.Proofs.YtigpffbhkopjeaaDoor
open Go.RowKit Go.Sub Go.Sort
set_option maxRecDepth 100000 in
set_option maxHeartbeats 2000000 in
theorem copy_core (c : List UInt8) (v0 : Value) (w : World) (h0 : BytesRow w v0 c) (hT : Tabs w) :
    Calls Tryd.prog 5 #[v0] w fun e w' => e = .returned (.bool true) ∧ Below w.heap.size w w' := by
  obtain ⟨a, ha⟩ : ∃ a, a = treeN c := ⟨_, rfl⟩
  have oa : TreeOf a := ha ▸ treeOf c
  have Ha := Lib.hid ha
  clear ha
  have HT := Lib.hid hT
  have H0 := Lib.hid h0
  go_enter Tryd.func5, Tryd.ntmps5
  have tc := Lib.hid (tree_told c v0 w h0 a Ha.out) 
  go_upto_region 2 with (go_at_call 9; refine tc.out.mono ?_; rintro _ V1 ⟨pa, ca, rfl, ku, bl⟩) 
  obtain ⟨tb, bb, zz⟩ := treeBox_new ku.out bl.out 
  have zl := bl.out.size 
  clear tc ku bl
  generalize V1.alloc (.cells #[.int .i64 a.kind, .string a.text, .slice pa a.kids.length ca] 25) = W1 at *
  generalize V1.heap.size = A at *
  have c2 := copy_calls a _ W1 _ tb.kids (by have := oa.count; omega)
  unfold nodeV at c2
  obtain ⟨n0, n1, n2⟩ := tb.box.cells
  have C2 := Lib.hid c2
  have T1 := Lib.hid tb
  have B1 := Lib.hid bb
  have OA := Lib.hid oa
  have Z1 := Lib.hid zz
  have Z0 := Lib.hid zl
  clear c2 tb bb oa zz zl hT h0
  go_upto_region 3 with (go_at_call 15; refine C2.out.mono ?_; rintro _ V2 ⟨u, rfl, ku, bl⟩; obtain ⟨pm, cm, rfl, lm⟩ := ku.at.shape; simp only [nodeV]; have KU := Lib.hid ku; have BL := Lib.hid bl; clear ku bl)
  obtain ⟨tm, bm2, zm⟩ := treeBox_new KU.out.at BL.out
  have zb : W1.heap.size ≤ V2.heap.size := BL.out.size
  obtain ⟨bm, om, rm, hbm⟩ := RowC.of_apart KU.out
  have bm1 := (Below.refl V2.heap.size V2).alloc (Nat.le_refl _) (.cells #[.int .i64 a.kind, .string a.text, .slice pm a.kids.length cm] 25)
  have rm := rm.keeps (O := fun _ => False) (Keeps.of_below' bm1) (fun _ h => h)
  clear bm1 KU BL C2 n0 n1 n2
  generalize V2.alloc (.cells #[.int .i64 a.kind, .string a.text, .slice pm a.kids.length cm] 25) = W2 at *
  generalize V2.heap.size = B at *
  have T1' := T1.out.stays bm2
  have iv : IntsAt W2 (fun _ => True) (.slice none 0 0) [] := ⟨none, 0, 0, 0, rfl, fun h => absurd h (by simp), by simp, fun i x h => by simp at h⟩
  have c3 := at_calls a _ [] _ W2 _ _ T1'.kids iv (by have := OA.out.count; omega)
  rw [atN_nil] at c3
  unfold nodeV at c3
  obtain ⟨n0, n1, n2⟩ := T1'.box.cells
  have C3 := Lib.hid c3
  have T1x := Lib.hid T1'
  have TM := Lib.hid tm
  have RM := Lib.hid rm
  have HBM := Lib.hid hbm
  have ZM := Lib.hid zm
  have ZB := Lib.hid zb
  have BM := Lib.hid bm2
  clear c3 T1' iv tm rm hbm zm bm2 zb
  go_upto_region 4 with (go_at_call 17; refine C3.out.mono ?_; rintro _ V3 ⟨u, rfl, ku, bl⟩; obtain ⟨px, cx, rfl, lx⟩ := ku.shape; simp only [nodeV, Option.getD, Option.isSome] at ku ⊢; have KU := Lib.hid ku; have BL := Lib.hid bl; clear ku bl)
  obtain ⟨tx, bx2, zx⟩ := treeBox_new KU.out BL.out
  obtain ⟨bx, ox, rx, hbx⟩ := RowC.of_kids KU.out (fun b h => h.2)
  have bx1 := (Below.refl V3.heap.size V3).alloc (Nat.le_refl _) (.cells #[.int .i64 a.kind, .string a.text, .slice px a.kids.length cx] 25)
  have rx := rx.keeps (O := fun _ => False) (Keeps.of_below' bx1) (fun _ h => h)
  have zc : W2.heap.size ≤ V3.heap.size := BL.out.size
  have hbx2 : 0 < a.kids.length → W2.heap.size ≤ bx ∧ bx < V3.heap.size := fun h => ⟨(hbx h).1, (hbx h).2.lt⟩
  clear bx1 KU BL C3 n0 n1 n2 hbx
  generalize V3.alloc (.cells #[.int .i64 a.kind, .string a.text, .slice px a.kids.length cx] 25) = W3 at *
  generalize V3.heap.size = C at *
  have hN : a.kids.length ≤ 32 := by have := OA.out.count; rw [countN_eq] at this; have := countL_le_length a.kids; omega
  have rm3 := RM.out.keeps (O := fun _ => False) (Keeps.of_below' bx2) (fun _ h => h)
  have TA := Lib.hid (T1x.out.stays bx2)
  have TB := Lib.hid (TM.out.stays bx2)
  have TC := Lib.hid tx
  have B3 := Lib.hid (B1.out.trans ((BM.out.trans (bx2.mono BM.out.size)).mono B1.out.size))
  have DJ : Hid (0 < a.kids.length → (W1.heap.size ≤ bm ∧ bm ≠ A ∧ bm ≠ B ∧ bm ≠ C) ∧ W1.heap.size ≤ bx ∧ bx ≠ A ∧ bx ≠ B ∧ bx ≠ C ∧ bm ≠ bx) := Lib.hid fun h => by
    have h1 := HBM.out h; have h2 := hbx2 h; have h3 := ZM.out; have h4 := Z1.out; have h5 := ZB.out
    omega
  have B13 := Lib.hid (BM.out.trans (bx2.mono BM.out.size))
  have LW : Hid (W1.heap.size ≤ W3.heap.size) := Lib.hid (by have := BM.out.size; have := bx2.size; omega)
  have RX := Lib.hid rx
  have RM3 := Lib.hid rm3
  clear rx rm3 hbx2 zc zx bx2 tx RM TM T1x HBM BM ZM ZB
  have z0 : (0 : Int) ≤ (a.kids.length : Int) := by omega
  go_wp2
  go_loopw [7] (fun i wr => ∃ j : Nat, j ≤ a.kids.length ∧ i = .int .i64 j ∧ Hid (RowC wr pm bm om a.kids.length) ∧ Hid (Keeps (fun d => 0 < a.kids.length ∧ d = bm) W3 wr)) (fun i _ => a.kids.length - (intOf i).toNat)
  case atStart => exact ⟨0, Nat.zero_le _, rfl, RM3, Lib.hid (Keeps.refl _ _)⟩
  case round =>
    obtain ⟨j, hj, rfl, HR, HK⟩ := hrel
    have tb := TB.out.box.keeps HK.out (fun e => by have := (DJ.out e.1).1.2.2.1; omega)
    obtain ⟨l0, l1, l2⟩ := tb.cells
    by_cases hlt : j < a.kids.length
    · obtain ⟨rfl, ⟨z, ck⟩, ⟨tt, ct⟩, fk, ft⟩ := HR.out.open hlt
      obtain ⟨r1, k1⟩ := HR.out.text hlt ⟨#[63]⟩
      obtain ⟨-, ⟨z', ck'⟩, -, fk', -⟩ := r1.open hlt
      obtain ⟨r2, k2⟩ := r1.kind hlt 99
      obtain ⟨l0', l1', l2'⟩ := (tb.keeps k1 (fun e => by have := (DJ.out e.1).1.2.2.1; omega)).cells
      have R2 := Lib.hid r2
      have K2 := Lib.hid ((HK.out.trans k1).trans k2)
      clear r1 k1 r2 k2 tb
      go_wp2
      go_roundw
      case rel => exact ⟨j + 1, by omega, by go_num, R2, K2⟩
      case measure => simp [intOf]; omega
    · obtain rfl : j = a.kids.length := by omega
      have TC' := Lib.hid (TC.out.box.keeps HK.out (fun e => (DJ.out e.1).1.2.2.2 e.2.symm))
      have RX' := Lib.hid (RX.out.keeps HK.out (fun h e => (DJ.out h).2.2.2.2.2 e.2.symm))
      have TB' := Lib.hid tb
      have B14 := Lib.hid (B13.out.trans (HK.out.below LW.out (fun b hb => by rw [hb.2]; exact (DJ.out hb.1).1.1)))
      have LW' : Hid (W1.heap.size ≤ wr.heap.size) := Lib.hid B14.out.size
      clear TC RX TB tb HK HR B13 LW RM3 hj hlt
      go_wp2
      clear LW'
      go_loopw [8] (fun i wx => ∃ j : Nat, j ≤ a.kids.length ∧ i = .int .i64 j ∧ Hid (RowC wx px bx ox a.kids.length) ∧ Hid (Keeps (fun d => 0 < a.kids.length ∧ d = bx) wr wx)) (fun i _ => a.kids.length - (intOf i).toNat)
      case atStart => exact ⟨0, Nat.zero_le _, rfl, RX', Lib.hid (Keeps.refl _ _)⟩
      case round =>
        obtain ⟨j, hj, rfl, HR, HK⟩ := hrel
        have tb := TC'.out.keeps HK.out (fun e => (DJ.out e.1).2.2.2.2.1 e.2.symm)
        obtain ⟨l0, l1, l2⟩ := tb.cells
        by_cases hlt : j < a.kids.length
        · obtain ⟨rfl, ⟨z, ck⟩, -, fk, -⟩ := HR.out.open hlt
          obtain ⟨r2, k2⟩ := HR.out.kind hlt 98
          have R2 := Lib.hid r2
          have K2 := Lib.hid (HK.out.trans k2)
          clear r2 k2 tb
          go_wp2
          go_roundw
          case rel => exact ⟨j + 1, by omega, by go_num, R2, K2⟩
          case measure => simp [intOf]; omega
        · obtain rfl : j = a.kids.length := by omega
          have B15 := Lib.hid (B14.out.trans (HK.out.below B14.out.size (fun b hb => by rw [hb.2]; exact (DJ.out hb.1).2.1)))
          have TB5 := TB'.out.keeps HK.out (fun e => (DJ.out e.1).2.2.2.1 e.2.symm)
          have TA5 := T1.out.stays B15.out
          have BW := Lib.hid (B1.out.trans (B15.out.mono B1.out.size))
          have hT0 := HT.out.stays BW.out
          have h05 := H0.out.stays BW.out
          have hbel := Below.refl wr.heap.size wr
          have show1 : ∀ U, Below wr.heap.size wr U → ((U.cell? ⟨A, 0, none⟩ = some (.int .i64 a.kind) ∧ U.cell? ⟨A, 1, none⟩ = some (.string a.text) ∧ U.cell? ⟨A, 2, none⟩ = some (.slice pa a.kids.length ca)) ∧ U.cell? ⟨B, 2, none⟩ = some (.slice pm a.kids.length cm) ∧ Below wr.heap.size wr U) := fun U h => ⟨(TA5.box.stays h).cells, (TB5.stays h).cells.2.2, h⟩
          have q11 := fun U (h : Below wr.heap.size wr U) => known_calls U (hT0.stays h)
          have q9 := fun U (h : Below wr.heap.size wr U) => tree_told c v0 U (h05.stays h) a Ha.out
          have q20 : ∀ U p cu (_ : Below wr.heap.size wr U) (_ : ∃ S, KidsAt U S (.slice p a.kids.length cu) a.kids), Calls Tryd.prog 20 #[.agg #[.int .i64 a.kind, .string a.text, .slice pa a.kids.length ca], .agg #[.int .i64 a.kind, .string a.text, .slice p a.kids.length cu]] U fun e w' => e = .returned (.bool true) ∧ Below U.heap.size U w' := fun U p cu h ⟨S, hk⟩ => by
            have := nsame_ok a a _ _ U _ _ (TA5.kids.stays h) hk
            rwa [(eqN_iff _ _).2 rfl] at this
          have SHOW := Lib.hid show1
          have Q11 := Lib.hid q11
          have Q9 := Lib.hid q9
          have Q20 := Lib.hid q20
          have HBel := Lib.hid hbel
          clear show1 q11 q9 q20 hbel hT0 h05 tb HR TA5 TB5 hj hlt OA T1 TC' RX' TB' HK Ha H0 HT
          go_wp2
          go_region_held3 (fun w' => ((w'.cell? ⟨A, 0, none⟩ = some (.int .i64 a.kind) ∧ w'.cell? ⟨A, 1, none⟩ = some (.string a.text) ∧ w'.cell? ⟨A, 2, none⟩ = some (.slice pa a.kids.length ca)) ∧ w'.cell? ⟨B, 2, none⟩ = some (.slice pm a.kids.length cm) ∧ Below wr.heap.size wr w')) (first | exact SHOW.out _ HBel.out.drew | assumption | (refine SHOW.out _ ?_; assumption))
            (first
              | (go_at_call 11; with_reducible refine (Q11.out _ (And.right (And.right (by assumption)))).mono ?_; rintro _ U ⟨rfl, bu⟩; have bb := Below.trans (And.right (And.right (by assumption))) (bu.mono (Below.size (And.right (And.right (by assumption))))); clear bu)
              | (go_at_call 9; with_reducible refine (Q9.out _ (And.right (And.right (by assumption)))).mono ?_; rintro _ U ⟨p, cu, rfl, ku, bu⟩; have bb := Below.trans (And.right (And.right (by assumption))) (bu.out.mono (Below.size (And.right (And.right (by assumption))))); clear bu; have kx : ∃ S, KidsAt U S (.slice p a.kids.length cu) a.kids := ⟨_, ku.out⟩; clear ku)
              | (go_at_call 20; with_reducible refine (Q20.out _ _ _ (And.right (And.right (by assumption))) (by assumption)).mono ?_; rintro _ U ⟨rfl, bu⟩; have bb := Below.trans (And.right (And.right (by assumption))) (bu.mono (Below.size (And.right (And.right (by assumption))))); clear bu))
          go_wp2
          go_ret
          exact ⟨rfl, BW.out.trans (Below.mono (show Below wr.heap.size wr _ by assumption) BW.out.size)⟩
end Go.Proofs.YtigpffbhkopjeaaDoor
