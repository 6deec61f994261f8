/- What NodeAsks asks of one tree, and of two. Its condition: how the trees and the tables of signs lie in memory; kinds that are ints; a weight of at most 10^6. -/
import Derived.Test.YtigpffbhkopjeaaDoorNd33
import Derived.Deep.Cut
import Derived.Deep.RegionHeld3
namespace Go.Proofs.YtigpffbhkopjeaaDoor
open Go.RowKit Go.Sub Go.Sort

set_option maxRecDepth 100000 in
set_option maxHeartbeats 4000000 in
theorem asks_calls (n : NodeT) (u : Value) (w : World) (S : Nat → Prop) (hu : KidsAt w S u n.kids) (hw : WideN n) (hn : weightN n ≤ 1000000) (hT : Tabs w) :
    Calls Tryd.prog 23 #[nodeV n u] w fun e w' => e = .returned (.bool true) ∧ Below w.heap.size w w' := by
  obtain ⟨pu, cu, rfl, lu⟩ := hu.shape
  have hal := (Below.refl w.heap.size w).alloc (Nat.le_refl _) (.cells #[.int .i64 n.kind, .string n.text, .slice pu n.kids.length cu] 25)
  have hbn := nbox_new w 25 n.kind n.text (.slice pu n.kids.length cu)
  have hcn : countN n ≤ 1000000 := by have := countL_le_weight [n]; simp only [countL, weightL] at this; omega
  have hu1 := hu.stays hal
  have hT1 := hT.stays hal
  unfold nodeV
  go_enter Tryd.func23, Tryd.ntmps23
  go_upto_region 1 with (fail)
  generalize w.alloc (.cells #[.int .i64 n.kind, .string n.text, .slice pu n.kids.length cu] 25) = W1 at *
  generalize hAA : w.heap.size = A at *
  obtain ⟨c0, c1, c2⟩ := hbn.cells
  have pc := paths_told n _ W1 _ hu1 (by omega)
  unfold nodeV at pc
  have PC := Lib.hid pc
  have HU1 := Lib.hid hu1
  have HT1 := Lib.hid hT1
  have HA := Lib.hid hal
  have HBN := Lib.hid hbn
  have HW := Lib.hid hw
  clear pc hu hu1 hT1 hT hal hbn hw
  go_upto_region 2 with (go_at_call 16; refine PC.out.mono ?_; rintro _ W2 ⟨v, rfl, hp, bb⟩; obtain ⟨g, cv, rfl⟩ := hp.shape; have HP := Lib.hid hp; have BB := Lib.hid bb; clear hp bb)
  obtain ⟨c0, c1, c2⟩ := (HBN.out.stays BB.out).cells
  have rc := rpaths_calls n _ W2 _ (HU1.out.stays BB.out) (by omega)
  unfold nodeV at rc
  have RC := Lib.hid rc
  clear rc PC
  go_upto_region 3 with (go_at_call 22; refine RC.out.mono ?_; rintro _ W3 ⟨v, us, rfl, hp, bb⟩; have hq := hp.told; obtain ⟨g2, cv2, rfl⟩ := hq.shape; have HQ := Lib.hid hq; have BR := Lib.hid bb; clear hp hq bb)
  have hb3 := BB.out.trans (BR.out.mono BB.out.size)
  obtain ⟨c0, c1, c2⟩ := (HBN.out.stays hb3).cells
  have hu3 := HU1.out.stays hb3
  have hT3 := HT1.out.stays hb3
  have hp3 := HP.out.stays BR.out
  obtain ⟨d, hd⟩ : ∃ d, d = deepN n := ⟨_, rfl⟩
  obtain ⟨k, hk⟩ : ∃ k, k = countN n := ⟨_, rfl⟩
  obtain ⟨s, hs⟩ : ∃ s : ByteArray, s = ⟨(showN quoteL n).toArray⟩ := ⟨_, rfl⟩
  have hdl : deepN n ≤ 1000000 := Nat.le_trans (deep_le_count n) hcn
  have q13 : ∀ U (_ : Below W3.heap.size W3 U), Calls Tryd.prog 13 #[.agg #[.int .i64 n.kind, .string n.text, .slice pu n.kids.length cu]] U fun e w' => e = .returned (.int .i64 (d : Int)) ∧ Below U.heap.size U w' := fun U h => by
    have := ndeep_calls n _ U _ (hu3.stays h) (by omega)
    rwa [← hd] at this
  have r13 : ∀ U (_ : Below W3.heap.size W3 U), Calls Tryd.prog 40 #[.agg #[.int .i64 n.kind, .string n.text, .slice pu n.kids.length cu]] U fun e w' => e = .returned (.int .i64 (d : Int)) ∧ Below U.heap.size U w' := fun U h => by
    have := rdeep_calls n _ U _ (hu3.stays h) (by omega)
    rwa [← hd] at this
  have q12 : ∀ U (_ : Below W3.heap.size W3 U), Calls Tryd.prog 12 #[.agg #[.int .i64 n.kind, .string n.text, .slice pu n.kids.length cu]] U fun e w' => e = .returned (.int .i64 (k : Int)) ∧ Below U.heap.size U w' := fun U h => by
    have := ncount_calls n _ U _ (hu3.stays h) (by omega)
    rwa [← hk] at this
  have r12 : ∀ U (_ : Below W3.heap.size W3 U), Calls Tryd.prog 41 #[.agg #[.int .i64 n.kind, .string n.text, .slice pu n.kids.length cu]] U fun e w' => e = .returned (.int .i64 (k : Int)) ∧ Below U.heap.size U w' := fun U h => by
    have := rcount_calls n _ U _ (hu3.stays h) (by omega)
    rwa [← hk] at this
  have q10 : ∀ U (_ : Below W3.heap.size W3 U), Calls Tryd.prog 10 #[.agg #[.int .i64 n.kind, .string n.text, .slice pu n.kids.length cu]] U fun e w' => e = .returned (.string s) ∧ Below U.heap.size U w' := fun U h => hs ▸ nshow_calls n _ U _ (hu3.stays h) HW.out (by omega) (hT3.stays h)
  have r10 : ∀ U (_ : Below W3.heap.size W3 U), Calls Tryd.prog 42 #[.agg #[.int .i64 n.kind, .string n.text, .slice pu n.kids.length cu]] U fun e w' => e = .returned (.string s) ∧ Below U.heap.size U w' := fun U h => hs ▸ rshow_calls n _ U _ (hu3.stays h) HW.out (by omega) (hT3.stays h)
  have q15 : ∀ U (_ : Below W3.heap.size W3 U), Calls Tryd.prog 15 #[.agg #[.int .i64 n.kind, .string n.text, .slice pu n.kids.length cu]] U fun e w' => ∃ pu cu, e = .returned (.agg #[.int .i64 n.kind, .string n.text, .slice pu n.kids.length cu]) ∧ Hid (KidsAt w' (fun _ => True) (.slice pu n.kids.length cu) n.kids) ∧ Hid (Below U.heap.size U w') := fun U h => by
    refine (copy_calls n _ U _ (hu3.stays h) (by omega)).mono ?_
    rintro _ V ⟨u, rfl, ku, bu⟩
    obtain ⟨pu, cu, rfl, _⟩ := ku.at.shape
    exact ⟨pu, cu, rfl, Lib.hid (ku.at.mono fun _ _ => trivial), Lib.hid bu⟩
  have q14 : ∀ U p5 c5 (_ : Below W3.heap.size W3 U) (_ : Hid (KidsAt U (fun _ => True) (.slice p5 n.kids.length c5) n.kids)), Calls Tryd.prog 14 #[.agg #[.int .i64 n.kind, .string n.text, .slice p5 n.kids.length c5], .agg #[.int .i64 n.kind, .string n.text, .slice pu n.kids.length cu]] U fun e w' => e = .returned (.bool true) ∧ Below U.heap.size U w' := fun U p5 c5 h hk => by
    have := same_calls n n _ _ U _ _ hk.out (hu3.stays h)
    rwa [(eqN_iff _ _).2 rfl] at this
  have hbel := Below.refl W3.heap.size W3
  have show1 : ∀ U, Below W3.heap.size W3 U → (U.cell? ⟨A, 0, none⟩ = some (.int .i64 n.kind) ∧ U.cell? ⟨A, 1, none⟩ = some (.string n.text) ∧ U.cell? ⟨A, 2, none⟩ = some (.slice pu n.kids.length cu)) ∧ Below W3.heap.size W3 U := fun U h => ⟨((HBN.out.stays hb3).stays h).cells, h⟩
  have SHOW := Lib.hid show1
  have HBel := Lib.hid hbel
  have Q10 := Lib.hid q10
  have R10 := Lib.hid r10
  have Q12 := Lib.hid q12
  have R12 := Lib.hid r12
  have Q13 := Lib.hid q13
  have R13 := Lib.hid r13
  have Q14 := Lib.hid q14
  have Q15 := Lib.hid q15
  have HB3 : Hid (Below A w W3) := Lib.hid (HA.out.trans (hb3.mono (by have := HA.out.size; omega)))
  have HAA := Lib.hid hAA
  have HZ3 : Hid (A ≤ W3.heap.size) := Lib.hid (by have := HB3.out.size; omega)
  have hP3 := Lib.hid hp3
  have hpl : (pathsN n).length ≤ 1000000 := by rw [paths_length]; exact hcn
  have z0 : (0 : Int) ≤ ((pathsN n).length : Int) := by omega
  clear q10 r10 q12 r12 q13 r13 q14 q15 show1 hbel hb3 hu3 hT3 hp3 hs hk hd hdl hcn RC HU1 HT1 HBN HW
  go_upto_region 3 with (fail)
  go_region_held3 (fun w' => (w'.cell? ⟨A, 0, none⟩ = some (.int .i64 n.kind) ∧ w'.cell? ⟨A, 1, none⟩ = some (.string n.text) ∧ w'.cell? ⟨A, 2, none⟩ = some (.slice pu n.kids.length cu)) ∧ Below W3.heap.size W3 w') (first | exact SHOW.out _ HBel.out.drew | assumption | (refine SHOW.out _ ?_; assumption)) 
    (first 
      | (go_at_call 13; with_reducible refine (Q13.out _ (And.right (by assumption))).mono ?_; rintro _ U ⟨rfl, bu⟩; have bb := Below.trans (And.right (by assumption)) (bu.mono (Below.size (And.right (by assumption)))); clear bu) 
      | (go_at_call 40; with_reducible refine (R13.out _ (And.right (by assumption))).mono ?_; rintro _ U ⟨rfl, bu⟩; have bb := Below.trans (And.right (by assumption)) (bu.mono (Below.size (And.right (by assumption)))); clear bu) 
      | (go_at_call 12; with_reducible refine (Q12.out _ (And.right (by assumption))).mono ?_; rintro _ U ⟨rfl, bu⟩; have bb := Below.trans (And.right (by assumption)) (bu.mono (Below.size (And.right (by assumption)))); clear bu) 
      | (go_at_call 41; with_reducible refine (R12.out _ (And.right (by assumption))).mono ?_; rintro _ U ⟨rfl, bu⟩; have bb := Below.trans (And.right (by assumption)) (bu.mono (Below.size (And.right (by assumption)))); clear bu) 
      | (go_at_call 10; with_reducible refine (Q10.out _ (And.right (by assumption))).mono ?_; rintro _ U ⟨rfl, bu⟩; have bb := Below.trans (And.right (by assumption)) (bu.mono (Below.size (And.right (by assumption)))); clear bu) 
      | (go_at_call 42; with_reducible refine (R10.out _ (And.right (by assumption))).mono ?_; rintro _ U ⟨rfl, bu⟩; have bb := Below.trans (And.right (by assumption)) (bu.mono (Below.size (And.right (by assumption)))); clear bu) 
      | (go_at_call 15; with_reducible refine (Q15.out _ (And.right (by assumption))).mono ?_; rintro _ U ⟨p5, c5, rfl, ku, bu⟩; have bb := Below.trans (And.right (by assumption)) (Below.mono bu.out (Below.size (And.right (by assumption)))); clear bu) 
      | (go_at_call 14; with_reducible refine (Q14.out _ _ _ (And.right (by assumption)) (by assumption)).mono ?_; rintro _ U ⟨rfl, bu⟩; have bb := Below.trans (And.right (by assumption)) (bu.mono (Below.size (And.right (by assumption)))); clear bu))
  go_wp2
  have hpath : ∀ (W : World), Below W3.heap.size W3 W → ∀ (i : Nat) p, (pathsN n)[i]? = some p → ∃ q1 c1 q2 c2, W.cell? ⟨g, i, none⟩ = some (.slice q1 p.length c1) ∧ IntsAt W (fun _ => True) (.slice q1 p.length c1) (zs p) ∧ W.cell? ⟨g2, i, none⟩ = some (.slice q2 p.length c2) ∧ IntsAt W (fun _ => True) (.slice q2 p.length c2) (zs p) := fun W hW i p hp => by
    obtain ⟨q1, e1, h1, h2⟩ := (hP3.out.stays hW).at hp
    obtain ⟨q2, e2, h3, h4⟩ := (HQ.out.stays hW).at hp
    exact ⟨q1, e1, q2, e2, h1, h2, h3, h4⟩
  have HPA := Lib.hid hpath
  have hp4 : Below W3.heap.size W3 _ := And.right (by assumption)
  have HB4 := Lib.hid hp4
  clear hpath hP3 HP HQ hp4 SHOW HBel Q10 R10 Q12 R12 Q13 R13 Q14 Q15
  go_loopw [5] (fun i wr => ∃ j : Nat, j ≤ (pathsN n).length ∧ i = .int .i64 j ∧ Hid (Below W3.heap.size W3 wr)) (fun i _ => (pathsN n).length - (intOf i).toNat)
  case atStart => exact ⟨0, Nat.zero_le _, rfl, HB4⟩
  case round =>
    obtain ⟨j, hj, rfl, HR⟩ := hrel
    by_cases hlt : j < (pathsN n).length
    · have HLT := Lib.hid hlt
      have hx := List.getElem?_eq_getElem hlt
      obtain ⟨q1, e1, q2, e2, x1, -, x2, -⟩ := HPA.out _ HR.out j _ hx
      have HX := Lib.hid hx
      have hpl2 := path_len hx
      rw [← paths_length] at hpl2
      generalize (pathsN n)[j] = p at *
      have y1 : (0 : Int) ≤ (p.length : Int) := by omega
      have hdr : ∀ (W : World) (k : Nat), Below W3.heap.size W3 W → Below W3.heap.size W3 (W.drewN k) := fun W k h => h.trans ⟨rfl, rfl, rfl, Nat.le_refl _, fun _ _ => rfl⟩
      have HDR := Lib.hid hdr
      clear hx hdr
      go_wp2
      go_quiet (fail)
      go_wp2
      go_loopw [6] (fun i wx => ∃ k : Nat, k ≤ p.length ∧ i = .int .i64 k ∧ Hid (Below W3.heap.size W3 wx)) (fun i _ => p.length - (intOf i).toNat)
      case atStart => exact ⟨0, Nat.zero_le _, rfl, Lib.hid (HDR.out _ _ HR.out)⟩
      case round =>
        obtain ⟨k, hk, rfl, HR⟩ := hrel
        obtain ⟨q1, e1, q2, e2, x1, i1, x2, i2⟩ := HPA.out _ HR.out j _ HX.out
        by_cases hlk : k < p.length
        · have hz : (zs p)[k]? = some (p[k] : Int) := by unfold zs; rw [List.getElem?_map, List.getElem?_eq_getElem hlk]; rfl
          obtain ⟨b1, o1, rfl, -, k1⟩ := i1.at hz
          obtain ⟨b2, o2, rfl, -, k2⟩ := i2.at hz
          generalize p[k] = z at *
          have HLK := Lib.hid hlk
          have HZ := Lib.hid hz
          clear hz i1 i2
          go_wp2
          go_quiet (fail)
          go_wp2
          go_roundw
          case rel => exact ⟨k + 1, HLK.out, by go_num, Lib.hid (HDR.out _ _ HR.out)⟩
          case measure => simp [intOf]; have := HLK.out; omega
        · obtain rfl : k = p.length := by omega
          clear i1 i2
          go_wp2
          go_roundw
          case rel => exact ⟨j + 1, HLT.out, by go_num, HR⟩
          case measure => simp [intOf]; have := HLT.out; omega
    · obtain rfl : j = (pathsN n).length := by omega
      go_wp2
      go_ret
      exact ⟨rfl, HB3.out.trans (HR.out.mono HZ3.out)⟩
end Go.Proofs.YtigpffbhkopjeaaDoor
