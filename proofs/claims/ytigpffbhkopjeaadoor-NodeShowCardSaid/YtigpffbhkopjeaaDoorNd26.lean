/- NodeShow. Its condition: the lists lie in memory; the tables that Go's library reads. -/
import Derived.Test.YtigpffbhkopjeaaDoorNd25
import Derived.Deep.Cut
import Derived.Deep.RegionHeld3
namespace Go.Proofs.YtigpffbhkopjeaaDoor
open Go.RowKit Go.Sub Go.Sort

theorem longest_take {l : List (List Nat)} {j : Nat} {p : List Nat} (h : l[j]? = some p) : longest (l.take (j + 1)) = max (longest (l.take j)) p.length := by
  rw [List.take_add_one, h, longest_append]
  show max _ (longest [p]) = _
  rw [show longest [p] = p.length by simp [longest]]
set_option maxRecDepth 100000 in
set_option maxHeartbeats 2000000 in
theorem show_core (c d : List UInt8) (v0 v1 : Value) (w : World) (h0 : BytesRow w v0 c) (h1 : BytesRow w v1 d) (hT : Tabs w) :
    Calls Tryd.prog 6 #[v0, v1] w fun e w' => e = .returned (.bool true) ∧ Below w.heap.size w w' := by
  obtain ⟨a, ha⟩ : ∃ a, a = treeN c := ⟨_, rfl⟩
  obtain ⟨b, hb⟩ : ∃ b, b = treeN d := ⟨_, rfl⟩
  have oa : TreeOf a := ha ▸ treeOf c
  have ob : TreeOf b := hb ▸ treeOf d
  have Ha := Lib.hid ha
  have Hb := Lib.hid hb
  clear ha hb
  go_enter Tryd.func6, Tryd.ntmps6
  have tc := Lib.hid (tree_told c v0 w h0 a Ha.out) 
  go_upto_region 2 with (go_at_call 9; refine tc.out.mono ?_; rintro _ V1 ⟨pa, ca, rfl, ku, bl⟩) 
  obtain ⟨tb, bb, zz⟩ := treeBox_new ku.out bl.out 
  clear tc ku bl
  generalize V1.alloc (.cells #[.int .i64 a.kind, .string a.text, .slice pa a.kids.length ca] 25) = W1 at *
  generalize V1.heap.size = A at *
  have h1' := h1.stays bb
  have HT := Lib.hid (hT.stays bb)
  have B1 := Lib.hid bb
  have T1 := Lib.hid tb
  clear hT bb tb zz h0 h1
  have tc := Lib.hid (tree_told d v1 W1 h1' b Hb.out) 
  go_upto_region 3 with (go_at_call 9; refine tc.out.mono ?_; rintro _ V2 ⟨pb, cb, rfl, ku, bl⟩) 
  obtain ⟨tb, bb, zz⟩ := treeBox_new ku.out bl.out 
  clear tc ku bl
  generalize V2.alloc (.cells #[.int .i64 b.kind, .string b.text, .slice pb b.kids.length cb] 25) = W2 at *
  generalize V2.heap.size = B at *
  have T1' := T1.out.stays bb
  have HT' := HT.out.stays bb
  have B2 := B1.out.trans (bb.mono B1.out.size)
  clear zz h1' T1 HT B1 bb
  have pc := paths_told a _ W2 _ T1'.kids (by have := oa.count; omega)
  unfold nodeV at pc
  obtain ⟨n0, n1, n2⟩ := T1'.box.cells
  have PC := Lib.hid pc
  have T1 := Lib.hid T1'
  have T2 := Lib.hid tb
  have HT := Lib.hid HT'
  have B1 := Lib.hid B2
  have OA := Lib.hid oa
  have OB := Lib.hid ob
  clear pc T1' tb HT' B2 oa ob
  go_upto_region 6 with (go_at_call 16; refine PC.out.mono ?_; rintro _ W3 ⟨v, rfl, hp, bb⟩; obtain ⟨g, cv, rfl⟩ := hp.shape; have HP := Lib.hid hp; have BB := Lib.hid bb; clear hp bb)
  have z0 : (0 : Int) ≤ ((pathsN a).length : Int) := by omega
  have hpl : (pathsN a).length ≤ 32 := by rw [paths_length]; exact OA.out.count
  go_loopw [8, 9] (fun m i wr => ∃ j : Nat, j ≤ (pathsN a).length ∧ i = .int .i64 j ∧ m = .int .i64 (longest ((pathsN a).take j) : Int) ∧ wr = W3) (fun _ i _ => (pathsN a).length - (intOf i).toNat)
  case atStart => exact ⟨0, Nat.zero_le _, rfl, rfl, rfl⟩
  case round =>
    obtain ⟨j, hj, rfl, rfl, rfl⟩ := hrel
    by_cases hlt : j < (pathsN a).length
    · have hx := List.getElem?_eq_getElem hlt
      obtain ⟨q, qc, hcell, -⟩ := HP.out.at hx
      have hs := longest_take hx
      generalize (pathsN a)[j] = p at *
      have HS := Lib.hid hs
      clear hs hx
      generalize longest ((pathsN a).take j) = m at *
      generalize (pathsN a).length = N at *
      have y1 : (0 : Int) ≤ (p.length : Int) := by omega
      go_wp2
      go_roundw
      case rel => exact ⟨j + 1, by omega, by go_num, by rw [HS.out]; congr 1; omega, trivial⟩
      case measure => simp [intOf]; omega
    · obtain rfl : j = (pathsN a).length := by omega
      have hM : deepN a = longest ((pathsN a).take (pathsN a).length) + 1 := by rw [List.take_length, deep_paths]
      have hM2 : longest ((pathsN a).take (pathsN a).length) ≤ 32 := by have := deep_le_count a; have := OA.out.count; omega
      have z1 : (0 : Int) ≤ (longest ((pathsN a).take (pathsN a).length) : Int) := by omega
      generalize longest ((pathsN a).take (pathsN a).length) = M at *
      have hT1 := T1.out.stays BB.out
      have hT2 := T2.out.stays BB.out
      have y3 : IntKind.i64.wrap ((M : Int) + 1) = (M : Int) + 1 := IntWalk.i64_in _ (by omega)
      obtain ⟨sa, hsa⟩ : ∃ s : ByteArray, s = ⟨(showN quoteL a).toArray⟩ := ⟨_, rfl⟩
      obtain ⟨sb, hsb⟩ : ∃ s : ByteArray, s = ⟨(showN quoteL b).toArray⟩ := ⟨_, rfl⟩
      have hss : (sa = sb) = (a = b) := by
        rw [hsa, hsb, ← show_same apart_texts OA.out.good OB.out.good]
        simp
      have hbel := Below.refl wr.heap.size wr
      have hT0 := HT.out.stays BB.out
      have q11 := fun U (h : Below wr.heap.size wr U) => known_calls U (hT0.stays h)
      have q10a : ∀ U (h : Below wr.heap.size wr U), Calls Tryd.prog 10 #[.agg #[.int .i64 a.kind, .string a.text, .slice pa a.kids.length ca]] U fun e w' => e = .returned (.string sa) ∧ Below U.heap.size U w' := fun U h => hsa ▸ nshow_calls a _ U _ (hT1.kids.stays h) OA.out.wide (by have := OA.out.weight; omega) (hT0.stays h)
      have q10b : ∀ U (h : Below wr.heap.size wr U), Calls Tryd.prog 10 #[.agg #[.int .i64 b.kind, .string b.text, .slice pb b.kids.length cb]] U fun e w' => e = .returned (.string sb) ∧ Below U.heap.size U w' := fun U h => hsb ▸ nshow_calls b _ U _ (hT2.kids.stays h) OB.out.wide (by have := OB.out.weight; omega) (hT0.stays h)
      have q20 : ∀ U (h : Below wr.heap.size wr U), Calls Tryd.prog 20 #[.agg #[.int .i64 a.kind, .string a.text, .slice pa a.kids.length ca], .agg #[.int .i64 b.kind, .string b.text, .slice pb b.kids.length cb]] U fun e w' => e = .returned (.bool (eqN a b)) ∧ Below U.heap.size U w' := fun U h => nsame_ok a b _ _ U _ _ (hT1.kids.stays h) (hT2.kids.stays h)
      have q12 : ∀ U (h : Below wr.heap.size wr U), Calls Tryd.prog 12 #[.agg #[.int .i64 a.kind, .string a.text, .slice pa a.kids.length ca]] U fun e w' => e = .returned (.int .i64 ((pathsN a).length : Int)) ∧ Below U.heap.size U w' := fun U h => by
        have := ncount_calls a _ U _ (hT1.kids.stays h) (by have := OA.out.count; omega)
        rwa [← paths_length] at this
      have q13 : ∀ U (h : Below wr.heap.size wr U), Calls Tryd.prog 13 #[.agg #[.int .i64 a.kind, .string a.text, .slice pa a.kids.length ca]] U fun e w' => e = .returned (.int .i64 ((M : Int) + 1)) ∧ Below U.heap.size U w' := fun U h => by
        have := ndeep_calls a _ U _ (hT1.kids.stays h) (by have := OA.out.count; omega)
        rwa [hM, show (((M + 1 : Nat)) : Int) = (M : Int) + 1 by omega] at this
      obtain ⟨m0, m1, m2⟩ := hT1.box.cells
      obtain ⟨k0, k1, k2⟩ := hT2.box.cells
      have show1 : ∀ U, Below wr.heap.size wr U → (U.cell? ⟨A, 0, none⟩ = some (.int .i64 a.kind) ∧ U.cell? ⟨A, 1, none⟩ = some (.string a.text) ∧ U.cell? ⟨A, 2, none⟩ = some (.slice pa a.kids.length ca)) ∧ (U.cell? ⟨B, 0, none⟩ = some (.int .i64 b.kind) ∧ U.cell? ⟨B, 1, none⟩ = some (.string b.text) ∧ U.cell? ⟨B, 2, none⟩ = some (.slice pb b.kids.length cb)) ∧ Below wr.heap.size wr U := fun U h => ⟨(hT1.box.stays h).cells, (hT2.box.stays h).cells, h⟩
      have SHOW := Lib.hid show1
      have Q11 := Lib.hid q11
      have Q12 := Lib.hid q12
      have Q13 := Lib.hid q13
      have Q10a := Lib.hid q10a
      have HBel := Lib.hid hbel
      clear show1 q11 q12 q13 q10a hbel hT0 hM hM2 hpl n0 n1 n2 OA OB hT1 hT2 T1 T2 Ha Hb HP PC hj hlt z0 hsa hsb HT
      by_cases hab : a = b
      · obtain rfl : sa = sb := hss ▸ hab
        have e := (eqN_iff a b).2 hab
        rw [e] at q20
        have Q20 := Lib.hid q20
        have Q10b := Lib.hid q10b
        clear q20 q10b hab e hss
        go_wp2
        go_region_held3 (fun w' => (w'.cell? ⟨A, 0, none⟩ = some (.int .i64 a.kind) ∧ w'.cell? ⟨A, 1, none⟩ = some (.string a.text) ∧ w'.cell? ⟨A, 2, none⟩ = some (.slice pa a.kids.length ca)) ∧ (w'.cell? ⟨B, 0, none⟩ = some (.int .i64 b.kind) ∧ w'.cell? ⟨B, 1, none⟩ = some (.string b.text) ∧ w'.cell? ⟨B, 2, none⟩ = some (.slice pb b.kids.length cb)) ∧ Below wr.heap.size wr w') (first | exact SHOW.out _ HBel.out.drew | assumption | (refine SHOW.out _ ?_; assumption)) 
          (first 
            | (go_at_call 11; with_reducible refine (Q11.out _ (And.right (And.right (by assumption)))).mono ?_; rintro _ U ⟨rfl, bu⟩; have bb := Below.trans (And.right (And.right (by assumption))) (bu.mono (Below.size (And.right (And.right (by assumption))))); clear bu) 
            | (go_at_call 10; with_reducible refine (Q10a.out _ (And.right (And.right (by assumption)))).mono ?_; rintro _ U ⟨rfl, bu⟩; have bb := Below.trans (And.right (And.right (by assumption))) (bu.mono (Below.size (And.right (And.right (by assumption))))); clear bu) 
            | (go_at_call 10; with_reducible refine (Q10b.out _ (And.right (And.right (by assumption)))).mono ?_; rintro _ U ⟨rfl, bu⟩; have bb := Below.trans (And.right (And.right (by assumption))) (bu.mono (Below.size (And.right (And.right (by assumption))))); clear bu) 
            | (go_at_call 20; with_reducible refine (Q20.out _ (And.right (And.right (by assumption)))).mono ?_; rintro _ U ⟨rfl, bu⟩; have bb := Below.trans (And.right (And.right (by assumption))) (bu.mono (Below.size (And.right (And.right (by assumption))))); clear bu) 
            | (go_at_call 12; with_reducible refine (Q12.out _ (And.right (And.right (by assumption)))).mono ?_; rintro _ U ⟨rfl, bu⟩; have bb := Below.trans (And.right (And.right (by assumption))) (bu.mono (Below.size (And.right (And.right (by assumption))))); clear bu) 
            | (go_at_call 13; with_reducible refine (Q13.out _ (And.right (And.right (by assumption)))).mono ?_; rintro _ U ⟨rfl, bu⟩; have bb := Below.trans (And.right (And.right (by assumption))) (bu.mono (Below.size (And.right (And.right (by assumption))))); clear bu))
        go_wp2
        go_ret
        exact ⟨rfl, B1.out.trans ((BB.out.trans ((show Below wr.heap.size wr _ by assumption).mono BB.out.size)).mono B1.out.size)⟩
      · have hne : sa ≠ sb := fun h => hab (hss ▸ h)
        have e := eqN_no hab
        rw [e] at q20
        have y1 : (sa.toList == sb.toList) = false := beq_eq_false_iff_ne.2 fun h => hne (bytes_eq h)
        have Q20 := Lib.hid q20
        have Q10b := Lib.hid q10b
        clear q20 q10b hab e hss
        go_wp2
        go_region_held3 (fun w' => (w'.cell? ⟨A, 0, none⟩ = some (.int .i64 a.kind) ∧ w'.cell? ⟨A, 1, none⟩ = some (.string a.text) ∧ w'.cell? ⟨A, 2, none⟩ = some (.slice pa a.kids.length ca)) ∧ (w'.cell? ⟨B, 0, none⟩ = some (.int .i64 b.kind) ∧ w'.cell? ⟨B, 1, none⟩ = some (.string b.text) ∧ w'.cell? ⟨B, 2, none⟩ = some (.slice pb b.kids.length cb)) ∧ Below wr.heap.size wr w') (first | exact SHOW.out _ HBel.out.drew | assumption | (refine SHOW.out _ ?_; assumption)) 
          (first 
            | (go_at_call 11; with_reducible refine (Q11.out _ (And.right (And.right (by assumption)))).mono ?_; rintro _ U ⟨rfl, bu⟩; have bb := Below.trans (And.right (And.right (by assumption))) (bu.mono (Below.size (And.right (And.right (by assumption))))); clear bu) 
            | (go_at_call 10; with_reducible refine (Q10a.out _ (And.right (And.right (by assumption)))).mono ?_; rintro _ U ⟨rfl, bu⟩; have bb := Below.trans (And.right (And.right (by assumption))) (bu.mono (Below.size (And.right (And.right (by assumption))))); clear bu) 
            | (go_at_call 10; with_reducible refine (Q10b.out _ (And.right (And.right (by assumption)))).mono ?_; rintro _ U ⟨rfl, bu⟩; have bb := Below.trans (And.right (And.right (by assumption))) (bu.mono (Below.size (And.right (And.right (by assumption))))); clear bu) 
            | (go_at_call 20; with_reducible refine (Q20.out _ (And.right (And.right (by assumption)))).mono ?_; rintro _ U ⟨rfl, bu⟩; have bb := Below.trans (And.right (And.right (by assumption))) (bu.mono (Below.size (And.right (And.right (by assumption))))); clear bu) 
            | (go_at_call 12; with_reducible refine (Q12.out _ (And.right (And.right (by assumption)))).mono ?_; rintro _ U ⟨rfl, bu⟩; have bb := Below.trans (And.right (And.right (by assumption))) (bu.mono (Below.size (And.right (And.right (by assumption))))); clear bu) 
            | (go_at_call 13; with_reducible refine (Q13.out _ (And.right (And.right (by assumption)))).mono ?_; rintro _ U ⟨rfl, bu⟩; have bb := Below.trans (And.right (And.right (by assumption))) (bu.mono (Below.size (And.right (And.right (by assumption))))); clear bu))
        go_wp2
        go_ret
        exact ⟨rfl, B1.out.trans ((BB.out.trans ((show Below wr.heap.size wr _ by assumption).mono BB.out.size)).mono B1.out.size)⟩
end Go.Proofs.YtigpffbhkopjeaaDoor
