/- Whether two trees are the same: the document's answer. Its condition: how they lie in memory. -/
import Derived.Test.YtigpffbhkopjeaaDoorNd3
import Derived.Test.YtigpffbhkopjeaaDoorProg
import Derived.Lib.Hide
import Derived.Laws.Externs
import Derived.Deep.QuietTactic
import Derived.BigQuiet
import Derived.Lib.QuietBelow
import Derived.Lib.EndianBits
namespace Go.Proofs.YtigpffbhkopjeaaDoor
open Go.RowKit Go.Sub Go.Sort

set_option maxRecDepth 100000 in
set_option maxHeartbeats 1000000 in
theorem same_calls : ∀ (n m : NodeT) (u v : Value) (w : World) (S S' : Nat → Prop), KidsAt w S u n.kids → KidsAt w S' v m.kids →
    Calls Tryd.prog 14 #[nodeV n u, nodeV m v] w fun e w' => e = .returned (.bool (eqN n m)) ∧ Below w.heap.size w w' := by
  refine NodeT.ind fun n ih => ?_
  intro m u v w S S' hu hv
  obtain ⟨pu, cu, rfl, lu⟩ := hu.shape
  obtain ⟨pv, cv, rfl, lv⟩ := hv.shape
  obtain ⟨k, t, l⟩ := n
  obtain ⟨k', t', l'⟩ := m
  have IH := Lib.hid ih
  unfold nodeV
  simp only [NodeT.kind_mk, NodeT.text_mk, NodeT.kids_mk] at *
  obtain ⟨x1, x2, x3⟩ := box_new w k t (.slice pu l.length cu) 25
  obtain ⟨y1, y2, y3⟩ := box_new (w.alloc (.cells #[.int .i64 k, .string t, .slice pu l.length cu] 25)) k' t' (.slice pv l'.length cv) 25
  replace x1 := x1.stays y2
  have hB := x2.trans (y2.mono (by omega))
  rw [x3] at y1
  have HU := Lib.hid (hu.stays hB)
  have HV := Lib.hid (hv.stays hB)
  have HB := Lib.hid hB
  have X1 := Lib.hid x1
  have Y1 := Lib.hid y1
  clear ih hu hv x1 x2 x3 y1 y2 y3 hB
  by_cases hk : k = k'
  · by_cases ht : t.toList = t'.toList
    · by_cases hl : l.length = l'.length
      · obtain rfl := bytes_eq ht
        subst hk
        have HL := Lib.hid hl
        have y0 : ((l.length : Int) != (l'.length : Int)) = false := by rw [bne_eq_false_iff_eq]; omega
        clear hl ht
        go_enter Tryd.func14, Tryd.ntmps14
        go_wp2
        clear y0
        generalize (w.alloc (.cells #[.int .i64 k, .string t, .slice pu l.length cu] 25)).alloc (.cells #[.int .i64 k, .string t, .slice pv l'.length cv] 25) = W1 at *
        go_loopw [5] (fun i wr => ∃ j : Nat, j ≤ l.length ∧ i = .int .i64 j ∧ Hid (l.take j = l'.take j) ∧ Hid (Below W1.heap.size W1 wr)) (fun i _ => l.length - (intOf i).toNat)
        case atStart => exact ⟨0, Nat.zero_le _, rfl, Lib.hid rfl, Lib.hid (Below.refl _ _)⟩
        case round =>
          obtain ⟨j, hj, rfl, HE, HW⟩ := hrel
          obtain ⟨-, -, xc⟩ := (X1.out.stays HW.out).zero
          obtain ⟨-, -, yc⟩ := (Y1.out.stays HW.out).zero
          by_cases hlt : j < l.length
          · have hlt' : j < l'.length := by have := HL.out; omega
            have hx := List.getElem?_eq_getElem hlt
            have hy := List.getElem?_eq_getElem hlt'
            obtain ⟨b, o, ux, rfl, -, a1, ax⟩ := HU.out.kid hx
            obtain ⟨b', o', uy, rfl, -, a2, ay⟩ := HV.out.kid hy
            obtain ⟨c0, c1, c2⟩ := a1.stays HW.out
            obtain ⟨d0, d1, d2⟩ := a2.stays HW.out
            have hcall := fun d os => IH.out (l[j]) (List.getElem_mem hlt) (l'[j]) ux uy (grow (redrawn wr d) os) S S' ((ax.stays HW.out).stays (below_regrown wr d os)) ((ay.stays HW.out).stays (below_regrown wr d os))
            have hsnoc := fun e => list_take_eq HE.out hx hy e
            generalize l[j] = x at *
            generalize l'[j] = y at *
            unfold nodeV at hcall
            have Hc := Lib.hid hcall
            have Hx := Lib.hid hx
            have Hy := Lib.hid hy
            have Hs := Lib.hid hsnoc
            have Ha := Lib.hid ax
            have Hb := Lib.hid ay
            have gx := cell_regrown xc
            have gy := cell_regrown yc
            have e0 := cell_regrown c0
            have e1 := cell_regrown c1
            have e2 := cell_regrown c2
            have e3 := cell_regrown d0
            have e4 := cell_regrown d1
            have e5 := cell_regrown d2
            clear hcall hx hy hsnoc ax ay a1 a2
            go_wp2
            refine wp_region_quiet_below (by kernel_rfl) (by kernel_rfl) ?_
            repeat (quiet_step (exact Calls.regrown_of (Hc.out _ _)))
            refine wpQuiet_nil ?_
            rintro _ ⟨p, rfl⟩
            clear gx gy e0 e1 e2 e3 e4 e5 c0 c1 c2 d0 d1 d2 xc yc Hc
            have HW2 := Lib.hid (HW.out.trans ((below_regrown wr p.d p.os).mono HW.out.size))
            generalize grow (redrawn wr p.d) p.os = w2 at *
            clear HW
            cases hxy : eqN x y
            · have hne : NodeT.mk k t l ≠ NodeT.mk k t l' := fun e => by
                have e2 : l = l' := by injection e
                have e3 : x = y := by have := Hx.out; rw [e2, Hy.out] at this; exact (Option.some.inj this).symm
                rw [(eqN_iff x y).2 e3] at hxy; cases hxy
              go_wp2
              go_ret
              rw [eqN_no hne]
              exact ⟨rfl, HB.out.trans (HW2.out.mono HB.out.size)⟩
            · have hs := Hs.out ((eqN_iff x y).1 hxy)
              have HS := Lib.hid hs
              clear hs
              go_wp2
              go_roundw
              case rel => exact ⟨j + 1, by omega, by go_num, HS, HW2⟩
              case measure => simp [intOf]; omega
          · have hll : l = l' := by
              have h1 := HE.out
              rw [List.take_of_length_le (by omega), List.take_of_length_le (by have := HL.out; omega)] at h1
              exact h1
            have HLL := Lib.hid hll
            clear hll
            go_wp2
            go_ret
            rw [(eqN_iff (.mk k t l) (.mk k t l')).2 (by rw [HLL.out])]
            exact ⟨rfl, HB.out.trans (HW.out.mono HB.out.size)⟩
      · have hne : NodeT.mk k t l ≠ NodeT.mk k' t' l' := fun e => hl (by injection e with _ _ e; rw [e])
        rw [eqN_no hne]
        obtain rfl := bytes_eq ht
        subst hk
        have y0 : ((l.length : Int) != (l'.length : Int)) = true := by rw [bne_iff_ne]; omega
        clear hne hl ht
        go_enter Tryd.func14, Tryd.ntmps14
        go_wp2
        go_ret
        exact ⟨rfl, HB.out⟩
    · have hne : NodeT.mk k t l ≠ NodeT.mk k' t' l' := fun e => ht (by injection e with _ e _; rw [e])
      rw [eqN_no hne]
      subst hk
      clear hne
      go_enter Tryd.func14, Tryd.ntmps14
      go_wp2
      all_goals go_ret
      all_goals exact ⟨rfl, HB.out⟩
  · have hne : NodeT.mk k t l ≠ NodeT.mk k' t' l' := fun e => hk (by injection e)
    rw [eqN_no hne]
    clear hne
    go_enter Tryd.func14, Tryd.ntmps14
    go_wp2
    all_goals go_ret
    all_goals exact ⟨rfl, HB.out⟩
end Go.Proofs.YtigpffbhkopjeaaDoor
