/- Whether two trees are the same: the code. Its condition: how they lie in memory. -/
import Derived.Test.YtigpffbhkopjeaaDoorNd6
namespace Go.Proofs.YtigpffbhkopjeaaDoor
open Go.RowKit Go.Sub Go.Sort

def SameOk (n : NodeT) : Prop := ∀ (m : NodeT) (u v : Value) (w : World) (S S' : Nat → Prop), KidsAt w S u n.kids → KidsAt w S' v m.kids →
    Calls Tryd.prog 20 #[nodeV n u, nodeV m v] w fun e w' => e = .returned (.bool (eqN n m)) ∧ Below w.heap.size w w'
theorem eqL_no {l l' : List NodeT} (h : l ≠ l') : eqL l l' = false := by
  cases he : eqL l l'
  · rfl
  · exact absurd ((eqL_iff l l').1 he) h
set_option maxRecDepth 100000 in
set_option maxHeartbeats 1000000 in
theorem equal_calls (l l' : List NodeT) (hok : ∀ x ∈ l, SameOk x) (u v : Value) (w : World) (S S' : Nat → Prop) (hu : KidsAt w S u l) (hv : KidsAt w S' v l') :
    Calls Tryd.prog 38 #[u, v, .func (.func 20) #[] #[]] w fun e w' => e = .returned (.bool (eqL l l')) ∧ Below w.heap.size w w' := by
  obtain ⟨pu, cu, rfl, lu⟩ := hu.shape
  obtain ⟨pv, cv, rfl, lv⟩ := hv.shape
  have HU := Lib.hid hu
  have HV := Lib.hid hv
  have OK := Lib.hid hok
  clear hu hv hok
  by_cases hl : l.length = l'.length
  · have HL := Lib.hid hl
    have y0 : ((l.length : Int) != (l'.length : Int)) = false := by rw [bne_eq_false_iff_eq]; omega
    clear hl
    go_enter Tryd.func38, Tryd.ntmps38
    go_wp2
    clear y0
    go_loopw [17] (fun i wr => ∃ j : Nat, j ≤ l.length ∧ i = .int .i64 j ∧ Hid (l.take j = l'.take j) ∧ Hid (Below w.heap.size w wr)) (fun i _ => l.length - (intOf i).toNat)
    case atStart => exact ⟨0, Nat.zero_le _, rfl, Lib.hid rfl, Lib.hid (Below.refl _ _)⟩
    case round =>
      obtain ⟨j, hj, rfl, HE, HW⟩ := hrel
      by_cases hlt : j < l.length
      · have hlt' : j < l'.length := by have := HL.out; omega
        have hx := List.getElem?_eq_getElem hlt
        have hy := List.getElem?_eq_getElem hlt'
        obtain ⟨b, o, ux, rfl, -, a1, ax⟩ := HU.out.kid hx
        obtain ⟨b', o', uy, rfl, -, a2, ay⟩ := HV.out.kid hy
        obtain ⟨px, cx, rfl, lx⟩ := ax.shape
        obtain ⟨py, cy, rfl, ly⟩ := ay.shape
        obtain ⟨c0, c1, c2⟩ := a1.stays HW.out
        obtain ⟨d0, d1, d2⟩ := a2.stays HW.out
        have hcall := fun w2 (hb : Below wr.heap.size wr w2) => OK.out (l[j]) (List.getElem_mem hlt) (l'[j]) _ _ w2 S S' ((ax.stays HW.out).stays hb) ((ay.stays HW.out).stays hb)
        have hsnoc := fun e => list_take_eq HE.out hx hy e
        generalize l[j] = x at *
        generalize l'[j] = y at *
        unfold nodeV at hcall
        have hal := ((Below.refl wr.heap.size wr).alloc (Nat.le_refl _) (.cells #[.int .i64 x.kind, .string x.text, .slice px x.kids.length cx] 25)).alloc (by simp) (.cells #[.int .i64 y.kind, .string y.text, .slice py y.kids.length cy] 25)
        have Hc := Lib.hid (hcall _ hal)
        have Hal := Lib.hid hal
        obtain ⟨e0, e1, e2⟩ := (a2.stays HW.out).stays ((Below.refl wr.heap.size wr).alloc (Nat.le_refl _) (.cells #[.int .i64 x.kind, .string x.text, .slice px x.kids.length cx] 25))
        have Hx := Lib.hid hx
        have Hy := Lib.hid hy
        have Hs := Lib.hid hsnoc
        have hxy := (eqN_iff x y)
        have Hxy := Lib.hid hxy
        clear hcall hx hy hsnoc ax ay a1 a2 hal hxy
        generalize eqN x y = q at *
        cases q
        · have hne : l ≠ l' := fun e => by
            have e3 : x = y := by have := Hx.out; rw [e, Hy.out] at this; exact (Option.some.inj this).symm
            exact absurd (Hxy.out.2 e3) (by simp)
          have HN := Lib.hid (eqL_no hne)
          clear hne
          go_wp2_with (go_at_call 20; refine (Hc.out).mono ?_; rintro e w1 ⟨rfl, hb⟩; have HW2 := Lib.hid (HW.out.trans ((Hal.out.trans (hb.mono (by simp; omega))).mono HW.out.size)); clear hb HW)
          go_ret
          rw [HN.out]
          exact ⟨rfl, HW2.out⟩
        · have hs := Hs.out (Hxy.out.1 rfl)
          have HS := Lib.hid hs
          clear hs
          go_wp2_with (go_at_call 20; refine (Hc.out).mono ?_; rintro e w1 ⟨rfl, hb⟩; have HW2 := Lib.hid (HW.out.trans ((Hal.out.trans (hb.mono (by simp; omega))).mono HW.out.size)); clear hb HW)
          go_roundw
          case rel => exact ⟨j + 1, by omega, by go_num, HS, HW2⟩
          case measure => simp [intOf]; omega
      · have hll : l = l' := by
          have h1 := HE.out
          rw [List.take_of_length_le (by omega), List.take_of_length_le (by have := HL.out; omega)] at h1
          exact h1
        have HLL := Lib.hid hll
        clear hll
        go_wp2
        go_ret
        rw [(eqL_iff l l').2 HLL.out]
        exact ⟨rfl, HW.out⟩
  · rw [eqL_no (fun e => hl (by rw [e]))]
    have y0 : ((l.length : Int) != (l'.length : Int)) = true := by rw [bne_iff_ne]; omega
    go_enter Tryd.func38, Tryd.ntmps38
    go_wp2
    go_ret
    exact ⟨rfl, Below.refl _ _⟩
set_option maxRecDepth 100000 in
set_option maxHeartbeats 1000000 in
theorem nsame_ok : ∀ n : NodeT, SameOk n := by
  refine NodeT.ind fun n ih => ?_
  intro m u v w S S' hu hv
  obtain ⟨pu, cu, rfl, lu⟩ := hu.shape
  obtain ⟨pv, cv, rfl, lv⟩ := hv.shape
  obtain ⟨k, t, l⟩ := n
  obtain ⟨k', t', l'⟩ := m
  unfold nodeV
  simp only [NodeT.kind_mk, NodeT.text_mk, NodeT.kids_mk] at *
  have hB := ((Below.refl _ w).alloc (Nat.le_refl _) (.cells #[.int .i64 k, .string t, .slice pu l.length cu] 25)).alloc (by simp) (.cells #[.int .i64 k', .string t', .slice pv l'.length cv] 25)
  have HC := Lib.hid (equal_calls l l' ih _ _ _ S S' (hu.stays hB) (hv.stays hB))
  have HB := Lib.hid hB
  clear ih hu hv hB
  by_cases hk : k = k'
  · by_cases ht : t.toList = t'.toList
    · obtain rfl := bytes_eq ht
      subst hk
      have he : eqN (.mk k t l) (.mk k t l') = eqL l l' := by rw [eqN]; simp
      rw [he]
      clear he ht
      go_enter Tryd.func20, Tryd.ntmps20
      go_wp2_with (go_at_call 38; refine (HC.out).mono ?_; rintro e w1 ⟨rfl, hb⟩; have HW2 := Lib.hid (HB.out.trans (hb.mono HB.out.size)); clear hb)
      go_ret
      exact ⟨rfl, HW2.out⟩
    · have hne : NodeT.mk k t l ≠ NodeT.mk k' t' l' := fun e => ht (by injection e with _ e _; rw [e])
      rw [eqN_no hne]
      subst hk
      clear hne
      go_enter Tryd.func20, Tryd.ntmps20
      go_wp2
      all_goals go_ret
      all_goals exact ⟨rfl, HB.out⟩
  · have hne : NodeT.mk k t l ≠ NodeT.mk k' t' l' := fun e => hk (by injection e)
    rw [eqN_no hne]
    clear hne
    go_enter Tryd.func20, Tryd.ntmps20
    go_wp2
    all_goals go_ret
    all_goals exact ⟨rfl, HB.out⟩
end Go.Proofs.YtigpffbhkopjeaaDoor
