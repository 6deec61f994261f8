/- How many nodes, how deep, and what is left of a weight: the document's answer and the law's. Its condition: how the tree lies in memory; fewer than 2^62 nodes. -/
import Derived.Test.YtigpffbhkopjeaaDoorNd4
namespace Go.Proofs.YtigpffbhkopjeaaDoor
open Go.RowKit Go.Sub Go.Sort

set_option maxRecDepth 100000 in
set_option maxHeartbeats 1000000 in
theorem rcount_calls : ∀ (n : NodeT) (u : Value) (w : World) (S : Nat → Prop), KidsAt w S u n.kids → countN n ≤ 4611686018427387904 →
    Calls Tryd.prog 41 #[nodeV n u] w fun e w' => e = .returned (.int .i64 (countN n : Int)) ∧ Below w.heap.size w w' := by
  refine NodeT.ind fun n ih => ?_
  intro u w S hu hn
  obtain ⟨pu, cu, rfl, lu⟩ := hu.shape 
  obtain ⟨k, t, l⟩ := n 
  have IH := Lib.hid ih 
  unfold nodeV 
  simp only [NodeT.kind_mk, NodeT.text_mk, NodeT.kids_mk] at * 
  obtain ⟨x1, x2, x3⟩ := box_new w k t (.slice pu l.length cu) 25 
  have HU := Lib.hid (hu.stays x2) 
  have HB := Lib.hid x2 
  have X1 := Lib.hid x1 
  clear ih hu x1 x2 x3
  rw [countN] at hn ⊢
  go_enter Tryd.func41, Tryd.ntmps41
  go_wp2
  generalize w.alloc (.cells #[.int .i64 k, .string t, .slice pu l.length cu] 25) = W1 at *
  go_loopw [3, 4] (fun c i wr => ∃ j : Nat, j ≤ l.length ∧ i = .int .i64 j ∧ c = .int .i64 (1 + (countL (l.take j) : Int)) ∧ Hid (Below W1.heap.size W1 wr)) (fun _ i _ => l.length - (intOf i).toNat)
  case atStart => exact ⟨0, Nat.zero_le _, rfl, rfl, Lib.hid (Below.refl _ _)⟩
  case round =>
    obtain ⟨j, hj, rfl, rfl, HW⟩ := hrel
    obtain ⟨-, -, xc⟩ := (X1.out.stays HW.out).zero
    by_cases hlt : j < l.length
    · have hx := List.getElem?_eq_getElem hlt 
      obtain ⟨b, o, ux, rfl, -, a1, ax⟩ := HU.out.kid hx 
      obtain ⟨c0, c1, c2⟩ := a1.stays HW.out
      have hs := countL_take l j hx
      have hle : countL (l.take (j + 1)) ≤ countL l := by
        have := countL_append (l.take (j + 1)) (l.drop (j + 1)); rw [List.take_append_drop] at this; omega
      have hcall := IH.out (l[j]) (List.getElem_mem hlt) ux wr S (ax.stays HW.out) (by omega)
      generalize l[j] = x at *
      unfold nodeV at hcall
      have Hc := Lib.hid hcall
      have y1 : (0 : Int) ≤ (countN x : Int) := by omega
      have y2 : 1 + (countL (l.take j) : Int) + (countN x : Int) ≤ 4611686018427387904 := by omega
      have y3 : (0 : Int) ≤ (countL (l.take j) : Int) := by omega
      clear hcall hx ax a1 hle hn
      generalize countN x = cx at *
      generalize countL (l.take j) = cj at *
      have Hs := Lib.hid hs
      clear hs
      go_wp2_with (go_at_call 41; refine (Hc.out).mono ?_; rintro e w2 ⟨rfl, hb⟩; have HW2 := Lib.hid (HW.out.trans (hb.mono HW.out.size)); clear hb)
      go_roundw
      case rel => exact ⟨j + 1, by omega, by go_num, by have := Hs.out; rw [show (1 + (countL (l.take (j + 1)) : Int)) = 1 + (cj : Int) + (cx : Int) by omega], HW2⟩
      case measure => simp [intOf]; omega
    · obtain rfl : j = l.length := by omega
      have hl : countL (l.take l.length) = countL l := by rw [List.take_length]
      have HL := Lib.hid hl
      clear hl
      go_wp2
      go_ret
      rw [HL.out]
      exact ⟨by simp, HB.out.trans (HW.out.mono HB.out.size)⟩
set_option maxRecDepth 100000 in
set_option maxHeartbeats 1000000 in
theorem rdeep_calls : ∀ (n : NodeT) (u : Value) (w : World) (S : Nat → Prop), KidsAt w S u n.kids → deepN n ≤ 4611686018427387904 →
    Calls Tryd.prog 40 #[nodeV n u] w fun e w' => e = .returned (.int .i64 (deepN n : Int)) ∧ Below w.heap.size w w' := by
  refine NodeT.ind fun n ih => ?_
  intro u w S hu hn
  obtain ⟨pu, cu, rfl, lu⟩ := hu.shape 
  obtain ⟨k, t, l⟩ := n 
  have IH := Lib.hid ih 
  unfold nodeV 
  simp only [NodeT.kind_mk, NodeT.text_mk, NodeT.kids_mk] at * 
  obtain ⟨x1, x2, x3⟩ := box_new w k t (.slice pu l.length cu) 25 
  have HU := Lib.hid (hu.stays x2) 
  have HB := Lib.hid x2 
  have X1 := Lib.hid x1 
  clear ih hu x1 x2 x3
  rw [deepN] at hn ⊢
  go_enter Tryd.func40, Tryd.ntmps40
  go_wp2
  generalize w.alloc (.cells #[.int .i64 k, .string t, .slice pu l.length cu] 25) = W1 at *
  go_loopw [3, 4] (fun c i wr => ∃ j : Nat, j ≤ l.length ∧ i = .int .i64 j ∧ c = .int .i64 (deepL (l.take j) : Int) ∧ Hid (Below W1.heap.size W1 wr)) (fun _ i _ => l.length - (intOf i).toNat)
  case atStart => exact ⟨0, Nat.zero_le _, rfl, rfl, Lib.hid (Below.refl _ _)⟩
  case round =>
    obtain ⟨j, hj, rfl, rfl, HW⟩ := hrel
    obtain ⟨-, -, xc⟩ := (X1.out.stays HW.out).zero
    by_cases hlt : j < l.length
    · have hx := List.getElem?_eq_getElem hlt 
      obtain ⟨b, o, ux, rfl, -, a1, ax⟩ := HU.out.kid hx 
      obtain ⟨c0, c1, c2⟩ := a1.stays HW.out
      have hs := deepL_take l j hx
      have hle : deepL (l.take (j + 1)) ≤ deepL l := deepL_take_le l (j + 1)
      have hcall := IH.out (l[j]) (List.getElem_mem hlt) ux wr S (ax.stays HW.out) (by omega)
      generalize l[j] = x at *
      unfold nodeV at hcall
      have Hc := Lib.hid hcall
      have y1 : (0 : Int) ≤ (deepN x : Int) := by omega
      have y3 : (0 : Int) ≤ (deepL (l.take j) : Int) := by omega
      clear hcall hx ax a1 hle hn
      generalize deepN x = cx at *
      generalize deepL (l.take j) = cj at *
      have Hs := Lib.hid hs
      clear hs
      go_wp2_with (go_at_call 40; refine (Hc.out).mono ?_; rintro e w2 ⟨rfl, hb⟩; have HW2 := Lib.hid (HW.out.trans (hb.mono HW.out.size)); clear hb)
      go_roundw
      case rel => exact ⟨j + 1, by omega, by go_num, by have := Hs.out; rw [show (deepL (l.take (j + 1)) : Int) = if (cj : Int) < cx then (cx : Int) else cj by split <;> omega]; simp, HW2⟩
      case measure => simp [intOf]; omega
    · obtain rfl : j = l.length := by omega
      have hl : deepL (l.take l.length) = deepL l := by rw [List.take_length]
      have HL := Lib.hid hl
      have y3 : 1 + (deepL (l.take l.length) : Int) ≤ 4611686018427387904 := by rw [hl]; omega
      have y4 : (0 : Int) ≤ (deepL (l.take l.length) : Int) := by omega
      clear hl hn
      generalize deepL (l.take l.length) = dl at *
      go_wp2
      go_ret
      rw [← HL.out]
      exact ⟨by simp, HB.out.trans (HW.out.mono HB.out.size)⟩
set_option maxRecDepth 100000 in
set_option maxHeartbeats 1000000 in
theorem left_calls : ∀ (n : NodeT) (u : Value) (m : Int) (w : World) (S : Nat → Prop), KidsAt w S u n.kids → tmaxN n ≤ 140737488355328 → m ≤ 1000 → 0 ≤ m →
    Calls Tryd.prog 39 #[nodeV n u, .int .i64 m] w fun e w' => e = .returned (.int .i64 (leftN n m)) ∧ Below w.heap.size w w' := by
  refine NodeT.ind fun n ih => ?_
  intro u m w S hu ht hm hm0
  obtain ⟨pu, cu, rfl, lu⟩ := hu.shape 
  obtain ⟨k, t, l⟩ := n 
  have IH := Lib.hid ih 
  unfold nodeV 
  simp only [NodeT.kind_mk, NodeT.text_mk, NodeT.kids_mk] at * 
  obtain ⟨x1, x2, x3⟩ := box_new w k t (.slice pu l.length cu) 25 
  have HU := Lib.hid (hu.stays x2) 
  have HB := Lib.hid x2 
  have X1 := Lib.hid x1 
  clear ih hu x1 x2 x3
  rw [leftN]
  rw [tmaxN] at ht
  have hts : (t.size : Int) ≤ 140737488355328 := by omega
  have htl : tmaxL l ≤ 140737488355328 := by omega
  clear ht
  go_enter Tryd.func39, Tryd.ntmps39
  go_wp2
  generalize w.alloc (.cells #[.int .i64 k, .string t, .slice pu l.length cu] 25) = W1 at *
  have hm2 : m - (1 + (t.size : Int)) ≤ 1000 := by omega
  generalize hmm : m - (1 + (t.size : Int)) = m1 at *
  have HM := Lib.hid hmm
  clear hm hm0 hmm
  go_loopw [1, 5] (fun c i wr => ∃ j : Nat, j ≤ l.length ∧ i = .int .i64 j ∧ c = .int .i64 (leftL (l.take j) m1) ∧ Hid (Below W1.heap.size W1 wr)) (fun _ i _ => l.length - (intOf i).toNat)
  case atStart => exact ⟨0, Nat.zero_le _, rfl, by simp [leftL], Lib.hid (Below.refl _ _)⟩
  case round =>
    obtain ⟨j, hj, rfl, rfl, HW⟩ := hrel
    obtain ⟨-, -, xc⟩ := (X1.out.stays HW.out).zero
    have hlow := leftL_low (l.take j) m1
    by_cases hlt : j < l.length
    · by_cases h0 : 0 ≤ leftL (l.take j) m1
      · have hx := List.getElem?_eq_getElem hlt 
        obtain ⟨b, o, ux, rfl, -, a1, ax⟩ := HU.out.kid hx 
        obtain ⟨c0, c1, c2⟩ := a1.stays HW.out
        have hs := leftL_take l j hx m1 h0
        have hcall := IH.out (l[j]) (List.getElem_mem hlt) ux (leftL (l.take j) m1) wr S (ax.stays HW.out) (by have := tmaxL_mem (List.getElem_mem hlt); omega) (by omega) h0
        generalize l[j] = x at *
        unfold nodeV at hcall
        rw [← hs] at hcall
        have Hc := Lib.hid hcall
        clear hcall hx ax a1 hs hlow
        generalize leftL (l.take j) m1 = cj at *
        go_wp2_with (go_at_call 39; refine (Hc.out).mono ?_; rintro e w2 ⟨rfl, hb⟩; have HW2 := Lib.hid (HW.out.trans (hb.mono HW.out.size)); clear hb)
        go_roundw
        case rel => exact ⟨j + 1, by omega, by go_num, rfl, HW2⟩
        case measure => simp [intOf]; omega
      · have hs := leftL_stop l j m1 (by omega)
        have Hs := Lib.hid hs
        clear hs
        generalize leftL (l.take j) m1 = cj at *
        go_wp2
        go_ret
        rw [HM.out, Hs.out]
        exact ⟨rfl, HB.out.trans (HW.out.mono HB.out.size)⟩
    · obtain rfl : j = l.length := by omega
      have hl : leftL (l.take l.length) m1 = leftL l m1 := by rw [List.take_length]
      have HL := Lib.hid hl
      clear hl
      generalize leftL (l.take l.length) m1 = dl at *
      go_wp2
      go_ret
      rw [HM.out, ← HL.out]
      exact ⟨rfl, HB.out.trans (HW.out.mono HB.out.size)⟩
end Go.Proofs.YtigpffbhkopjeaaDoor
