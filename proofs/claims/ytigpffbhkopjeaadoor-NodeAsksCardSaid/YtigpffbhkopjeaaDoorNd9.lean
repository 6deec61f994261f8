/- How many nodes, and how deep: the code, whole. Its condition: how the tree lies in memory; at most 10^9 nodes. -/
import Derived.Test.YtigpffbhkopjeaaDoorNd8
namespace Go.Proofs.YtigpffbhkopjeaaDoor
open Go.RowKit Go.Sub Go.Sort

theorem sum_le_count (g : NodeT → Int) (h : ∀ n, 0 ≤ g n ∧ g n ≤ countN n) : ∀ l : List NodeT, sumZ (l.map g) ≤ countL l
  | [] => by simp [sumZ, countL]
  | x :: r => by
    have ih := sum_le_count g h r
    have := h x
    simp only [sumZ, List.map_cons, List.sum_cons, countL] at ih ⊢
    omega
theorem map_take_succ (g : NodeT → Int) {l : List NodeT} {j : Nat} {x : NodeT} (hx : l[j]? = some x) : intC ((l.take j).map g) ++ [.int .i64 (g x)] = intC ((l.take (j + 1)).map g) := by
  rw [List.take_add_one, hx]; simp [intC]
set_option maxRecDepth 100000 in
set_option maxHeartbeats 1000000 in
theorem fold_calls (J : FuncId) (hJ2 : J = 32 ∨ J = 33) (f : List Int → Int) (hJ : JoinOk J f) (g : NodeT → Int) (hg : ∀ n, g n = f (n.kids.map g)) (hb : ∀ n, 0 ≤ g n ∧ g n ≤ countN n) :
    ∀ (n : NodeT) (u : Value) (w : World) (S : Nat → Prop), KidsAt w S u n.kids → countN n ≤ 1000000000 →
    Calls Tryd.prog 31 #[nodeV n u, .func (.func J) #[] #[]] w fun e w' => e = .returned (.int .i64 (g n)) ∧ Below w.heap.size w w' := by
  refine NodeT.ind fun n ih => ?_
  intro u w S hu hn
  have hgn := hg n
  obtain ⟨pu, cu, rfl, lu⟩ := hu.shape 
  obtain ⟨k, t, l⟩ := n 
  have IH := Lib.hid ih 
  unfold nodeV 
  simp only [NodeT.kind_mk, NodeT.text_mk, NodeT.kids_mk] at * 
  obtain ⟨x1, x2, x3⟩ := box_new w k t (.slice pu l.length cu) 25 
  have HU := Lib.hid (hu.stays x2) 
  have HB := Lib.hid x2 
  have X1 := Lib.hid x1 
  clear ih hu x1 x2 x3
  rw [hgn]
  rw [countN] at hn
  have hlen := countL_le_length l
  obtain ⟨i0, hi, hz0, hz1, hz2⟩ := info_parts int_info
  have hlen2 : l.length ≤ 1000000000 := by omega
  have HG := Lib.hid hb
  have HJ := Lib.hid hJ
  clear hgn hg hb hJ
  rcases hJ2 with rfl | rfl
  all_goals
    go_enter Tryd.func31, Tryd.ntmps31
    go_wp2
    generalize w.alloc (.cells #[.int .i64 k, .string t, .slice pu l.length cu] 25) = W1 at *
    go_loopw [5, 11] (fun v i wr => ∃ j : Nat, j ≤ l.length ∧ i = .int .i64 j ∧ Hid (wr.ownsRow W1.heap.size 3 1 v j (intC ((l.take j).map g))) ∧ Hid (Below W1.heap.size W1 wr)) (fun _ i _ => l.length - (intOf i).toNat)
    case atStart => exact ⟨0, Nat.zero_le _, rfl, Lib.hid (World.ownsRow_nil _ _ _ _), Lib.hid (Below.refl _ _)⟩
    case round =>
      obtain ⟨j, hj, rfl, HO, HW⟩ := hrel
      by_cases hlt : j < l.length
      · have hx := List.getElem?_eq_getElem hlt 
        obtain ⟨b, o, ux, rfl, -, a1, ax⟩ := HU.out.kid hx 
        obtain ⟨c0, c1, c2⟩ := a1.stays HW.out 
        obtain ⟨px, cx, rfl, lx⟩ := ax.shape
        have hcx : countN l[j] ≤ countL l := countL_mem (List.getElem_mem hlt)
        have hcall := fun w2 (hb : Below wr.heap.size wr w2) => IH.out (l[j]) (List.getElem_mem hlt) _ w2 S ((ax.stays HW.out).stays hb) (by omega)
        have hsn := map_take_succ g hx
        generalize l[j] = x at *
        have hal := (Below.refl wr.heap.size wr).alloc (Nat.le_refl _) (.cells #[.int .i64 x.kind, .string x.text, .slice px x.kids.length cx] 25)
        have hc2 := hcall _ hal
        unfold nodeV at hc2
        have Hc := Lib.hid hc2
        have Hal := Lib.hid hal
        have HS := Lib.hid hsn
        obtain ⟨pv, cv, rfl, _⟩ := row_shape' HO.out
        clear hcall hx ax a1 hn hc2 hal hsn
        generalize g x = gx at *
        go_wp2_with (first
          | (go_at_call 31; refine (Hc.out).mono ?_; rintro e w1 ⟨rfl, hb1⟩; have HB1 := Lib.hid (Hal.out.trans (hb1.mono (by simp))); have HN1 := Lib.hid (new_cells w1 [.int .i64 gx] 3); have HO1 := Lib.hid (ownsRow_keeps HO.out (Keeps.of_below' (O := fun _ => False) (HB1.out.trans (((Below.refl _ w1).alloc (Nat.le_refl _) (.cells #[.int .i64 gx] 3)).mono HB1.out.size))) (fun _ _ h => h)); clear hb1)
          | (at_builtin; refine wpList_append_O _ rfl _ _ 37 rfl W1.heap.size 3 i0 _ 1 8 ints_und hi hz0 hz1 hz2 rfl (by decide) _ j _ rfl HO1.out ⟨w1.heap.size, 0, none⟩ 1 1 [.int .i64 gx] rfl rfl HN1.out (by intro u hu; simp at hu; subst hu; rfl) (by simp only [maxLen]; omega) (by omega) (by have := HB1.out.size; have := HW.out.size; simp; omega) ?_; intro v' w3 hown hkeep hblk _; rw [HS.out] at hown; have hst : Below W1.heap.size W1 w3 := (HW.out.trans ((HB1.out.trans (((Below.refl _ w1).alloc (Nat.le_refl _) (.cells #[.int .i64 gx] 3)).mono HB1.out.size)).mono HW.out.size)).trans (hkeep.below (by have := HB1.out.size; have := HW.out.size; simp; omega) fun b hb => (HO.out.lt b hb.symm).1); obtain ⟨g', cap', rfl⟩ := own_succ' hown; have HOWN := Lib.hid hown; have HST := Lib.hid hst; clear hown hkeep hblk hst))
        go_roundw
        case rel => exact ⟨j + 1, by omega, by go_num, HOWN, HST⟩
        case measure => simp [intOf]; omega
      · obtain rfl : j = l.length := by omega
        have hown := HO.out
        rw [List.take_length] at hown
        have hsum := sum_le_count g HG.out l
        obtain ⟨pv, cv, rfl, _⟩ := row_shape' HO.out
        have hc := HJ.out (l.map g) _ wr W1.heap.size (by rw [List.length_map]; exact hown) HW.out.size (fun x hx => by obtain ⟨y, _, rfl⟩ := List.mem_map.1 hx; exact (HG.out y).1) (by omega) (by rw [List.length_map]; exact hlen2)
        have HC := Lib.hid hc
        clear hown hsum hc hn
        generalize hfl : f (l.map g) = fl at *
        have HFL := Lib.hid hfl
        clear hfl
        go_wp2_with (first
          | (go_at_call 32; refine (HC.out).mono ?_; rintro e w1 ⟨rfl, hb⟩; have HB1 := Lib.hid hb; clear hb)
          | (go_at_call 33; refine (HC.out).mono ?_; rintro e w1 ⟨rfl, hb⟩; have HB1 := Lib.hid hb; clear hb))
        go_ret
        rw [HFL.out]
        exact ⟨rfl, HB.out.trans ((HW.out.trans HB1.out).mono HB.out.size)⟩
theorem count_eq (n : NodeT) : (countN n : Int) = 1 + sumZ (n.kids.map fun x => (countN x : Int)) := by
  have : ∀ l : List NodeT, (countL l : Int) = sumZ (l.map fun x => (countN x : Int)) := by
    intro l
    induction l with
    | nil => simp [countL, sumZ]
    | cons x r ih => simp only [countL, sumZ, List.map_cons, List.sum_cons] at ih ⊢; omega
  rw [countN_eq]; have := this n.kids; omega
theorem deep_eq (n : NodeT) : (deepN n : Int) = 1 + maxZ (n.kids.map fun x => (deepN x : Int)) := by
  have : ∀ (l : List NodeT) (a : Int), 0 ≤ a → (l.map fun x => (deepN x : Int)).foldl max a = max a (deepL l : Int) := by
    intro l
    induction l with
    | nil => intro a ha; simp [deepL]; omega
    | cons x r ih => intro a ha; simp only [List.map_cons, List.foldl_cons]; rw [ih _ (by omega), deepL]; omega
  rw [deepN_eq]; have := this n.kids 0 (by omega); unfold maxZ; rw [this]; omega
set_option maxRecDepth 100000 in
theorem ncount_calls (n : NodeT) (u : Value) (w : World) (S : Nat → Prop) (hu : KidsAt w S u n.kids) (hn : countN n ≤ 1000000000) :
    Calls Tryd.prog 12 #[nodeV n u] w fun e w' => e = .returned (.int .i64 (countN n : Int)) ∧ Below w.heap.size w w' := by
  obtain ⟨pu, cu, rfl, lu⟩ := hu.shape 
  have hB := (Below.refl _ w).alloc (Nat.le_refl _) (.cells #[.int .i64 n.kind, .string n.text, .slice pu n.kids.length cu] 25) 
  have hc := fold_calls 32 (.inl rfl) _ count1_ok (fun x => (countN x : Int)) count_eq (fun x => ⟨by omega, by omega⟩) n _ _ S (hu.stays hB) hn 
  have HC := Lib.hid hc 
  have HB := Lib.hid hB 
  unfold nodeV at * 
  clear hc hu hB 
  go_enter Tryd.func12, Tryd.ntmps12 
  go_wp2_with (go_at_call 31; refine (HC.out).mono ?_; rintro e w1 ⟨rfl, hb⟩; have HB1 := Lib.hid (HB.out.trans (hb.mono HB.out.size)); clear hb) 
  go_ret 
  exact ⟨rfl, HB1.out⟩
set_option maxRecDepth 100000 in
theorem ndeep_calls (n : NodeT) (u : Value) (w : World) (S : Nat → Prop) (hu : KidsAt w S u n.kids) (hn : countN n ≤ 1000000000) :
    Calls Tryd.prog 13 #[nodeV n u] w fun e w' => e = .returned (.int .i64 (deepN n : Int)) ∧ Below w.heap.size w w' := by
  obtain ⟨pu, cu, rfl, lu⟩ := hu.shape 
  have hB := (Below.refl _ w).alloc (Nat.le_refl _) (.cells #[.int .i64 n.kind, .string n.text, .slice pu n.kids.length cu] 25) 
  have hc := fold_calls 33 (.inr rfl) _ deep1_ok (fun x => (deepN x : Int)) deep_eq (fun x => ⟨by omega, by have := deep_le_count x; omega⟩) n _ _ S (hu.stays hB) hn 
  have HC := Lib.hid hc 
  have HB := Lib.hid hB 
  unfold nodeV at * 
  clear hc hu hB 
  go_enter Tryd.func13, Tryd.ntmps13 
  go_wp2_with (go_at_call 31; refine (HC.out).mono ?_; rintro e w1 ⟨rfl, hb⟩; have HB1 := Lib.hid (HB.out.trans (hb.mono HB.out.size)); clear hb) 
  go_ret 
  exact ⟨rfl, HB1.out⟩
end Go.Proofs.YtigpffbhkopjeaaDoor
