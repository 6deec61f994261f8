/- NodeAsks. Its condition: how the trees, the path and the lists lie in memory; the tables that Go's library reads; kinds that are ints; texts of at most 2^47 bytes. -/
import Derived.Test.YtigpffbhkopjeaaDoorNd35
namespace Go.Proofs.YtigpffbhkopjeaaDoor
open Go.RowKit Go.Sub Go.Sort

/-- a tree that is asked for: how it lies, and its box -/
structure Asked (w : World) (B : Nat) (n : NodeT) (p : Option Addr) (c : Nat) : Prop where
  box : NBox w B 25 n.kind n.text (.slice p n.kids.length c)
  kids : KidsAt w (fun _ => True) (.slice p n.kids.length c) n.kids
theorem Asked.stays {w w' : World} {B : Nat} {n : NodeT} {p : Option Addr} {c : Nat} (h : Asked w B n p c) (hb : Below w.heap.size w w') : Asked w' B n p c := ⟨h.box.stays hb, h.kids.stays hb⟩
set_option maxRecDepth 100000 in
set_option maxHeartbeats 4000000 in
theorem nodeasks_core (a b : NodeT) (ua ub vp : Value) (path : List Int) (c d : List UInt8) (vc vd : Value) (k : Int) (hk0 : 0 ≤ k) (hk1 : k ≤ 255) (w : World) (S : Nat → Prop)
    (ha : KidsAt w S ua a.kids) (hb : KidsAt w S ub b.kids) (wa : WideN a) (ta : tmaxN a ≤ 140737488355328) (tb : tmaxN b ≤ 140737488355328) (hp : PathAt w S vp path) (hc : BytesRow w vc c) (hd : BytesRow w vd d) (hT : Tabs w) :
    Calls Tryd.prog 7 #[nodeV a ua, nodeV b ub, vp, vc, vd, .int .u8 k] w fun e w' => e = .returned (.bool true) ∧ Below w.heap.size w w' := by
  obtain ⟨pa, ca, rfl, la⟩ := ha.shape
  obtain ⟨pb, cb, rfl, lb⟩ := hb.shape
  obtain ⟨pv, cv, rfl, lv⟩ := hp.1.shape
  have h1 := (Below.refl w.heap.size w).alloc (Nat.le_refl _) (.cells #[.int .i64 a.kind, .string a.text, .slice pa a.kids.length ca] 25)
  have h2 := (Below.refl (w.alloc (.cells #[.int .i64 a.kind, .string a.text, .slice pa a.kids.length ca] 25)).heap.size _).alloc (Nat.le_refl _) (.cells #[.int .i64 b.kind, .string b.text, .slice pb b.kids.length cb] 25)
  have b1 := (nbox_new w 25 a.kind a.text (.slice pa a.kids.length ca)).stays h2
  have b2 := nbox_new (w.alloc (.cells #[.int .i64 a.kind, .string a.text, .slice pa a.kids.length ca] 25)) 25 b.kind b.text (.slice pb b.kids.length cb)
  have hB := h1.trans (h2.mono h1.size)
  rw [World.size_alloc] at b2
  have qa : Asked _ w.heap.size a pa ca := ⟨b1, (ha.stays hB).mono fun _ _ => trivial⟩
  have qb : Asked _ (w.heap.size + 1) b pb cb := ⟨b2, (hb.stays hB).mono fun _ _ => trivial⟩
  have hv2 : PathAt _ S (.slice pv path.length cv) path := ⟨hp.1.stays hB, hp.2⟩
  have hc1 := hc.stays hB
  have hd1 := hd.stays hB
  have hT1 := hT.stays hB
  have hz1 := hB.size
  unfold nodeV
  clear h1 h2 ha hb hp hc hd hT b1 b2
  go_enter Tryd.func7, Tryd.ntmps7
  go_upto_region 1 with (fail)
  generalize (w.alloc (.cells #[.int .i64 a.kind, .string a.text, .slice pa a.kids.length ca] 25)).alloc (.cells #[.int .i64 b.kind, .string b.text, .slice pb b.kids.length cb] 25) = W1 at *
  generalize hAA : w.heap.size = A at *
  have HAA := Lib.hid hAA
  clear hAA
  have HZ1 := Lib.hid hz1
  have HB := Lib.hid hB
  clear hz1 hB
  have wla := leftN_low a 1000
  have wlb := leftN_low b 1000
  have ia := leftN_is a 1000
  have ib := leftN_is b 1000
  have qA : ∀ U (_ : Below W1.heap.size W1 U), Calls Tryd.prog 21 #[.agg #[.int .i64 a.kind, .string a.text, .slice pa a.kids.length ca]] U fun e w' => e = .returned (.int .i64 (1000 - max (leftN a 1000) (-1))) ∧ Below U.heap.size U w' := fun U h => weight_calls a _ U _ (qa.kids.stays h) ta
  have qB : ∀ U (_ : Below W1.heap.size W1 U), Calls Tryd.prog 21 #[.agg #[.int .i64 b.kind, .string b.text, .slice pb b.kids.length cb]] U fun e w' => e = .returned (.int .i64 (1000 - max (leftN b 1000) (-1))) ∧ Below U.heap.size U w' := fun U h => weight_calls b _ U _ (qb.kids.stays h) tb
  have qK := fun U (h : Below W1.heap.size W1 U) => known_calls U (hT1.stays h)
  obtain ⟨x, hx⟩ : ∃ x, x = 1000 - max (leftN a 1000) (-1) := ⟨_, rfl⟩
  obtain ⟨y, hy⟩ : ∃ y, y = 1000 - max (leftN b 1000) (-1) := ⟨_, rfl⟩
  rw [← hx] at qA
  rw [← hy] at qB
  have show1 : ∀ U, Below W1.heap.size W1 U → (U.cell? ⟨A, 0, none⟩ = some (.int .i64 a.kind) ∧ U.cell? ⟨A, 1, none⟩ = some (.string a.text) ∧ U.cell? ⟨A, 2, none⟩ = some (.slice pa a.kids.length ca)) ∧ (U.cell? ⟨A + 1, 0, none⟩ = some (.int .i64 b.kind) ∧ U.cell? ⟨A + 1, 1, none⟩ = some (.string b.text) ∧ U.cell? ⟨A + 1, 2, none⟩ = some (.slice pb b.kids.length cb)) ∧ Below W1.heap.size W1 U := fun U h => ⟨(qa.box.stays h).cells, (qb.box.stays h).cells, h⟩
  have hx0 : 0 ≤ x ∧ x ≤ 1001 := by omega
  have hy0 : 0 ≤ y ∧ y ≤ 1001 := by omega
  have w1 : IntKind.i64.wrap (x + y) = x + y := IntWalk.i64_in _ (by omega)
  have hwa : x + y ≤ 300 → weightN a ≤ 300 ∧ weightN b ≤ 300 := fun h => by
    have e1 := ia (by omega)
    have e2 := ib (by omega)
    omega
  have z0 : (0 : Int) ≤ (path.length : Int) := by omega
  obtain ⟨c0, c1, c2⟩ := qa.box.cells
  obtain ⟨d0, d1, d2⟩ := qb.box.cells
  have SHOW := Lib.hid show1
  have HBel := Lib.hid (Below.refl W1.heap.size W1)
  have QA := Lib.hid qA
  have QB := Lib.hid qB
  have QK := Lib.hid qK
  have HAS := Lib.hid qa
  have HBS := Lib.hid qb
  have HP := Lib.hid hv2
  have HC := Lib.hid hc1
  have HD := Lib.hid hd1
  have HT := Lib.hid hT1
  have HWA := Lib.hid hwa
  have HW := Lib.hid wa
  clear show1 qA qB qK qa qb hv2 hc1 hd1 hT1 hwa wa wla wlb ia ib hx hy ta tb
  by_cases hxy : 300 < x + y
  · have t1 : (300 < x + y) = True := eq_true hxy
    have t1' : decide (x + y > 300) = true := decide_eq_true hxy
    refine wp_region_held_drew (S := (fun w' => (w'.cell? ⟨A, 0, none⟩ = some (.int .i64 a.kind) ∧ w'.cell? ⟨A, 1, none⟩ = some (.string a.text) ∧ w'.cell? ⟨A, 2, none⟩ = some (.slice pa a.kids.length ca)) ∧ (w'.cell? ⟨A + 1, 0, none⟩ = some (.int .i64 b.kind) ∧ w'.cell? ⟨A + 1, 1, none⟩ = some (.string b.text) ∧ w'.cell? ⟨A + 1, 2, none⟩ = some (.slice pb b.kids.length cb)) ∧ Below W1.heap.size W1 w')) (by kernel_rfl) (SHOW.out _ HBel.out.drew) (fun hHeld => ?_) 
    refine wpAnyH_take (i := 0) (v := ?_) (by simp only [List.getElem?_toArray, List.getElem?_cons_zero]; exact rfl) (by kernel_rfl) (by kernel_rfl) (by kernel_rfl) (by intro _ _ _ h; exact h) (Or.inl ⟨by rfl, ?_⟩) (by assumption) ?_ 
    rotate_left 1 
    · (intro w hSw; (try dsimp only at hSw); go_simp; try with_reducible rfl) 
    (try simp only [Act.put, List.setIfInBounds_toArray, List.set_cons_zero, List.set_cons_succ]) 
    refine wpAnyH_take (i := 2) (v := ?_) (by simp only [List.getElem?_toArray, List.getElem?_cons_succ, List.getElem?_cons_zero]; exact rfl) (by kernel_rfl) (by kernel_rfl) (by kernel_rfl) (by intro _ _ _ h; exact h) (Or.inl ⟨by rfl, ?_⟩) (by assumption) ?_ 
    rotate_left 1 
    · (intro w hSw; (try dsimp only at hSw); go_simp; try with_reducible rfl) 
    (try simp only [Act.put, List.setIfInBounds_toArray, List.set_cons_zero, List.set_cons_succ]) 
    refine wpAnyH_ready (rs := [1]) (by kernel_rfl) (by simp) ?_ 
    refine AllReadyH.cons rfl (fun K hK => ?_) AllReadyH.nil 
    go_simp 
    (first 
        | (go_at_call 21; with_reducible refine (QA.out _ (And.right (And.right (by assumption)))).mono ?_; rintro _ U ⟨rfl, bu⟩; have bb := Below.trans (And.right (And.right (by assumption))) (bu.mono (Below.size (And.right (And.right (by assumption))))); clear bu) 
        | (go_at_call 21; with_reducible refine (QB.out _ (And.right (And.right (by assumption)))).mono ?_; rintro _ U ⟨rfl, bu⟩; have bb := Below.trans (And.right (And.right (by assumption))) (bu.mono (Below.size (And.right (And.right (by assumption))))); clear bu) 
        | (go_at_call 11; with_reducible refine (QK.out _ (And.right (And.right (by assumption)))).mono ?_; rintro _ U ⟨rfl, bu⟩; have bb := Below.trans (And.right (And.right (by assumption))) (bu.mono (Below.size (And.right (And.right (by assumption))))); clear bu)) 
    try dsimp only 
    refine hK.out _ _ (by first | assumption | (refine SHOW.out _ ?_; assumption)) (fun hHeld => ?_) 
    clear hK K 
    (try simp only [Act.put, List.setIfInBounds_toArray, List.set_cons_zero, List.set_cons_succ]) 
    refine wpAnyH_ready (rs := [3]) (by kernel_rfl) (by simp) ?_ 
    refine AllReadyH.cons rfl (fun K hK => ?_) AllReadyH.nil 
    go_simp 
    (first 
        | (go_at_call 21; with_reducible refine (QA.out _ (And.right (And.right (by assumption)))).mono ?_; rintro _ U ⟨rfl, bu⟩; have bb := Below.trans (And.right (And.right (by assumption))) (bu.mono (Below.size (And.right (And.right (by assumption))))); clear bu) 
        | (go_at_call 21; with_reducible refine (QB.out _ (And.right (And.right (by assumption)))).mono ?_; rintro _ U ⟨rfl, bu⟩; have bb := Below.trans (And.right (And.right (by assumption))) (bu.mono (Below.size (And.right (And.right (by assumption))))); clear bu) 
        | (go_at_call 11; with_reducible refine (QK.out _ (And.right (And.right (by assumption)))).mono ?_; rintro _ U ⟨rfl, bu⟩; have bb := Below.trans (And.right (And.right (by assumption))) (bu.mono (Below.size (And.right (And.right (by assumption))))); clear bu)) 
    try dsimp only 
    refine hK.out _ _ (by first | assumption | (refine SHOW.out _ ?_; assumption)) (fun hHeld => ?_) 
    clear hK K 
    (try simp only [Act.put, List.setIfInBounds_toArray, List.set_cons_zero, List.set_cons_succ]) 
    refine wpAnyH_take (i := 4) (v := ?_) (by simp only [List.getElem?_toArray, List.getElem?_cons_succ, List.getElem?_cons_zero]; exact rfl) (by kernel_rfl) (by kernel_rfl) (by kernel_rfl) (by intro _ _ _ h; exact h) (Or.inl ⟨by rfl, ?_⟩) (by assumption) ?_ 
    rotate_left 1 
    · (intro w hSw; (try dsimp only at hSw); go_simp; try with_reducible rfl) 
    (try simp only [Act.put, List.setIfInBounds_toArray, List.set_cons_zero, List.set_cons_succ]) 
    refine wpAnyH_take (i := 5) (v := ?_) (by simp only [List.getElem?_toArray, List.getElem?_cons_succ, List.getElem?_cons_zero]; exact rfl) (by kernel_rfl) (by kernel_rfl) (by kernel_rfl) (by intro _ _ _ h; exact h) (Or.inl ⟨by rfl, ?_⟩) (by assumption) ?_ 
    rotate_left 1 
    · (intro w hSw; (try dsimp only at hSw); go_simp; try with_reducible rfl) 
    (try simp only [Act.put, List.setIfInBounds_toArray, List.set_cons_zero, List.set_cons_succ]) 
    refine wpAnyH_take (i := 6) (v := ?_) (by simp only [List.getElem?_toArray, List.getElem?_cons_succ, List.getElem?_cons_zero]; exact rfl) (by kernel_rfl) (by kernel_rfl) (by kernel_rfl) (by intro _ _ _ h; exact h) (Or.inl ⟨by rfl, ?_⟩) (by assumption) ?_ 
    rotate_left 1 
    · (intro w hSw; (try dsimp only at hSw); go_simp; try with_reducible rfl) 
    (try simp only [Act.put, List.setIfInBounds_toArray, List.set_cons_zero, List.set_cons_succ])
    refine wpAnyH_take (i := 7) (v := undef) (by simp only [List.getElem?_toArray, List.getElem?_cons_succ, List.getElem?_cons_zero]; exact rfl) (by kernel_rfl) (by kernel_rfl) (by kernel_rfl) (by intro _ _ _ h; exact h) (Or.inr ⟨by rfl, rfl⟩) (by assumption) ?_ 
    (try simp only [Act.put, List.setIfInBounds_toArray, List.set_cons_zero, List.set_cons_succ])
    refine wpAnyH_take (i := 8) (v := undef) (by simp only [List.getElem?_toArray, List.getElem?_cons_succ, List.getElem?_cons_zero]; exact rfl) (by kernel_rfl) (by kernel_rfl) (by kernel_rfl) (by intro _ _ _ h; exact h) (Or.inr ⟨by rfl, rfl⟩) (by assumption) ?_ 
    (try simp only [Act.put, List.setIfInBounds_toArray, List.set_cons_zero, List.set_cons_succ])
    refine wpAnyH_take (i := 9) (v := undef) (by simp only [List.getElem?_toArray, List.getElem?_cons_succ, List.getElem?_cons_zero]; exact rfl) (by kernel_rfl) (by kernel_rfl) (by kernel_rfl) (by intro _ _ _ h; exact h) (Or.inr ⟨by rfl, rfl⟩) (by assumption) ?_ 
    (try simp only [Act.put, List.setIfInBounds_toArray, List.set_cons_zero, List.set_cons_succ])
    refine wpAnyH_take (i := 10) (v := ?_) (by simp only [List.getElem?_toArray, List.getElem?_cons_succ, List.getElem?_cons_zero]; exact rfl) (by kernel_rfl) (by kernel_rfl) (by kernel_rfl) (by intro _ _ _ h; exact h) (Or.inl ⟨by rfl, ?_⟩) (by assumption) ?_ 
    rotate_left 1 
    · (intro w hSw; (try dsimp only at hSw); go_simp; try with_reducible rfl) 
    (try simp only [Act.put, List.setIfInBounds_toArray, List.set_cons_zero, List.set_cons_succ])
    refine wpAnyH_take (i := 11) (v := ?_) (by simp only [List.getElem?_toArray, List.getElem?_cons_succ, List.getElem?_cons_zero]; exact rfl) (by kernel_rfl) (by kernel_rfl) (by kernel_rfl) (by intro _ _ _ h; exact h) (Or.inl ⟨by rfl, ?_⟩) (by assumption) ?_ 
    rotate_left 1 
    · (intro w hSw; (try dsimp only at hSw); go_simp; try with_reducible rfl) 
    (try simp only [Act.put, List.setIfInBounds_toArray, List.set_cons_zero, List.set_cons_succ])
    refine wpAnyH_take (i := 12) (v := undef) (by simp only [List.getElem?_toArray, List.getElem?_cons_succ, List.getElem?_cons_zero]; exact rfl) (by kernel_rfl) (by kernel_rfl) (by kernel_rfl) (by intro _ _ _ h; exact h) (Or.inr ⟨by rfl, rfl⟩) (by assumption) ?_ 
    (try simp only [Act.put, List.setIfInBounds_toArray, List.set_cons_zero, List.set_cons_succ])
    refine wpAnyH_take (i := 13) (v := undef) (by simp only [List.getElem?_toArray, List.getElem?_cons_succ, List.getElem?_cons_zero]; exact rfl) (by kernel_rfl) (by kernel_rfl) (by kernel_rfl) (by intro _ _ _ h; exact h) (Or.inr ⟨by rfl, rfl⟩) (by assumption) ?_ 
    (try simp only [Act.put, List.setIfInBounds_toArray, List.set_cons_zero, List.set_cons_succ])
    refine wpAnyH_take (i := 14) (v := ?_) (by simp only [List.getElem?_toArray, List.getElem?_cons_succ, List.getElem?_cons_zero]; exact rfl) (by kernel_rfl) (by kernel_rfl) (by kernel_rfl) (by intro _ _ _ h; exact h) (Or.inl ⟨by rfl, ?_⟩) (by assumption) ?_ 
    rotate_left 1 
    · (intro w hSw; (try dsimp only at hSw); go_simp; try with_reducible rfl) 
    (try simp only [Act.put, List.setIfInBounds_toArray, List.set_cons_zero, List.set_cons_succ])
    refine wpAnyH_done (by kernel_rfl) ?_ _ 
    have hbx : Below W1.heap.size W1 _ := And.right (And.right (by assumption)) 
    have qk := QK.out _ hbx 
    have HK := Lib.hid qk 
    have HX := Lib.hid hbx 
    clear qk hbx 
    go_wp2_with (go_at_call 11; with_reducible refine HK.out.mono ?_; rintro _ U ⟨rfl, bu⟩; have BU := Lib.hid (HX.out.trans (bu.mono HX.out.size)); clear bu) 
    go_ret 
    exact ⟨rfl, by first | exact HB.out.trans (BU.out.mono HZ1.out) | (rw [HAA.out]; exact HB.out.trans (BU.out.mono HZ1.out))⟩
  · by_cases hpl : 50 < path.length
    · have t1 : decide (x + y > 300) = false := decide_eq_false hxy
      have t2 : (50 < (path.length : Int)) = True := eq_true (by omega)
      have t2' : decide ((path.length : Int) > 50) = true := decide_eq_true (by omega)
      refine wp_region_held_drew (S := (fun w' => (w'.cell? ⟨A, 0, none⟩ = some (.int .i64 a.kind) ∧ w'.cell? ⟨A, 1, none⟩ = some (.string a.text) ∧ w'.cell? ⟨A, 2, none⟩ = some (.slice pa a.kids.length ca)) ∧ (w'.cell? ⟨A + 1, 0, none⟩ = some (.int .i64 b.kind) ∧ w'.cell? ⟨A + 1, 1, none⟩ = some (.string b.text) ∧ w'.cell? ⟨A + 1, 2, none⟩ = some (.slice pb b.kids.length cb)) ∧ Below W1.heap.size W1 w')) (by kernel_rfl) (SHOW.out _ HBel.out.drew) (fun hHeld => ?_) 
      refine wpAnyH_take (i := 0) (v := ?_) (by simp only [List.getElem?_toArray, List.getElem?_cons_zero]; exact rfl) (by kernel_rfl) (by kernel_rfl) (by kernel_rfl) (by intro _ _ _ h; exact h) (Or.inl ⟨by rfl, ?_⟩) (by assumption) ?_ 
      rotate_left 1 
      · (intro w hSw; (try dsimp only at hSw); go_simp; try with_reducible rfl) 
      (try simp only [Act.put, List.setIfInBounds_toArray, List.set_cons_zero, List.set_cons_succ]) 
      refine wpAnyH_take (i := 2) (v := ?_) (by simp only [List.getElem?_toArray, List.getElem?_cons_succ, List.getElem?_cons_zero]; exact rfl) (by kernel_rfl) (by kernel_rfl) (by kernel_rfl) (by intro _ _ _ h; exact h) (Or.inl ⟨by rfl, ?_⟩) (by assumption) ?_ 
      rotate_left 1 
      · (intro w hSw; (try dsimp only at hSw); go_simp; try with_reducible rfl) 
      (try simp only [Act.put, List.setIfInBounds_toArray, List.set_cons_zero, List.set_cons_succ]) 
      refine wpAnyH_ready (rs := [1]) (by kernel_rfl) (by simp) ?_ 
      refine AllReadyH.cons rfl (fun K hK => ?_) AllReadyH.nil 
      go_simp 
      (first 
          | (go_at_call 21; with_reducible refine (QA.out _ (And.right (And.right (by assumption)))).mono ?_; rintro _ U ⟨rfl, bu⟩; have bb := Below.trans (And.right (And.right (by assumption))) (bu.mono (Below.size (And.right (And.right (by assumption))))); clear bu) 
          | (go_at_call 21; with_reducible refine (QB.out _ (And.right (And.right (by assumption)))).mono ?_; rintro _ U ⟨rfl, bu⟩; have bb := Below.trans (And.right (And.right (by assumption))) (bu.mono (Below.size (And.right (And.right (by assumption))))); clear bu) 
          | (go_at_call 11; with_reducible refine (QK.out _ (And.right (And.right (by assumption)))).mono ?_; rintro _ U ⟨rfl, bu⟩; have bb := Below.trans (And.right (And.right (by assumption))) (bu.mono (Below.size (And.right (And.right (by assumption))))); clear bu)) 
      try dsimp only 
      refine hK.out _ _ (by first | assumption | (refine SHOW.out _ ?_; assumption)) (fun hHeld => ?_) 
      clear hK K 
      (try simp only [Act.put, List.setIfInBounds_toArray, List.set_cons_zero, List.set_cons_succ]) 
      refine wpAnyH_ready (rs := [3]) (by kernel_rfl) (by simp) ?_ 
      refine AllReadyH.cons rfl (fun K hK => ?_) AllReadyH.nil 
      go_simp 
      (first 
          | (go_at_call 21; with_reducible refine (QA.out _ (And.right (And.right (by assumption)))).mono ?_; rintro _ U ⟨rfl, bu⟩; have bb := Below.trans (And.right (And.right (by assumption))) (bu.mono (Below.size (And.right (And.right (by assumption))))); clear bu) 
          | (go_at_call 21; with_reducible refine (QB.out _ (And.right (And.right (by assumption)))).mono ?_; rintro _ U ⟨rfl, bu⟩; have bb := Below.trans (And.right (And.right (by assumption))) (bu.mono (Below.size (And.right (And.right (by assumption))))); clear bu) 
          | (go_at_call 11; with_reducible refine (QK.out _ (And.right (And.right (by assumption)))).mono ?_; rintro _ U ⟨rfl, bu⟩; have bb := Below.trans (And.right (And.right (by assumption))) (bu.mono (Below.size (And.right (And.right (by assumption))))); clear bu)) 
      try dsimp only 
      refine hK.out _ _ (by first | assumption | (refine SHOW.out _ ?_; assumption)) (fun hHeld => ?_) 
      clear hK K 
      (try simp only [Act.put, List.setIfInBounds_toArray, List.set_cons_zero, List.set_cons_succ]) 
      refine wpAnyH_take (i := 4) (v := ?_) (by simp only [List.getElem?_toArray, List.getElem?_cons_succ, List.getElem?_cons_zero]; exact rfl) (by kernel_rfl) (by kernel_rfl) (by kernel_rfl) (by intro _ _ _ h; exact h) (Or.inl ⟨by rfl, ?_⟩) (by assumption) ?_ 
      rotate_left 1 
      · (intro w hSw; (try dsimp only at hSw); go_simp; try with_reducible rfl) 
      (try simp only [Act.put, List.setIfInBounds_toArray, List.set_cons_zero, List.set_cons_succ]) 
      refine wpAnyH_take (i := 5) (v := ?_) (by simp only [List.getElem?_toArray, List.getElem?_cons_succ, List.getElem?_cons_zero]; exact rfl) (by kernel_rfl) (by kernel_rfl) (by kernel_rfl) (by intro _ _ _ h; exact h) (Or.inl ⟨by rfl, ?_⟩) (by assumption) ?_ 
      rotate_left 1 
      · (intro w hSw; (try dsimp only at hSw); go_simp; try with_reducible rfl) 
      (try simp only [Act.put, List.setIfInBounds_toArray, List.set_cons_zero, List.set_cons_succ]) 
      refine wpAnyH_take (i := 6) (v := ?_) (by simp only [List.getElem?_toArray, List.getElem?_cons_succ, List.getElem?_cons_zero]; exact rfl) (by kernel_rfl) (by kernel_rfl) (by kernel_rfl) (by intro _ _ _ h; exact h) (Or.inl ⟨by rfl, ?_⟩) (by assumption) ?_ 
      rotate_left 1 
      · (intro w hSw; (try dsimp only at hSw); go_simp; try with_reducible rfl) 
      (try simp only [Act.put, List.setIfInBounds_toArray, List.set_cons_zero, List.set_cons_succ])
      refine wpAnyH_take (i := 7) (v := ?_) (by simp only [List.getElem?_toArray, List.getElem?_cons_succ, List.getElem?_cons_zero]; exact rfl) (by kernel_rfl) (by kernel_rfl) (by kernel_rfl) (by intro _ _ _ h; exact h) (Or.inl ⟨by rfl, ?_⟩) (by assumption) ?_ 
      rotate_left 1 
      · (intro w hSw; (try dsimp only at hSw); go_simp; try with_reducible rfl) 
      (try simp only [Act.put, List.setIfInBounds_toArray, List.set_cons_zero, List.set_cons_succ])
      refine wpAnyH_take (i := 8) (v := ?_) (by simp only [List.getElem?_toArray, List.getElem?_cons_succ, List.getElem?_cons_zero]; exact rfl) (by kernel_rfl) (by kernel_rfl) (by kernel_rfl) (by intro _ _ _ h; exact h) (Or.inl ⟨by rfl, ?_⟩) (by assumption) ?_ 
      rotate_left 1 
      · (intro w hSw; (try dsimp only at hSw); go_simp; try with_reducible rfl) 
      (try simp only [Act.put, List.setIfInBounds_toArray, List.set_cons_zero, List.set_cons_succ])
      refine wpAnyH_take (i := 9) (v := ?_) (by simp only [List.getElem?_toArray, List.getElem?_cons_succ, List.getElem?_cons_zero]; exact rfl) (by kernel_rfl) (by kernel_rfl) (by kernel_rfl) (by intro _ _ _ h; exact h) (Or.inl ⟨by rfl, ?_⟩) (by assumption) ?_ 
      rotate_left 1 
      · (intro w hSw; (try dsimp only at hSw); go_simp; try with_reducible rfl) 
      (try simp only [Act.put, List.setIfInBounds_toArray, List.set_cons_zero, List.set_cons_succ])
      refine wpAnyH_take (i := 10) (v := ?_) (by simp only [List.getElem?_toArray, List.getElem?_cons_succ, List.getElem?_cons_zero]; exact rfl) (by kernel_rfl) (by kernel_rfl) (by kernel_rfl) (by intro _ _ _ h; exact h) (Or.inl ⟨by rfl, ?_⟩) (by assumption) ?_ 
      rotate_left 1 
      · (intro w hSw; (try dsimp only at hSw); go_simp; try with_reducible rfl) 
      (try simp only [Act.put, List.setIfInBounds_toArray, List.set_cons_zero, List.set_cons_succ])
      refine wpAnyH_take (i := 11) (v := ?_) (by simp only [List.getElem?_toArray, List.getElem?_cons_succ, List.getElem?_cons_zero]; exact rfl) (by kernel_rfl) (by kernel_rfl) (by kernel_rfl) (by intro _ _ _ h; exact h) (Or.inl ⟨by rfl, ?_⟩) (by assumption) ?_ 
      rotate_left 1 
      · (intro w hSw; (try dsimp only at hSw); go_simp; try with_reducible rfl) 
      (try simp only [Act.put, List.setIfInBounds_toArray, List.set_cons_zero, List.set_cons_succ])
      refine wpAnyH_take (i := 12) (v := undef) (by simp only [List.getElem?_toArray, List.getElem?_cons_succ, List.getElem?_cons_zero]; exact rfl) (by kernel_rfl) (by kernel_rfl) (by kernel_rfl) (by intro _ _ _ h; exact h) (Or.inr ⟨by rfl, rfl⟩) (by assumption) ?_ 
      (try simp only [Act.put, List.setIfInBounds_toArray, List.set_cons_zero, List.set_cons_succ])
      refine wpAnyH_take (i := 13) (v := undef) (by simp only [List.getElem?_toArray, List.getElem?_cons_succ, List.getElem?_cons_zero]; exact rfl) (by kernel_rfl) (by kernel_rfl) (by kernel_rfl) (by intro _ _ _ h; exact h) (Or.inr ⟨by rfl, rfl⟩) (by assumption) ?_ 
      (try simp only [Act.put, List.setIfInBounds_toArray, List.set_cons_zero, List.set_cons_succ])
      refine wpAnyH_take (i := 14) (v := ?_) (by simp only [List.getElem?_toArray, List.getElem?_cons_succ, List.getElem?_cons_zero]; exact rfl) (by kernel_rfl) (by kernel_rfl) (by kernel_rfl) (by intro _ _ _ h; exact h) (Or.inl ⟨by rfl, ?_⟩) (by assumption) ?_ 
      rotate_left 1 
      · (intro w hSw; (try dsimp only at hSw); go_simp; try with_reducible rfl) 
      (try simp only [Act.put, List.setIfInBounds_toArray, List.set_cons_zero, List.set_cons_succ])
      refine wpAnyH_done (by kernel_rfl) ?_ _ 
      have hbx : Below W1.heap.size W1 _ := And.right (And.right (by assumption)) 
      have qk := QK.out _ hbx 
      have HK := Lib.hid qk 
      have HX := Lib.hid hbx 
      clear qk hbx 
      go_wp2_with (go_at_call 11; with_reducible refine HK.out.mono ?_; rintro _ U ⟨rfl, bu⟩; have BU := Lib.hid (HX.out.trans (bu.mono HX.out.size)); clear bu) 
      go_ret 
      exact ⟨rfl, by first | exact HB.out.trans (BU.out.mono HZ1.out) | (rw [HAA.out]; exact HB.out.trans (BU.out.mono HZ1.out))⟩
    · have t1 : decide (x + y > 300) = false := decide_eq_false hxy
      have t2 : decide ((path.length : Int) > 50) = false := decide_eq_false (by omega)
      go_region_held3 (fun w' => (w'.cell? ⟨A, 0, none⟩ = some (.int .i64 a.kind) ∧ w'.cell? ⟨A, 1, none⟩ = some (.string a.text) ∧ w'.cell? ⟨A, 2, none⟩ = some (.slice pa a.kids.length ca)) ∧ (w'.cell? ⟨A + 1, 0, none⟩ = some (.int .i64 b.kind) ∧ w'.cell? ⟨A + 1, 1, none⟩ = some (.string b.text) ∧ w'.cell? ⟨A + 1, 2, none⟩ = some (.slice pb b.kids.length cb)) ∧ Below W1.heap.size W1 w') (first | exact SHOW.out _ HBel.out.drew | assumption | (refine SHOW.out _ ?_; assumption)) 
        (first 
          | (go_at_call 21; with_reducible refine (QA.out _ (And.right (And.right (by assumption)))).mono ?_; rintro _ U ⟨rfl, bu⟩; have bb := Below.trans (And.right (And.right (by assumption))) (bu.mono (Below.size (And.right (And.right (by assumption))))); clear bu) 
          | (go_at_call 21; with_reducible refine (QB.out _ (And.right (And.right (by assumption)))).mono ?_; rintro _ U ⟨rfl, bu⟩; have bb := Below.trans (And.right (And.right (by assumption))) (bu.mono (Below.size (And.right (And.right (by assumption))))); clear bu) 
          | (go_at_call 11; with_reducible refine (QK.out _ (And.right (And.right (by assumption)))).mono ?_; rintro _ U ⟨rfl, bu⟩; have bb := Below.trans (And.right (And.right (by assumption))) (bu.mono (Below.size (And.right (And.right (by assumption))))); clear bu))
      have hbx : Below W1.heap.size W1 _ := And.right (And.right (by assumption))
      have HX := Lib.hid hbx
      obtain ⟨hwa, hwb⟩ := HWA.out (by omega)
      have hca : countN a ≤ 1000000 := by have := countL_le_weight [a]; simp only [countL, weightL] at this; omega
      have hcb : countN b ≤ 1000000 := by have := countL_le_weight [b]; simp only [countL, weightL] at this; omega
      obtain ⟨X, hXe⟩ : ∃ X, X = treeN c := ⟨_, rfl⟩
      obtain ⟨D, hDe⟩ : ∃ D, D = treeN d := ⟨_, rfl⟩
      have ox : TreeOf X := hXe ▸ treeOf c
      have tc := Lib.hid (fun V (h : Below W1.heap.size W1 V) => tree_told c vc V (HC.out.stays h) X hXe)
      have td := Lib.hid (fun V (h : Below W1.heap.size W1 V) => tree_told d vd V (HD.out.stays h) D hDe)
      clear hXe hDe hbx QA QB t1 t2 hxy
      go_upto_region 4 with (go_at_call 9; refine (tc.out _ HX.out).mono ?_; rintro _ V ⟨px, cx, rfl, ku, bl⟩)
      obtain ⟨tb, bb, zz⟩ := treeBox_new ku.out bl.out
      generalize V.alloc (.cells #[.int .i64 X.kind, .string X.text, .slice px X.kids.length cx] 25) = W4 at *
      generalize V.heap.size = XB at *
      have hb4 := HX.out.trans (bb.mono HX.out.size)
      have HB4 := Lib.hid hb4
      have TX := Lib.hid tb
      have rc := rpaths_calls X _ W4 _ tb.kids (by have := ox.count; omega)
      unfold nodeV at rc
      have RC := Lib.hid rc
      obtain ⟨x0, x1, x2⟩ := tb.box.cells
      have hlX : (pathsN X).length ≤ 32 := by rw [paths_length]; exact ox.count
      have hlX0 : 0 < (pathsN X).length := by rw [pathsN_eq]; simp
      have OX := Lib.hid ox
      clear tb bb zz ku bl hb4 rc tc HX ox
      go_upto_region 5 with (go_at_call 22; refine RC.out.mono ?_; rintro _ W5 ⟨v5, us5, rfl, hp5, hb5⟩; obtain ⟨g5, cv5, rfl, -⟩ := own_pos hp5.own (by omega); have HP5 := Lib.hid hp5; have BB5 := Lib.hid hb5; clear hp5 hb5)
      have y1 : (((pathsN X).length : Int) == 0) = false := by rw [beq_eq_false_iff_ne]; omega
      obtain ⟨r, hr, hrl⟩ : ∃ r : Nat, k % ((pathsN X).length : Int) = (r : Int) ∧ r < (pathsN X).length := by
        have e1 := Int.emod_nonneg k (b := ((pathsN X).length : Int)) (by omega)
        have e2 := Int.emod_lt_of_pos k (b := ((pathsN X).length : Int)) (by omega)
        exact ⟨(k % ((pathsN X).length : Int)).toNat, by omega, by omega⟩
      have hxr := List.getElem?_eq_getElem hrl
      obtain ⟨q, qc, hcell, hints, hcap⟩ := HP5.out.at hxr
      generalize (pathsN X)[r] = pr at *
      have HI : Hid (PathAt W5 (fun _ => True) (.slice q pr.length qc) (zs pr)) := Lib.hid ⟨hints.mono fun _ _ => trivial, _, _, _, rfl, by rw [zs_length]; exact hcap⟩
      clear hxr hints hcap RC HP5
      have h5 := HB4.out.trans (BB5.out.mono HB4.out.size)
      have tx5 := TX.out.stays BB5.out
      have qa5 := HAS.out.stays h5
      have qb5 := HBS.out.stays h5
      have pv5 : PathAt W5 S (.slice pv path.length cv) path := ⟨HP.out.1.stays h5, HP.out.2⟩
      have hT5 := HT.out.stays h5
      obtain ⟨c0, c1, c2⟩ := qa5.box.cells
      obtain ⟨d0, d1, d2⟩ := qb5.box.cells
      obtain ⟨x0, x1, x2⟩ := tx5.box.cells
      have kA : ∀ U (_ : Below W5.heap.size W5 U), Calls Tryd.prog 23 #[.agg #[.int .i64 a.kind, .string a.text, .slice pa a.kids.length ca]] U fun e w' => e = .returned (.bool true) ∧ Below U.heap.size U w' := fun U h => asks_calls a _ U _ (qa5.kids.stays h) HW.out (by omega) (hT5.stays h)
      have kX : ∀ U (_ : Below W5.heap.size W5 U), Calls Tryd.prog 23 #[.agg #[.int .i64 X.kind, .string X.text, .slice px X.kids.length cx]] U fun e w' => e = .returned (.bool true) ∧ Below U.heap.size U w' := fun U h => asks_calls X _ U _ (tx5.kids.stays h) OX.out.wide (by have := OX.out.weight; omega) (hT5.stays h)
      have sAB : ∀ U (_ : Below W5.heap.size W5 U), Calls Tryd.prog 24 #[.agg #[.int .i64 a.kind, .string a.text, .slice pa a.kids.length ca], .agg #[.int .i64 b.kind, .string b.text, .slice pb b.kids.length cb]] U fun e w' => e = .returned (.bool true) ∧ Below U.heap.size U w' := fun U h => two_calls a b _ _ U _ _ (qa5.kids.stays h) (qb5.kids.stays h)
      have sXX : ∀ U (_ : Below W5.heap.size W5 U), Calls Tryd.prog 24 #[.agg #[.int .i64 X.kind, .string X.text, .slice px X.kids.length cx], .agg #[.int .i64 X.kind, .string X.text, .slice px X.kids.length cx]] U fun e w' => e = .returned (.bool true) ∧ Below U.heap.size U w' := fun U h => two_calls X X _ _ U _ _ (tx5.kids.stays h) (tx5.kids.stays h)
      have qTD : ∀ U (_ : Below W5.heap.size W5 U), Calls Tryd.prog 9 #[vd] U fun e w' => ∃ p cu, e = .returned (.agg #[.int .i64 D.kind, .string D.text, .slice p D.kids.length cu]) ∧ Hid (KidsAt w' (fun b => U.heap.size ≤ b) (.slice p D.kids.length cu) D.kids) ∧ Hid (Below U.heap.size U w') := fun U h => td.out U (h5.trans (h.mono h5.size))
      have sXD : ∀ U p cu (_ : Below W5.heap.size W5 U) (_ : ∃ S, KidsAt U S (.slice p D.kids.length cu) D.kids), Calls Tryd.prog 24 #[.agg #[.int .i64 X.kind, .string X.text, .slice px X.kids.length cx], .agg #[.int .i64 D.kind, .string D.text, .slice p D.kids.length cu]] U fun e w' => e = .returned (.bool true) ∧ Below U.heap.size U w' := fun U p cu h ⟨S', hk⟩ => two_calls X D _ _ U _ _ (tx5.kids.stays h) hk
      have hnil : ∀ U, PathAt U (fun _ => True) (.slice none 0 0) [] := fun U => ⟨⟨none, 0, 0, 0, rfl, fun h => absurd h (by simp), by simp, fun i x hx => by simp at hx⟩, _, _, _, rfl, Nat.le_refl _⟩
      have cX := OX.out.count
      have aAB : ∀ U (_ : Below W5.heap.size W5 U), Calls Tryd.prog 25 #[.agg #[.int .i64 a.kind, .string a.text, .slice pa a.kids.length ca], .slice pv path.length cv, .agg #[.int .i64 b.kind, .string b.text, .slice pb b.kids.length cb]] U fun e w' => e = .returned (.bool true) ∧ Below U.heap.size U w' := fun U h => atlaw_calls a b _ _ path _ U _ _ _ (qa5.kids.stays h) (qb5.kids.stays h) ⟨pv5.1.stays h, pv5.2⟩ hca hcb
      have aXA : ∀ U (_ : Below W5.heap.size W5 U), Calls Tryd.prog 25 #[.agg #[.int .i64 X.kind, .string X.text, .slice px X.kids.length cx], .slice pv path.length cv, .agg #[.int .i64 a.kind, .string a.text, .slice pa a.kids.length ca]] U fun e w' => e = .returned (.bool true) ∧ Below U.heap.size U w' := fun U h => atlaw_calls X a _ _ path _ U _ _ _ (tx5.kids.stays h) (qa5.kids.stays h) ⟨pv5.1.stays h, pv5.2⟩ (by omega) hca
      have aXP : ∀ U (_ : Below W5.heap.size W5 U), Calls Tryd.prog 25 #[.agg #[.int .i64 X.kind, .string X.text, .slice px X.kids.length cx], .slice q pr.length qc, .agg #[.int .i64 a.kind, .string a.text, .slice pa a.kids.length ca]] U fun e w' => e = .returned (.bool true) ∧ Below U.heap.size U w' := fun U h => atlaw_calls X a _ _ (zs pr) _ U _ _ _ (tx5.kids.stays h) (qa5.kids.stays h) ⟨HI.out.1.stays h, HI.out.2⟩ (by omega) hca
      have aAX : ∀ U (_ : Below W5.heap.size W5 U), Calls Tryd.prog 25 #[.agg #[.int .i64 a.kind, .string a.text, .slice pa a.kids.length ca], .slice none 0 0, .agg #[.int .i64 X.kind, .string X.text, .slice px X.kids.length cx]] U fun e w' => e = .returned (.bool true) ∧ Below U.heap.size U w' := fun U h => atlaw_calls a X _ _ [] _ U _ _ _ (qa5.kids.stays h) (tx5.kids.stays h) (hnil U) hca (by omega)
      have show5 : ∀ U, Below W5.heap.size W5 U → (U.cell? ⟨A, 0, none⟩ = some (.int .i64 a.kind) ∧ U.cell? ⟨A, 1, none⟩ = some (.string a.text) ∧ U.cell? ⟨A, 2, none⟩ = some (.slice pa a.kids.length ca)) ∧ (U.cell? ⟨A + 1, 0, none⟩ = some (.int .i64 b.kind) ∧ U.cell? ⟨A + 1, 1, none⟩ = some (.string b.text) ∧ U.cell? ⟨A + 1, 2, none⟩ = some (.slice pb b.kids.length cb)) ∧ (U.cell? ⟨XB, 0, none⟩ = some (.int .i64 X.kind) ∧ U.cell? ⟨XB, 1, none⟩ = some (.string X.text) ∧ U.cell? ⟨XB, 2, none⟩ = some (.slice px X.kids.length cx)) ∧ Below W5.heap.size W5 U := fun U h => ⟨(qa5.box.stays h).cells, (qb5.box.stays h).cells, (tx5.box.stays h).cells, h⟩
      have SHOW5 := Lib.hid show5
      have HBel5 := Lib.hid (Below.refl W5.heap.size W5)
      have KA := Lib.hid kA
      have KX := Lib.hid kX
      have SAB := Lib.hid sAB
      have SXX := Lib.hid sXX
      have QTD := Lib.hid qTD
      have SXD := Lib.hid sXD
      have AAB := Lib.hid aAB
      have AXA := Lib.hid aXA
      have AXP := Lib.hid aXP
      have AAX := Lib.hid aAX
      have H5 := Lib.hid h5
      clear show5 kA kX sAB sXX qTD sXD aAB aXA aXP aAX hnil h5 tx5 qa5 qb5 pv5 hT5 SHOW HBel QK HAS HBS HP HC HD HT HWA HW OX TX td HI cX
      go_upto_region 6 with (fail)
      go_region_held3 (fun w' => (w'.cell? ⟨A, 0, none⟩ = some (.int .i64 a.kind) ∧ w'.cell? ⟨A, 1, none⟩ = some (.string a.text) ∧ w'.cell? ⟨A, 2, none⟩ = some (.slice pa a.kids.length ca)) ∧ (w'.cell? ⟨A + 1, 0, none⟩ = some (.int .i64 b.kind) ∧ w'.cell? ⟨A + 1, 1, none⟩ = some (.string b.text) ∧ w'.cell? ⟨A + 1, 2, none⟩ = some (.slice pb b.kids.length cb)) ∧ (w'.cell? ⟨XB, 0, none⟩ = some (.int .i64 X.kind) ∧ w'.cell? ⟨XB, 1, none⟩ = some (.string X.text) ∧ w'.cell? ⟨XB, 2, none⟩ = some (.slice px X.kids.length cx)) ∧ Below W5.heap.size W5 w') (first | exact SHOW5.out _ HBel5.out.drew | assumption | (refine SHOW5.out _ ?_; assumption))
        (first
          | (go_at_call 23; with_reducible refine (KA.out _ (And.right (And.right (And.right (by assumption))))).mono ?_; rintro _ U ⟨rfl, bu⟩; have bb := Below.trans (And.right (And.right (And.right (by assumption)))) (bu.mono (Below.size (And.right (And.right (And.right (by assumption)))))); clear bu)
          | (go_at_call 23; with_reducible refine (KX.out _ (And.right (And.right (And.right (by assumption))))).mono ?_; rintro _ U ⟨rfl, bu⟩; have bb := Below.trans (And.right (And.right (And.right (by assumption)))) (bu.mono (Below.size (And.right (And.right (And.right (by assumption)))))); clear bu)
          | (go_at_call 24; with_reducible refine (SAB.out _ (And.right (And.right (And.right (by assumption))))).mono ?_; rintro _ U ⟨rfl, bu⟩; have bb := Below.trans (And.right (And.right (And.right (by assumption)))) (bu.mono (Below.size (And.right (And.right (And.right (by assumption)))))); clear bu)
          | (go_at_call 24; with_reducible refine (SXX.out _ (And.right (And.right (And.right (by assumption))))).mono ?_; rintro _ U ⟨rfl, bu⟩; have bb := Below.trans (And.right (And.right (And.right (by assumption)))) (bu.mono (Below.size (And.right (And.right (And.right (by assumption)))))); clear bu)
          | (go_at_call 9; with_reducible refine (QTD.out _ (And.right (And.right (And.right (by assumption))))).mono ?_; rintro _ U ⟨p, cu, rfl, ku, bu⟩; have bb := Below.trans (And.right (And.right (And.right (by assumption)))) (bu.out.mono (Below.size (And.right (And.right (And.right (by assumption)))))); clear bu; have kx : ∃ S, KidsAt U S (.slice p D.kids.length cu) D.kids := ⟨_, ku.out⟩; clear ku)
          | (go_at_call 24; with_reducible refine (SXD.out _ _ _ (And.right (And.right (And.right (by assumption)))) (by assumption)).mono ?_; rintro _ U ⟨rfl, bu⟩; have bb := Below.trans (And.right (And.right (And.right (by assumption)))) (bu.mono (Below.size (And.right (And.right (And.right (by assumption)))))); clear bu)
          | (go_at_call 25; with_reducible refine (AAB.out _ (And.right (And.right (And.right (by assumption))))).mono ?_; rintro _ U ⟨rfl, bu⟩; have bb := Below.trans (And.right (And.right (And.right (by assumption)))) (bu.mono (Below.size (And.right (And.right (And.right (by assumption)))))); clear bu)
          | (go_at_call 25; with_reducible refine (AXA.out _ (And.right (And.right (And.right (by assumption))))).mono ?_; rintro _ U ⟨rfl, bu⟩; have bb := Below.trans (And.right (And.right (And.right (by assumption)))) (bu.mono (Below.size (And.right (And.right (And.right (by assumption)))))); clear bu)
          | (go_at_call 25; with_reducible refine (AXP.out _ (And.right (And.right (And.right (by assumption))))).mono ?_; rintro _ U ⟨rfl, bu⟩; have bb := Below.trans (And.right (And.right (And.right (by assumption)))) (bu.mono (Below.size (And.right (And.right (And.right (by assumption)))))); clear bu)
          | (go_at_call 25; with_reducible refine (AAX.out _ (And.right (And.right (And.right (by assumption))))).mono ?_; rintro _ U ⟨rfl, bu⟩; have bb := Below.trans (And.right (And.right (And.right (by assumption)))) (bu.mono (Below.size (And.right (And.right (And.right (by assumption)))))); clear bu))
      go_wp2
      go_ret
      have hb9 : Below W5.heap.size W5 _ := And.right (And.right (And.right (by assumption)))
      have hb10 := HB.out.trans ((H5.out.trans (hb9.mono H5.out.size)).mono HZ1.out)
      exact ⟨rfl, by first | exact hb10 | (rw [HAA.out]; exact hb10)⟩
end Go.Proofs.YtigpffbhkopjeaaDoor
