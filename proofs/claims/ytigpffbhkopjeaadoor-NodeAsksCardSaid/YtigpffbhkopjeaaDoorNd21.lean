/- What the law knows of the chapter's example. Its condition: the tables that Go's library reads. -/
import Derived.Test.YtigpffbhkopjeaaDoorNd20
import Derived.Test.YtigpffbhkopjeaaDoorNd12
import Derived.Test.YtigpffbhkopjeaaDoorNd16
import Derived.Test.YtigpffbhkopjeaaDoorNd9
import Derived.Deep.Cut
import Derived.Deep.RegionHeld3
namespace Go.Proofs.YtigpffbhkopjeaaDoor
open Go.RowKit Go.Sub Go.Sort

def leafN : NodeT := .mk 1 ⟨#[]⟩ []
def twoN : NodeT := .mk 9 ⟨#[]⟩ [leafN]
theorem show_leaf : showN quoteL leafN = [40, 49, 32, 34, 34, 41] := by decide +kernel
theorem leaf_wide : WideN leafN := by
  intro p m hm
  cases p with
  | nil => rw [atN_nil] at hm; cases hm; exact ⟨by decide, by decide⟩
  | cons i p => rw [atN_cons] at hm; split at hm <;> simp [leafN] at hm
theorem ints_one {w : World} {z : Int} {g : Nat} (h : w.cell? ⟨g, 0, none⟩ = some (.int .i64 z)) : IntsAt w (fun _ => True) (.slice (some ⟨g, 0, none⟩) 1 1) [z] :=
  ⟨_, 1, g, 0, rfl, fun _ => ⟨rfl, trivial⟩, by simp, fun i x hx => by
    cases i with
    | zero => simp at hx; subst hx; exact h
    | succ i => simp at hx⟩
theorem wide_two : WideN twoN := by
  intro p m hm
  cases p with
  | nil => rw [atN_nil] at hm; cases hm; exact ⟨by decide, by decide⟩
  | cons i p =>
    rw [atN_cons] at hm
    split at hm
    · obtain ⟨k, hk, hm⟩ := Option.bind_eq_some_iff.1 hm
      cases h : i.toNat with
      | zero => rw [h] at hk; cases hk; exact leaf_wide p m hm
      | succ j => rw [h] at hk; cases hk
    · cases hm
theorem kids_leaf {w : World} {g : Nat} (h : NBox w g 25 1 ⟨#[]⟩ (.slice none 0 0)) : KidsAt w (fun _ => True) (.slice (some ⟨g, 0, none⟩) 1 1) [leafN] :=
  .mk _ 1 [leafN] g 0 (fun _ => .slice none 0 0) (fun _ => ⟨rfl, trivial⟩) (by simp) (fun i x hx => by
    cases i with
    | zero => simp at hx; subst hx; exact h.cells
    | succ i => simp at hx) (fun i x hx => by
    cases i with
    | zero => simp at hx; subst hx; exact .nil _ _
    | succ i => simp at hx)
theorem slice_of_own {w : World} {B : Nat} {e : TypeId} {k : Nat} {v : Value} {n : Nat} {cs : List Value} (h : w.ownsRow B e k v n cs) : ∃ p cp, v = .slice p n cp := by
  rcases h.2 with ⟨rfl, h0⟩ | ⟨g, cap, cur, rfl, _⟩
  · subst h0; exact ⟨_, _, rfl⟩
  · exact ⟨_, _, rfl⟩
theorem two_rows {xs : List PathV} (h : xs.map (fun x => x.2) = (pathsN twoN).map (fun p => zs p)) : xs.length = 2 := by
  have h1 := congrArg List.length h
  rw [List.length_map, List.length_map] at h1
  exact h1.trans ((paths_length _).trans (by decide +kernel))
theorem two_count : countN twoN ≤ 1000000000 := by decide +kernel
theorem at_zero : atN twoN [0] = some leafN := by
  rw [atN_cons, if_pos (by decide)]
  exact atN_nil leafN
theorem at_one : atN twoN [1] = none := by
  rw [atN_cons, if_pos (by decide)]
  rfl
set_option maxRecDepth 100000 in
set_option maxHeartbeats 2000000 in
theorem known_calls (w : World) (hT : Tabs w) :
    Calls Tryd.prog 11 #[] w fun e w' => e = .returned (.bool true) ∧ Below w.heap.size w w' := by
  go_enter Tryd.func11, Tryd.ntmps11
  go_upto_region 2 with (fail)
  have q0 := nbox_new w 25 1 ⟨#[]⟩ (.slice none 0 0)
  have b0 := (Below.refl w.heap.size w).alloc (Nat.le_refl _) (.cells #[.int .i64 1, .string ⟨#[]⟩, .slice none 0 0] 25)
  have q1 := nbox_new (w.alloc (.cells #[.int .i64 1, .string ⟨#[]⟩, .slice none 0 0] 25)) 25 9 ⟨#[]⟩ (.slice (some ⟨w.heap.size, 0, none⟩) 1 1)
  have q0 := q0.stays ((Below.refl _ _).alloc (Nat.le_refl _) (.cells #[.int .i64 9, .string ⟨#[]⟩, .slice (some ⟨w.heap.size, 0, none⟩) 1 1] 25))
  have b1 := b0.alloc (by simp) (.cells #[.int .i64 9, .string ⟨#[]⟩, .slice (some ⟨w.heap.size, 0, none⟩) 1 1] 25)
  have z1 : ((w.alloc (.cells #[.int .i64 1, .string ⟨#[]⟩, .slice none 0 0] 25)).alloc (.cells #[.int .i64 9, .string ⟨#[]⟩, .slice (some ⟨w.heap.size, 0, none⟩) 1 1] 25)).heap.size = w.heap.size + 2 := by simp
  rw [show (w.alloc (.cells #[.int .i64 1, .string ⟨#[]⟩, .slice none 0 0] 25)).heap.size = w.heap.size + 1 by simp] at q1
  obtain ⟨W1, hW1⟩ : ∃ W1, ((w.alloc (.cells #[.int .i64 1, .string ⟨#[]⟩, .slice none 0 0] 25)).alloc (.cells #[.int .i64 9, .string ⟨#[]⟩, .slice (some ⟨w.heap.size, 0, none⟩) 1 1] 25)) = W1 := ⟨_, rfl⟩
  rw [hW1] at q0 q1 b1 z1 ⊢
  clear hW1 b0
  have k1 := kids_leaf q0
  clear q0
  obtain ⟨nk, nt, nu⟩ := q1.cells
  have Z1 := Lib.hid z1
  clear z1
  have inn : True := trivial 
  have al := (Below.refl W1.heap.size W1).alloc (Nat.le_refl _) (.cells #[.int .i64 0] 3) 
  have iv : IntsAt (W1.alloc (.cells #[.int .i64 0] 3)) (fun _ => True) (.slice (some ⟨W1.heap.size, 0, none⟩) 1 1) [0] := ints_one (cell_of_block (World.alloc_heap_new W1 _) rfl) 
  have c := at_calls twoN _ [0] _ _ _ _ (k1.stays al) iv two_count 
  rw [at_zero] at c 
  have HC := Lib.hid c 
  have AL := Lib.hid al 
  clear c al iv 
  go_upto_region 3 with (go_at_call 17; refine HC.out.mono ?_; rintro _ V ⟨u, rfl, ku, bl⟩; obtain ⟨pu, cu, rfl, lu⟩ := ku.shape; simp only [nodeV, leafN, NodeT.kind, NodeT.text, NodeT.kids, List.length_nil, Option.getD, Option.isSome]; have KU := Lib.hid ku; have BL := Lib.hid bl; clear ku bl)
  have b2 := ((AL.out.trans (BL.out.mono AL.out.size))).alloc (AL.out.trans (BL.out.mono AL.out.size)).size (.cells #[.int .i64 1, .string ⟨#[]⟩, .slice pu 0 cu] 25)
  have x2 := nbox_new V 25 1 ⟨#[]⟩ (.slice pu 0 cu)
  have hxv : W1.heap.size ≤ V.heap.size := (AL.out.trans (BL.out.mono AL.out.size)).size
  clear AL BL KU HC nk nt nu lu
  obtain ⟨W2, hW2⟩ : ∃ W2, V.alloc (.cells #[.int .i64 1, .string ⟨#[]⟩, .slice pu 0 cu] 25) = W2 := ⟨_, rfl⟩
  rw [hW2] at b2 x2 ⊢
  clear hW2
  have q1 := q1.stays b2
  have k1 := k1.stays b2
  have b1 := b1.trans (b2.mono b1.size)
  clear b2
  obtain ⟨nk, nt, nu⟩ := q1.cells
  generalize V.heap.size = X at x2 hxv ⊢
  have inn : True := trivial 
  have al := (Below.refl W2.heap.size W2).alloc (Nat.le_refl _) (.cells #[.int .i64 1] 3) 
  have iv : IntsAt (W2.alloc (.cells #[.int .i64 1] 3)) (fun _ => True) (.slice (some ⟨W2.heap.size, 0, none⟩) 1 1) [1] := ints_one (cell_of_block (World.alloc_heap_new W2 _) rfl) 
  have c := at_calls twoN _ [1] _ _ _ _ (k1.stays al) iv two_count 
  rw [at_one] at c 
  have HC := Lib.hid c 
  have AL := Lib.hid al 
  clear c al iv 
  go_upto_region 4 with (go_at_call 17; refine HC.out.mono ?_; rintro _ V ⟨u, rfl, ku, bl⟩; obtain ⟨pu, cu, rfl, lu⟩ := ku.shape; simp only [nodeV, zeroN, NodeT.kind, NodeT.text, NodeT.kids, List.length_nil, Option.getD, Option.isSome]; have KU := Lib.hid ku; have BL := Lib.hid bl; clear ku bl)
  have b2 := ((AL.out.trans (BL.out.mono AL.out.size))).alloc (AL.out.trans (BL.out.mono AL.out.size)).size (.cells #[.int .i64 0, .string ⟨#[]⟩, .slice pu 0 cu] 25)
  clear AL BL KU HC nk nt nu lu
  obtain ⟨W3, hW3⟩ : ∃ W3, V.alloc (.cells #[.int .i64 0, .string ⟨#[]⟩, .slice pu 0 cu] 25) = W3 := ⟨_, rfl⟩
  rw [hW3] at b2 ⊢
  clear hW3
  generalize V.heap.size = Y
  have q1 := q1.stays b2
  have k1 := k1.stays b2
  have x1 := x2.stays b2
  have b1 := b1.trans (b2.mono b1.size)
  clear b2 x2
  have c1 := nshow_calls leafN (.slice none 0 0) W3 (fun _ => True) (.nil _ _) leaf_wide (by decide +kernel) (hT.stays b1)
  simp only [nodeV, leafN, NodeT.kind, NodeT.text] at c1
  have c2 := fun (U : World) (h : RowKit.Below W3.heap.size W3 U) => ndeep_calls twoN _ U _ (k1.stays h) two_count
  have c3 := fun (U : World) (h : RowKit.Below W3.heap.size W3 U) => ncount_calls twoN _ U _ (k1.stays h) two_count
  have c4 := fun (U : World) (h : RowKit.Below W3.heap.size W3 U) => paths_calls twoN _ U _ (k1.stays h) (by decide +kernel)
  simp only [nodeV, twoN, NodeT.kind, NodeT.text] at c2 c3 c4
  have C1 := Lib.hid c1
  have C2 := Lib.hid c2
  have C3 := Lib.hid c3
  have C4 := Lib.hid c4
  have Q1 := Lib.hid q1
  have X1 := Lib.hid x1
  have B1 := Lib.hid b1
  clear c1 c2 c3 c4 q1 x1 b1 k1 hT
  go_wp2_with (first
    | (go_at_call 10; refine C1.out.mono ?_; rintro _ U ⟨rfl, b⟩; have D1 := Lib.hid b; clear b; rw [show showN quoteL (NodeT.mk 1 ⟨#[]⟩ []) = _ from show_leaf]; obtain ⟨n0, n1, n2⟩ := (Q1.out.stays D1.out).cells; obtain ⟨m0, m1, m2⟩ := (X1.out.stays D1.out).cells)
    | (go_at_call 13; refine (C2.out _ D1.out).mono ?_; rintro _ U2 ⟨rfl, b⟩; have D2 := Lib.hid (D1.out.trans (b.mono D1.out.size)); clear b; rw [show deepN (NodeT.mk 9 ⟨#[]⟩ [leafN]) = 2 by decide +kernel]; obtain ⟨n0, n1, n2⟩ := (Q1.out.stays D2.out).cells)
    | (go_at_call 12; refine (C3.out _ D2.out).mono ?_; rintro _ U3 ⟨rfl, b⟩; have D3 := Lib.hid (D2.out.trans (b.mono D2.out.size)); clear b; rw [show countN (NodeT.mk 9 ⟨#[]⟩ [leafN]) = 2 by decide +kernel]; obtain ⟨n0, n1, n2⟩ := (Q1.out.stays D3.out).cells)
    | (go_at_call 16; refine (C4.out _ D3.out).mono ?_; rintro _ U4 ⟨v, xs, rfl, ho, he, _, b⟩; have D4 := Lib.hid (D3.out.trans (b.mono D3.out.size)); clear b; have hl2 := two_rows he; rw [hl2] at ho; obtain ⟨p, cp, rfl⟩ := slice_of_own ho; clear ho he))
  go_ret
  exact ⟨rfl, B1.out.trans (D4.out.mono B1.out.size)⟩
end Go.Proofs.YtigpffbhkopjeaaDoor
