/- A row of numbers cloned. Its condition: how it lies in memory; at most 10^9 numbers. -/
import Derived.Test.YtigpffbhkopjeaaDoorNd13
import Derived.Lib.SliceRun
namespace Go.Proofs.YtigpffbhkopjeaaDoor
open Go.RowKit Go.Sub Go.Sort

theorem ownsRow_empty (w : World) (e : TypeId) (size : Nat) : (w.alloc (.cells #[] e)).ownsRow w.heap.size e size (.slice (some ⟨w.heap.size, 0, none⟩) 0 0) 0 [] :=
  ⟨by simp, .inr ⟨w.heap.size, 0, #[], rfl, Nat.le_refl _, World.alloc_heap_new w _, Nat.le_refl _, by simp [maxLen], by simp, by simp⟩⟩
set_option maxRecDepth 100000 in
set_option maxHeartbeats 1000000 in
theorem clone_calls (xs : List Int) (v : Value) (w : World) (S : Nat → Prop) (hv : IntsAt w S v xs) (hl : xs.length ≤ 1000000000) :
    Calls Tryd.prog 50 #[v] w fun e w' => ∃ v', e = .returned v' ∧ w'.ownsRow w.heap.size 3 1 v' xs.length (intC xs) ∧ Below w.heap.size w w' := by
  obtain ⟨p, cap, b, o, rfl, hp, _, hx⟩ := hv
  obtain ⟨i0, hi, hz0, hz1, hz2⟩ := info_parts int_info
  cases p with
  | none =>
    have : xs = [] := by
      cases xs with
      | nil => rfl
      | cons x r => exact absurd (hp (by simp)).1 (by simp)
    subst this
    have he := fun (w : World) => Lib.run_eql_slice_nil (P := Tryd.prog) w 37 3 none 0 cap 0 0 ints_und
    go_enter Tryd.func50, Tryd.ntmps50
    go_wp2
    go_ret
    exact ⟨_, rfl, World.ownsRow_nil _ _ _ _, Below.refl _ _⟩
  | some a =>
    have hcell : ∀ (j : Nat) (u : Value), (intC xs)[j]? = some u → w.cell? (a.add j) = some u := by
      intro j u hu
      unfold intC at hu
      rw [List.getElem?_map, Option.map_eq_some_iff] at hu
      obtain ⟨x, hxj, rfl⟩ := hu
      have h0 : 0 < xs.length := by have := (List.getElem?_eq_some_iff.1 hxj).1; omega
      have := (hp h0).1
      cases this
      have hc := hx j x hxj
      rwa [show (⟨b, o, none⟩ : Addr).add j = ⟨b, o + j, none⟩ by unfold Addr.add; split <;> simp_all]
    have hal := (Below.refl w.heap.size w).alloc (Nat.le_refl _) (.cells #[] 3)
    have HC := Lib.hid (fun (j : Nat) (u : Value) (hu : (intC xs)[j]? = some u) => (hal.cell (World.block_lt_of_cell? _ _ (hcell j u hu))).trans (hcell j u hu))
    have HO := Lib.hid (ownsRow_empty w 3 1)
    have Hal := Lib.hid hal
    have HX := Lib.hid hx
    clear hcell hp hx hal
    have he := fun (w : World) => Lib.run_eql_slice_nil (P := Tryd.prog) w 37 3 (some a) xs.length cap 0 0 ints_und
    go_enter Tryd.func50, Tryd.ntmps50
    go_wp2_with (at_builtin; refine wpList_append_O _ rfl _ _ 37 rfl w.heap.size 3 i0 _ 1 8 ints_und hi hz0 hz1 hz2 rfl (by decide) _ 0 _ rfl HO.out a xs.length cap (intC xs) rfl (by unfold intC; rw [List.length_map]; omega) HC.out (by intro u hu; unfold intC at hu; obtain ⟨x, _, rfl⟩ := List.mem_map.1 hu; rfl) (by simp only [maxLen]; omega) (by omega) (by simp) ?_; intro v' w3 hown hkeep hblk _; rw [Nat.zero_add, List.nil_append] at hown; have HOWN := Lib.hid hown; have HST := Lib.hid (Hal.out.trans (hkeep.below (by simp) (fun b hb => by cases hb; exact Nat.le_refl _))); clear hown hkeep hblk)
    go_ret
    exact ⟨_, rfl, HOWN.out, HST.out⟩
end Go.Proofs.YtigpffbhkopjeaaDoor
