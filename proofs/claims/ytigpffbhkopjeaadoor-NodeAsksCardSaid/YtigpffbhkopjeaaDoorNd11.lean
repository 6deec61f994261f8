/- A kid by its place; a node by a path. Its condition: how the tree lies in memory; at most 10^9 nodes. -/
import Derived.Test.YtigpffbhkopjeaaDoorNd9
import Derived.Test.YtigpffbhkopjeaaDoorNd10
namespace Go.Proofs.YtigpffbhkopjeaaDoor
open Go.RowKit Go.Sub Go.Sort

set_option maxRecDepth 100000 in
theorem kid_some (w : World) (b o : Nat) (k : Int) (t : ByteArray) (g og n c j : Nat) (h : NCells w b o k t (.slice (some ⟨g, og, none⟩) n c)) (hj : j < n) (_hn : n ≤ 4611686018427387904) :
    Calls Tryd.prog 37 #[.pointer (some ⟨b, o, none⟩), .int .i64 (j : Int)] w fun e w' => e = .returned (.pointer (some ⟨g, og + j * 3, none⟩)) ∧ w' = w := by
  obtain ⟨c0, c1, c2⟩ := h
  have y1 : decide ((n : Int) ≤ (j : Int)) = false := by simp; omega
  have y2 : decide ((j : Int) < 0) = false := by simp
  go_enter Tryd.func37, Tryd.ntmps37
  go_wp2
  go_ret
  exact ⟨rfl, rfl⟩
set_option maxRecDepth 100000 in
theorem kid_none (w : World) (b o : Nat) (k : Int) (t : ByteArray) (p : Option Addr) (n c : Nat) (i : Int) (h : NCells w b o k t (.slice p n c)) (hi : i < 0 ∨ (n : Int) ≤ i) :
    Calls Tryd.prog 37 #[.pointer (some ⟨b, o, none⟩), .int .i64 i] w fun e w' => e = .returned (.pointer none) ∧ w' = w := by
  obtain ⟨c0, c1, c2⟩ := h
  by_cases h0 : i < 0
  · go_enter Tryd.func37, Tryd.ntmps37
    go_wp2
    go_ret
    exact ⟨rfl, rfl⟩
  · have h1 : (n : Int) ≤ i := by omega
    have h0' : 0 ≤ i := by omega
    go_enter Tryd.func37, Tryd.ntmps37
    go_wp2
    go_ret
    exact ⟨rfl, rfl⟩
end Go.Proofs.YtigpffbhkopjeaaDoor
