/- The text that choices say, as the program joins it. Its condition: the choices' cells hold bytes. -/
import Derived.Test.YtpdkfofoeoakmaaDoorSg10
namespace Go.Proofs.YtpdkfofoeoakmaaDoor
open Go.RowKit Go.Sub

def frontL : List (List UInt8) := [[97], [95], [90], [57], [48], [46], [58, 58], [58], [101], [69], [43], [45], [92], [117], [47], [63], [61], [124], [60], [34], [110], [100, 101, 102], [195, 169], [120], [42], [37], [33], [36], [64], [41]]
def frontC : List Value := frontL.map fun x => Value.string ⟨x.toArray⟩
theorem front_len : ∀ x ∈ frontL, x.length ≤ 3 := by decide +kernel
/-- a slice of bytes that lies in a world -/
def BytesAt (w : World) (a : Addr) (len : Nat) : Prop := ∀ j < len, ∃ x : UInt8, w.cell? (a.add j) = some (.int .u8 (x.toNat : Int))
def BytesV (w : World) (v : Value) : Prop := v = .slice none 0 0 ∨ ∃ a len cap, v = .slice (some a) len cap ∧ BytesAt w a len ∧ len ≤ 9223372036854775807

set_option maxRecDepth 100000 in
set_option maxHeartbeats 1000000 in
theorem front_calls (a : Addr) (len cap : Nat) (w : World) (hc : BytesAt w a len) (hl : len ≤ 9223372036854775807) :
    Calls Tryd.prog 17 #[.slice (some a) len cap] w fun e w' => ∃ R : ByteArray, e = .returned (.string R) ∧ R.size ≤ 36 ∧ Below w.heap.size w w' := by
  have hb1 : (w.alloc (.cells frontC.toArray 9)).heap[w.heap.size]? = some (.cells frontC.toArray 9 (0, 0)) := World.alloc_heap_new w _
  have hB1 := (Below.refl w.heap.size w).alloc (Nat.le_refl _) (.cells frontC.toArray 9)
  obtain ⟨W1, hW1⟩ : ∃ W1, w.alloc (.cells frontC.toArray 9) = W1 := ⟨_, rfl⟩
  rw [hW1] at hb1 hB1
  simp only [frontC, frontL, List.map_cons, List.map_nil] at hW1
  go_enter Tryd.func17, Tryd.ntmps17
  go_wp2
  clear hW1
  go_loopw [4, 5] (fun v i wr => ∃ (k : Nat) (R : ByteArray), v = .string R ∧ i = .int .i64 k ∧ k ≤ 12 ∧ R.size ≤ 3 * k ∧ wr.heap[w.heap.size]? = some (.cells frontC.toArray 9 (0, 0)) ∧ Below w.heap.size w wr) (fun _ i _ => 12 - (intOf i).toNat)
  case atStart => exact ⟨0, _, rfl, rfl, by omega, by decide, hb1, hB1⟩
  case round =>
    clear hb1 hB1
    obtain ⟨k, R, rfl, rfl, hk, hR, hbl, hB⟩ := hrel
    by_cases hlt : k < len ∧ k < 12
    · obtain ⟨hl1, hl2⟩ := hlt
      obtain ⟨x, hx⟩ := hc k hl1
      have hx' : wr.cell? (a.add k) = some (.int .u8 (x.toNat : Int)) := (hB.cell (World.block_lt_of_cell? _ _ hx)).trans hx
      have hxl := x.toNat_lt
      obtain ⟨y, hy⟩ : ∃ y, frontL[x.toNat % 30]? = some y := ⟨_, List.getElem?_eq_getElem (show _ < 30 by omega)⟩
      have hy3 := front_len y (List.mem_of_getElem? hy)
      have hcl : wr.cell? ⟨w.heap.size, x.toNat % 30, none⟩ = some (.string ⟨y.toArray⟩) := cell_of_block hbl (by simp [frontC, hy])
      obtain ⟨Y, hY⟩ : ∃ Y : ByteArray, (⟨y.toArray⟩ : ByteArray) = Y := ⟨_, rfl⟩
      have hYs : Y.size ≤ 3 := by rw [← hY]; exact hy3
      rw [hY] at hcl
      have Hbl := Lib.hid hbl
      clear hY hy hy3 hbl hx hc
      go_wp2
      go_roundw
      case rel => exact ⟨k + 1, _, rfl, by go_num, by omega, by rw [ByteArray.size_append]; omega, Hbl.out, hB⟩
      case measure => simp only [intOf]; omega
    · go_wp2
      all_goals
        go_ret
        exact ⟨R, rfl, by omega, hB⟩

set_option maxRecDepth 100000 in
set_option maxHeartbeats 1000000 in
theorem front_nil (w : World) :
    Calls Tryd.prog 17 #[.slice none 0 0] w fun e w' => ∃ R : ByteArray, e = .returned (.string R) ∧ R.size ≤ 36 ∧ Below w.heap.size w w' := by
  have hB1 := (Below.refl w.heap.size w).alloc (Nat.le_refl _) (.cells frontC.toArray 9)
  obtain ⟨W1, hW1⟩ : ∃ W1, w.alloc (.cells frontC.toArray 9) = W1 := ⟨_, rfl⟩
  rw [hW1] at hB1
  simp only [frontC, frontL, List.map_cons, List.map_nil] at hW1
  go_enter Tryd.func17, Tryd.ntmps17
  go_wp2
  clear hW1
  go_loopw [4, 5] (fun v i wr => v = .string ⟨#[]⟩ ∧ i = .int .i64 0 ∧ Below w.heap.size w wr) (fun _ i _ => 12 - (intOf i).toNat)
  case atStart => exact ⟨rfl, rfl, hB1⟩
  case round =>
    clear hB1
    obtain ⟨rfl, rfl, hB⟩ := hrel
    go_wp2
    go_ret
    exact ⟨_, rfl, by decide, hB⟩
theorem front_any (v : Value) (w : World) (h : BytesV w v) :
    Calls Tryd.prog 17 #[v] w fun e w' => ∃ R : ByteArray, e = .returned (.string R) ∧ R.size ≤ 36 ∧ Below w.heap.size w w' := by
  rcases h with rfl | ⟨a, len, cap, rfl, hc, hl⟩
  · exact front_nil w
  · exact front_calls a len cap w hc hl
theorem BytesV.below {w w' : World} {v : Value} (h : BytesV w v) (hb : Below w.heap.size w w') : BytesV w' v := by
  rcases h with rfl | ⟨a, len, cap, rfl, hc, hl⟩
  · exact .inl rfl
  · refine .inr ⟨a, len, cap, rfl, fun j hj => ?_, hl⟩
    obtain ⟨x, hx⟩ := hc j hj
    exact ⟨x, (hb.cell (World.block_lt_of_cell? _ _ hx)).trans hx⟩
end Go.Proofs.YtpdkfofoeoakmaaDoor
