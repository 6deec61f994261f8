/- The text that choices say, as the program joins it. Its condition: the choices' cells hold bytes. -/
import Derived.Test.YtfaocpcbejgfjaaDoorLl3
namespace Go.Proofs.YtfaocpcbejgfjaaDoor
open Go.RowKit Go.Sub

def srcI : List (List UInt8) := [[46], [46, 97], [36, 120], [102], [40], [41], [91], [93], [123], [125], [124], [44], [49], [49, 46, 53, 101, 51], [34], [92, 40], [92, 110], [32], [10], [35, 32, 110, 10], [35, 32, 97, 92, 10], [97, 110, 100], [97, 115], [64, 106, 115, 111, 110], [63, 47, 47], [47, 47], [46, 46], [58], [59], [61], [45], [195, 169], [105, 102], [97, 58, 58, 98], [92, 113], [35, 92, 13, 10], [34]]
def srcC : List Value := srcI.map fun x => Value.string ⟨x.toArray⟩
theorem srcI_len : ∀ x ∈ srcI, x.length ≤ 5 := by decide +kernel
theorem utf_src : ∀ x ∈ srcI, Utf x := by
  intro x hx
  by_cases h : x = [195, 169]
  · rw [h]; exact utf_e
  · refine utf_ascii ?_
    have := (show ∀ x ∈ srcI, x = [195, 169] ∨ ∀ b ∈ x, b.toNat < 128 by decide +kernel) x hx
    exact this.resolve_left h
set_option maxRecDepth 100000 in
set_option maxHeartbeats 4000000 in
theorem source_calls (v : Value) (w : World) (hv : BytesV w v) :
    Calls Tryd.prog 10 #[v] w fun e w' => ∃ R : ByteArray, e = .returned (.string R) ∧ R.size ≤ 300 ∧ Utf R.data.toList ∧ Below w.heap.size w w' := by
  obtain ⟨p, len, cap, rfl, hl, hc⟩ := bytesW_of hv
  clear hv
  have hb1 : (w.alloc (.cells srcC.toArray 9)).heap[w.heap.size]? = some (.cells srcC.toArray 9 (0, 0)) := World.alloc_heap_new w _
  have hB1 := (Below.refl w.heap.size w).alloc (Nat.le_refl _) (.cells srcC.toArray 9)
  obtain ⟨W1, hW1⟩ : ∃ W1, w.alloc (.cells srcC.toArray 9) = W1 := ⟨_, rfl⟩
  rw [hW1] at hb1 hB1
  simp only [srcC, srcI, List.map_cons, List.map_nil] at hW1
  go_enter Tryd.func10, Tryd.ntmps10
  go_wp2
  clear hW1
  go_loopw [4, 5] (fun v i wr => ∃ (k : Nat) (R : ByteArray) (xs : List (List UInt8)), v = .string R ∧ i = .int .i64 k ∧ k ≤ 60 ∧ R.size ≤ 5 * k ∧ Hid (R.data.toList = xs.flatten ∧ ∀ x ∈ xs, x ∈ srcI) ∧ wr.heap[w.heap.size]? = some (.cells srcC.toArray 9 (0, 0)) ∧ Below w.heap.size w wr) (fun _ i _ => 60 - (intOf i).toNat)
  case atStart => exact ⟨0, _, [], rfl, rfl, by omega, by decide, Lib.hid ⟨rfl, fun x h => by simp at h⟩, hb1, hB1⟩
  case round =>
    clear hb1 hB1
    obtain ⟨k, R, xs, rfl, rfl, hk, hR, HR, hbl, hB⟩ := hrel
    by_cases hlt : k < len ∧ k < 60
    · obtain ⟨hl1, hl2⟩ := hlt
      obtain ⟨a, x, rfl, hx⟩ := hc k hl1
      have hx' : wr.cell? (a.add k) = some (.int .u8 (x.toNat : Int)) := (hB.cell (World.block_lt_of_cell? _ _ hx)).trans hx
      have hxl := x.toNat_lt
      obtain ⟨y, hy⟩ : ∃ y, srcI[x.toNat % 37]? = some y := ⟨_, List.getElem?_eq_getElem (show _ < 37 by omega)⟩
      have hym := List.mem_of_getElem? hy
      have hy3 := srcI_len y hym
      have hcl : wr.cell? ⟨w.heap.size, x.toNat % 37, none⟩ = some (.string ⟨y.toArray⟩) := cell_of_block hbl (by simp [srcC, hy])
      obtain ⟨Y, hY⟩ : ∃ Y : ByteArray, (⟨y.toArray⟩ : ByteArray) = Y := ⟨_, rfl⟩
      have hYs : Y.size ≤ 5 := by rw [← hY]; exact hy3
      have HY := Lib.hid (show Y.data.toList = y by rw [← hY])
      have Hym := Lib.hid hym
      rw [hY] at hcl
      have Hbl := Lib.hid hbl
      clear hY hy hy3 hx hc hbl hym
      go_wp2
      go_roundw
      case rel => exact ⟨k + 1, _, xs ++ [y], rfl, by go_num, by omega, by rw [ByteArray.size_append]; omega, Lib.hid ⟨by rw [ByteArray.data_append, Array.toList_append, HR.out.1, HY.out]; simp, fun z hz => by rcases List.mem_append.1 hz with h | h; exact HR.out.2 z h; rw [List.mem_singleton.1 h]; exact Hym.out⟩, Hbl.out, hB⟩
      case measure => simp only [intOf]; omega
    · clear hc
      go_wp2
      all_goals
        go_ret
        exact ⟨R, rfl, by omega, by rw [HR.out.1]; exact utf_flat utf_src xs HR.out.2, hB⟩
end Go.Proofs.YtfaocpcbejgfjaaDoor
