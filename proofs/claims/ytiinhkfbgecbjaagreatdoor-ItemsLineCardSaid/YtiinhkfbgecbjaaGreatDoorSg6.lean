/- The operators' text is cut at its blanks: what the iterator tells. No condition. -/
import Derived.RangeFuncNested
import Derived.RangeFuncBound
import Derived.RangeFuncCalls
import Derived.RangeFuncLeaves
import Derived.Shelf.Abstract
import Derived.Shelf.RegionOpen
import Derived.OwnWalkIn
import Derived.TacticsInMore
import Derived.LoopNIn
import Derived.LoopIn
import Derived.Test.YtiinhkfbgecbjaaGreatDoorSg5
import Derived.Test.YtiinhkfbgecbjaaGreatDoorRange
import Derived.Test.YtiinhkfbgecbjaaGreatDoorAppend
namespace Go.Proofs.YtiinhkfbgecbjaaGreatDoor
set_option linter.unusedSimpArgs false
set_option linter.unusedVariables false
open Go.RowKit Go.Sub
attribute [local go_sem] Oper.semAt_some

def opersS : List UInt8 := [63, 47, 47, 32, 47, 47, 61, 32, 33, 61, 32, 61, 61, 32, 60, 61, 32, 62, 61, 32, 124, 61, 32, 43, 61, 32, 45, 61, 32, 42, 61, 32, 47, 61, 32, 37, 61, 32, 47, 47, 32, 46, 46, 32, 46, 32, 91, 32, 93, 32, 40, 32, 41, 32, 123, 32, 125, 32, 44, 32, 58, 32, 59, 32, 61, 32, 124, 32, 43, 32, 45, 32, 42, 32, 47, 32, 37, 32, 60, 32, 62, 32, 63]
def opsL : List (List UInt8) := [[63, 47, 47], [47, 47, 61], [33, 61], [61, 61], [60, 61], [62, 61], [124, 61], [43, 61], [45, 61], [42, 61], [47, 61], [37, 61], [47, 47], [46, 46], [46], [91], [93], [40], [41], [123], [125], [44], [58], [59], [61], [124], [43], [45], [42], [47], [37], [60], [62], [63]]
def curO : Nat → List UInt8
  | 0 => opersS
  | k + 1 => (curO k).drop ((Lib.indexByte (curO k) 32).toNat + 1)
def lenO (k : Nat) : Nat := (opsL.getD k []).length
theorem cur_facts : (List.range 33).all (fun k => Lib.indexByte (curO k) 32 == (lenO k : Int) && (decide (lenO k + 1 ≤ (curO k).length) && ((curO k).take (lenO k) == opsL.getD k [] && (curO k).drop (lenO k + 1) == curO (k + 1)))) = true := by decide +kernel
theorem cur_at (k : Nat) (h : k < 33) : Lib.indexByte (curO k) 32 = (lenO k : Int) ∧ lenO k + 1 ≤ (curO k).length ∧ (curO k).take (lenO k) = opsL.getD k [] ∧ (curO k).drop (lenO k + 1) = curO (k + 1) := by
  have := List.all_eq_true.1 cur_facts k (List.mem_range.2 h)
  simp only [Bool.and_eq_true, beq_iff_eq, decide_eq_true_eq] at this
  exact this
theorem cur_end : Lib.indexByte (curO 33) 32 = -1 ∧ curO 33 = [63] := by decide +kernel
theorem curO_le (k : Nat) : (curO k).length ≤ 100 := by
  induction k with
  | zero => decide +kernel
  | succ k ih => show ((curO k).drop _).length ≤ 100; rw [List.length_drop]; omega
def cellLen : Option Value → Nat | some (.string s) => s.size | _ => 0
def encB (x : List UInt8) : Array Value := #[.string ⟨x.toArray⟩]
theorem ops_snoc (k : Nat) (h : k < 34) : opsL.take k ++ [opsL.getD k []] = opsL.take (k + 1) := by
  have hl : opsL.length = 34 := rfl
  rw [List.take_add_one, List.getElem?_eq_getElem (by omega), List.getD_eq_getElem?_getD, List.getElem?_eq_getElem (by omega)]
  rfl
theorem heap_lt {w : World} {b : Nat} {o : Obj} (h : w.heap[b]? = some o) : b < w.heap.size := (Array.getElem?_eq_some_iff.1 h).1
theorem setBox (W : World) (b : Nat) (v : Value) (O : Nat → Prop) (h : O b) : Keeps O W (W.setCell ⟨b, 0, none⟩ v) := Keeps.setCell W b v h

set_option maxRecDepth 100000 in
set_option maxHeartbeats 1000000 in
theorem split_in (n : Nat) (hn : 1 ≤ n) (l : Nat) (b0 b1 b2 : Nat) (h01 : b0 ≠ b1) (h02 : b0 ≠ b2) (J Jx : List (List UInt8) → (Nat → Prop) → World → Prop) (W : World) (O : Nat → Prop)
    (hO : ∀ b, O b → b < W.heap.size ∧ ¬ b = b0 ∧ ¬ (b = b1 ∨ b = b2))
    (hJ : ∀ pre O A B, J pre O A → Keeps (fun b => ¬ O b ∧ (b = b0 ∨ W.heap.size ≤ b)) A B → J pre O B)
    (hY : ∀ pre x W1 O1, J pre O1 W1 → pre.length < 34 → YieldAt Fence.wide (n - 1) Tryz.prog l (encB x) W1 fun e W' => ∃ O2, Keeps O1 W1 W' ∧ (∀ b, O2 b → (O1 b ∨ W1.heap.size ≤ b) ∧ b < W'.heap.size) ∧
      ((e = .returned (.bool true) ∧ J (pre ++ [x]) O2 W') ∨ (e = .returned (.bool false) ∧ Jx (pre ++ [x]) O2 W')))
    (hb0 : Boxed W b0 9 (.string ⟨(curO 0).toArray⟩)) (hb1 : Boxed W b1 9 (.string ⟨#[32]⟩)) (hb2 : Boxed W b2 3 (.int .i64 0)) (h0 : J [] O W) :
    CallsIn Fence.wide n Tryz.prog 124 #[.func (.yield l) #[] #[], .pointer (some ⟨b1, 0, none⟩), .pointer (some ⟨b0, 0, none⟩), .pointer (some ⟨b2, 0, none⟩)] W fun e W' => (∃ v, e = .returned v) ∧
      ((∃ ys O', ys = opsL ∧ J ys O' W') ∨ (∃ pre O', pre <+: opsL ∧ Jx pre O' W')) := by
  refine callsIn_of_wp Tryz.func124 rfl trivial ?_ rfl
  simp only [Tryz.ntmps124, List.size_toArray, List.length_cons, List.length_nil, Nat.reduceAdd, Nat.reduceSub, Array.replicate_succ, Array.replicate_zero, List.push_toArray, List.append_toArray, List.nil_append, List.cons_append]
  have hc1 := hb1.cell
  gi_wp2
  clear hc1
  gi_loopw [7, 8] (fun _ _ wr => ∃ (k : Nat) (O : Nat → Prop), k ≤ 33 ∧ Boxed wr b0 9 (.string ⟨(curO k).toArray⟩) ∧ Boxed wr b1 9 (.string ⟨#[32]⟩) ∧ Boxed wr b2 3 (.int .i64 0) ∧ J (opsL.take k) O wr ∧ (¬ O b0 ∧ ¬ O b1 ∧ ¬ O b2) ∧ W.heap.size ≤ wr.heap.size)
    (fun _ _ wr => cellLen (wr.cell? ⟨b0, 0, none⟩))
  case atStart => exact ⟨0, O, by omega, hb0, hb1, hb2, h0, ⟨fun h => (hO _ h).2.1 rfl, fun h => (hO _ h).2.2 (.inl rfl), fun h => (hO _ h).2.2 (.inr rfl)⟩, Nat.le_refl _⟩
  case round =>
    clear hb0 hb1 hb2 h0 hO O
    obtain ⟨k, O, hk, hb0, hb1, hb2, hJk, ⟨hO0, hO1, hO2⟩, hWs⟩ := hrel
    have hc0 := hb0.cell
    have hc1 := hb1.cell
    have hc2 := hb2.cell
    have hf0 := hb0.frozen
    by_cases hlt : k < 33
    · obtain ⟨f1, f2, f3, f4⟩ := cur_at k hlt
      have f5 := curO_le k
      have hidx := Tryz.strings_Index_one ⟨(curO k).toArray⟩ 32 wr
      have hS1 : (⟨(curO k).toArray⟩ : ByteArray).extract 0 (lenO k) = ⟨(opsL.getD k []).toArray⟩ := by
        rw [Lib.extract_eq, ← f3]; rfl
      have hS2 : (⟨(curO k).toArray⟩ : ByteArray).extract (lenO k + 1) (curO k).length = ⟨(curO (k + 1)).toArray⟩ := by
        rw [Lib.extract_eq, ← f4]
        show ByteArray.mk (((curO k).drop (lenO k + 1)).take _).toArray = _
        rw [List.take_of_length_le (by rw [List.length_drop]; exact Nat.le_refl _)]
      have hS3 : (curO (k + 1)).length < (curO k).length := by rw [← f4, List.length_drop]; omega
      have hidx2 : Lib.indexByte (⟨(curO k).toArray⟩ : ByteArray).data.toList 32 = (lenO k : Int) := f1
      rw [hidx2] at hidx
      have hSs : (⟨(curO k).toArray⟩ : ByteArray).size = (curO k).length := rfl
      have hSn : (⟨(curO (k + 1)).toArray⟩ : ByteArray).size = (curO (k + 1)).length := rfl
      have Hsn := Lib.hid (ops_snoc k (by omega))
      generalize opsL.getD k [] = x at *
      generalize hS : (⟨(curO k).toArray⟩ : ByteArray) = S at *
      generalize hN : (⟨(curO (k + 1)).toArray⟩ : ByteArray) = N at *
      rw [← hSs] at hS2 f2 f5 hS3
      rw [← hSn] at hS3
      have HS1 := Lib.hid hS1
      have HS2 := Lib.hid hS2
      have HN := Lib.hid hN
      clear f1 f3 f4 hidx2 hSs hSn hS hN hS1 hS2
      generalize lenO k = ln at *
      have hl0 := hb0.lt
      have hl1 := hb1.lt
      have hl2 := hb2.lt
      obtain ⟨fn, tmps, assign, body, hy, hR⟩ := hY _ x wr O hJk (by rw [List.length_take]; omega)
      rw [show encB x = #[.string (S.extract 0 ln)] by rw [HS1.out]; rfl] at hy
      gi_wp2_with (refine ⟨trivial, ?_⟩; gi_at_call 126; refine (callsIn_wide.2 hidx).mono ?_; rintro e w' ⟨rfl, rfl⟩)
      refine hR.mono ?_
      clear hidx hy hJk
      rintro e W3 ⟨O2, hk3, hO2', (⟨rfl, hJ3⟩ | ⟨rfl, hJx3⟩)⟩
      · have hb03 := boxed_keeps hb0 hk3 hO0
        have hb13 := boxed_keeps hb1 hk3 hO1
        have hb23 := boxed_keeps hb2 hk3 hO2
        have hn : ∀ b, ¬ O b → b < w'.heap.size → ¬ O2 b := fun b h1 h2 h => (hO2' b h).1.elim h1 (by omega)
        have hn0 := hn _ hO0 hl0
        have hn1 := hn _ hO1 hl1
        have hn2 := hn _ hO2 hl2
        have hs3 := hk3.size
        have hms : cellLen (w'.cell? ⟨b0, 0, none⟩) = S.size := by rw [hb0.cell]; rfl
        have hms3 : cellLen ((W3.setCell ⟨b0, 0, none⟩ (.string N)).cell? ⟨b0, 0, none⟩) = N.size := by rw [(hb03.set (.string N)).cell]; rfl
        have Hms := Lib.hid hms
        have Hms3 := Lib.hid hms3
        rw [Hsn.out] at hJ3
        clear hms hms3 hn hR hb0 hb1 hb2 hc0 hc1 hc2 hf0
        have hc0 := hb03.cell
        have hc1 := hb13.cell
        have hc2 := hb23.cell
        have hf0 := hb03.frozen
        gi_wp2
        rw [HS2.out]
        go_roundw
        case rel =>
          refine ⟨k + 1, O2, by omega, ?_, hb13.other h01.symm _, hb23.other h02.symm _, ?_, ⟨hn0, hn1, hn2⟩, ?_⟩
          · rw [HN.out]; exact hb03.set _
          · exact hJ _ _ _ _ hJ3 ((Keeps.setCell (O := fun b => b = b0) W3 b0 _ rfl).mono fun b _ h => ⟨by rw [h]; exact hn0, .inl h⟩)
          · have := (Keeps.setCell (O := fun b => b = b0) W3 b0 (.string N) rfl).size; omega
        case measure => rw [Hms.out, Hms3.out]; omega
      · gi_wp2
        refine bodyPost_ret (results_none rfl _ _ _) rfl ?_
        refine ⟨⟨_, rfl⟩, .inr ⟨_, O2, ?_, hJx3⟩⟩
        rw [Hsn.out]; exact List.take_prefix _ _
    · obtain rfl : k = 33 := by omega
      have hidx := Tryz.strings_Index_one ⟨(curO 33).toArray⟩ 32 wr
      have hidx2 : Lib.indexByte (⟨(curO 33).toArray⟩ : ByteArray).data.toList 32 = -1 := cur_end.1
      rw [hidx2, cur_end.2] at hidx
      rw [cur_end.2] at hc0 hb0
      obtain ⟨fn, tmps, assign, body, hy, hR⟩ := hY _ [63] wr O hJk (by rw [List.length_take]; omega)
      dsimp only [encB] at hy
      have Hsn := Lib.hid (ops_snoc 33 (by omega))
      gi_wp2_with (refine ⟨trivial, ?_⟩; gi_at_call 126; refine (callsIn_wide.2 hidx).mono ?_; rintro e w' ⟨rfl, rfl⟩)
      refine hR.mono ?_
      rintro e W3 ⟨O2, hk3, hO2', (⟨rfl, hJ3⟩ | ⟨rfl, hJx3⟩)⟩
      · gi_wp2
        refine bodyPost_end (results_none rfl _ _ _) rfl ?_
        exact ⟨⟨_, rfl⟩, .inl ⟨_, O2, Hsn.out, hJ3⟩⟩
      · gi_wp2
        refine bodyPost_end (results_none rfl _ _ _) rfl ?_
        exact ⟨⟨_, rfl⟩, .inr ⟨_, O2, by rw [show opsL.take 33 ++ [[63]] = opsL from Hsn.out]; exact List.prefix_refl _, hJx3⟩⟩
end Go.Proofs.YtiinhkfbgecbjaaGreatDoor
