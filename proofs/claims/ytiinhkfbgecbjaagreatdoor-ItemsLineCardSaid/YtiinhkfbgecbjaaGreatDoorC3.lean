/- What the rows list gives the walks, and how a list of choices comes in. · The tokens of a list, with their places, one after the other: the iterator of items.each, as a contract on a range over it. Its condition: how the tokens lie in memory; all texts together are no longer than half of what an int holds. · What the body of items.Items has at hand, and what one token more does to it. No condition. · items.Items, walked: what counts, and the notes. Its condition: how the tokens lie in memory; at most 2^20 of them, of at most 2^62 bytes. · What the tokens of a source of choices are like, and how the source comes in. No condition but the text's size, and that the choices' cells hold bytes. · items.Notes, walked: all notes, in order. Its condition: how the tokens lie in memory; at most 2^20 of them, of at most 2^62 bytes. · Two rows of the same strings are the same: the document's word; how many bytes tokens have; what is asked of tokens and of two of them. Its condition: how they lie in memory; at most 2^20 bytes. -/
import Derived.Test.YtiinhkfbgecbjaaGreatDoorC1
import Derived.Test.YtiinhkfbgecbjaaGreatDoorB3
import Derived.Test.YtiinhkfbgecbjaaGreatDoorLaw
import Derived.Test.YtiinhkfbgecbjaaGreatDoorCards
import Derived.Test.YtiinhkfbgecbjaaGreatDoorTie
import Derived.Lay
import Derived.ChangeSlices
import Derived.Deep.SlicePairs
import Derived.RangeFuncNested
import Derived.RangeFuncBound
import Derived.RangeFuncCalls
import Derived.RangeFuncLeaves
import Derived.Shelf.Abstract
import Derived.Shelf.RegionOpen
import Derived.OwnWalkIn
import Derived.TacticsInMore
import Derived.LoopNIn
import Derived.LoopIn
import Derived.RegionIn
import Derived.Test.YtiinhkfbgecbjaaGreatDoorRange
import Derived.Test.YtiinhkfbgecbjaaGreatDoorC2
import Derived.Test.YtiinhkfbgecbjaaGreatDoorRnd
import Derived.Deep.Cut
namespace Go.Proofs.YtiinhkfbgecbjaaGreatDoor
set_option linter.unusedSimpArgs false
set_option linter.unusedVariables false
open Go.ChangeShapes Go.WideShapes Go.ChangeAt Go.RowKit Go.Sub

theorem own : ownKnob Tryz.prog.godebug = none := by kernel_rfl
theorem laidOut : laidOutB Tryz.prog = true := by kernel_rfl
/-- a heap that holds what the rows list -/
theorem door_met (os : Os) (args : Array Value) : laidMet Tryz.prog Rows.itemsPairsRow.laid ((World.laidAll Tryz.prog os Rows.itemsPairsRow.laid).forCall (fun _ _ => 0) ⟨#[], args, []⟩).memory :=
  laidMet_laidAll _ (by kernel_rfl) (by kernel_rfl)
theorem cells5 : Tryz.prog.cellsOf 5 = 1 := by kernel_rfl
/-- a slice of bytes that lies in a world -/
def BytesAt (w : World) (a : Addr) (len : Nat) : Prop := ∀ j < len, ∃ x : UInt8, w.cell? (a.add j) = some (.int .u8 (x.toNat : Int))
def BytesV (w : World) (v : Value) : Prop := v = .slice none 0 0 ∨ ∃ a len cap, v = .slice (some a) len cap ∧ BytesAt w a len ∧ len ≤ 9223372036854775807
theorem BytesV.below {w w' : World} {v : Value} (h : BytesV w v) (hb : Below w.heap.size w w') : BytesV w' v := by
  rcases h with rfl | ⟨a, len, cap, rfl, hc, hl⟩
  · exact .inl rfl
  · refine .inr ⟨a, len, cap, rfl, fun j hj => ?_, hl⟩
    obtain ⟨x, hx⟩ := hc j hj
    exact ⟨x, (hb.cell (World.block_lt_of_cell? _ _ hx)).trans hx⟩
set_option maxRecDepth 100000 in
theorem bytes_open {H : Type} {enc : TypeId × Value → H} {W : World} {r : Go.Reach} {b0 : Nat} {sp : Nat → Bool} {v : Value} {d : DataW H} {ps : List MemPlace}
    (hval : Value.okWide Tryz.prog W r b0 22 v) (hd : DataW.Trod enc Tryz.prog W 0 sp true 22 v d ps) : BytesV W v := by
  obtain ⟨a0, len, cap, rfl⟩ := okWide_slice Tryz.underlying22 hval
  obtain ⟨fuel, hf⟩ := hd
  rcases open_ints Tryz.underlying22 Tryz.underlying5 cells5 hf with ⟨hcs, _⟩ | ⟨a, len', cap', zs, hcs, _, hl, hm, hz, _, hcell, hwz⟩
  · simp [Value.cells] at hcs
    obtain ⟨rfl, rfl, rfl⟩ := hcs
    exact .inl rfl
  · simp [Value.cells] at hcs
    obtain ⟨rfl, rfl, rfl⟩ := hcs
    refine .inr ⟨a, len, cap, rfl, fun j hj => ?_, by unfold maxLen at hm; omega⟩
    have hjz : j < zs.length := by rw [hz]; split <;> omega
    have hw := hwz (zs.getD j 0) (by rw [List.getD_eq_getElem?_getD, List.getElem?_eq_getElem hjz]; exact List.getElem_mem hjz)
    have hb : 0 ≤ zs.getD j 0 ∧ zs.getD j 0 ≤ 255 := by simpa [Lit.wf, IntKind.min, IntKind.max, IntKind.signed, IntKind.bits] using hw
    refine ⟨UInt8.ofNat (zs.getD j 0).toNat, ?_⟩
    rw [hcell j hjz, UInt8.toNat_ofNat_of_lt' (by show (zs.getD j 0).toNat < 256; omega), Int.toNat_of_nonneg hb.1]
def BytesW (w : World) (v : Value) : Prop := ∃ p len cap, v = .slice p len cap ∧ len ≤ 9223372036854775807 ∧ ∀ j, j < len → ∃ a, ∃ x : UInt8, p = some a ∧ w.cell? (a.add j) = some (.int .u8 (x.toNat : Int))
theorem bytesW_of {w : World} {v : Value} (h : BytesV w v) : BytesW w v := by
  rcases h with rfl | ⟨a, len, cap, rfl, hc, hl⟩
  · exact ⟨none, 0, 0, rfl, by omega, fun j h => by omega⟩
  · exact ⟨some a, len, cap, rfl, hl, fun j hj => by obtain ⟨x, hx⟩ := hc j hj; exact ⟨a, x, rfl, hx⟩⟩
theorem cellsTok : Tryz.prog.cellsOf 29 = 2 := by kernel_rfl
theorem cells3 : Tryz.prog.cellsOf 3 = 1 := by kernel_rfl
theorem cells9 : Tryz.prog.cellsOf 9 = 1 := by kernel_rfl
theorem cell_plain {w : World} {a : Addr} {n : Nat} {v : Value} (h : w.cell? (a.add 0) = some v) : a = ⟨a.block, a.off, none⟩ := by
  obtain ⟨b, o, s⟩ := a
  cases s with
  | none => rfl
  | some k =>
    unfold Addr.add at h
    rw [if_pos rfl] at h
    unfold World.cell? at h
    split at h <;> simp at h
theorem sum_bulk {H : Type} (f : Nat → DataW H) (g : Nat → TokB) : ∀ l : List Nat, (∀ i ∈ l, 1 + (g i).2.size ≤ Rows.uptoBulk (f i)) → sumT (l.map g) ≤ Rows.uptoBulkAll (l.map f)
  | [], _ => Nat.le_refl _
  | i :: l, h => by
    have ih := sum_bulk f g l fun j hj => h j (List.mem_cons_of_mem _ hj)
    have h1 := h i (by simp)
    have e1 : sumT ((i :: l).map g) = 1 + (g i).2.size + sumT (l.map g) := rfl
    rw [e1, List.map_cons, Rows.uptoBulkAll]; omega
set_option maxRecDepth 100000 in
/-- a list of tokens that is handed in -/
theorem toks_open {H : Type} {enc : TypeId × Value → H} {W : World} {r : Go.Reach} {b0 : Nat} {sp : Nat → Bool} {v : Value} {d : DataW H} {ps : List MemPlace}
    (hval : Value.okWide Tryz.prog W r b0 23 v) (hd : DataW.Trod enc Tryz.prog W 0 sp true 23 v d ps) (hbulk : Rows.uptoBulk d ≤ 1048576) : ∃ xs, TokRow W v xs ∧ sumT xs ≤ 1048576 := by
  obtain ⟨a0, len, cap, rfl⟩ := okWide_slice Tryz.underlying23 hval
  obtain ⟨fuel, hf⟩ := hd
  rcases Go.Deep.open_slice_pairs Tryz.underlying23 Tryz.underlying29 cellsTok rfl rfl cells3 cells9 hf with ⟨hcs, _⟩ | ⟨a, len', cap', m, n, V0, V1, D0, D1, P0, P1, hcs, _, hlc, hcm, hm, hx, hall⟩
  · simp [Value.cells] at hcs
    obtain ⟨rfl, rfl, rfl⟩ := hcs
    exact ⟨[], ⟨none, 0, rfl, by simp, fun i x hx => by simp at hx⟩, by decide⟩
  · simp [Value.cells] at hcs
    obtain ⟨rfl, rfl, rfl⟩ := hcs
    have hlm : len ≤ m := by rw [hm]; split <;> omega
    have each : ∀ i, i < len → ∃ q : TokB, W.cell? (a.add (i * 2)) = some (.int .i64 q.1) ∧ W.cell? (a.add (i * 2 + 1)) = some (.string q.2) ∧ 1 + q.2.size ≤ Rows.uptoBulk (.agg [D0 i, D1 i] : DataW H) := by
      intro i hi
      obtain ⟨c0, c1, t0, t1⟩ := hall i (by omega)
      obtain ⟨x, e0, d0, _⟩ := DataW.trod_int Tryz.underlying3 t0
      obtain ⟨s, e1, d1, _⟩ := DataW.trod_string Tryz.underlying9 t1
      simp only [List.cons.injEq, and_true] at e0 e1
      simp only [Prod.mk.injEq] at d0 d1
      rw [e0] at c0
      rw [e1] at c1
      refine ⟨(x, s), c0, c1, ?_⟩
      rw [d0.1, d1.1]
      simp only [Rows.uptoBulk, Rows.uptoBulkAll]
      rw [← Lib.size_eq]
      omega
    obtain ⟨q, hq⟩ := Go.Deep.choose_lt each
    simp only [Prod.mk.injEq] at hx
    have hs : sumT ((List.range len).map q) ≤ 1048576 := by
      refine Nat.le_trans (sum_bulk (fun i => (.agg [D0 i, D1 i] : DataW H)) q (List.range len) fun i hi => (hq i (List.mem_range.1 hi)).2.2) ?_
      rw [hx.1, Rows.uptoBulk] at hbulk
      omega
    have hj := sumT_join ((List.range len).map q)
    rw [List.length_map, List.length_range] at hj
    refine ⟨(List.range len).map q, ⟨some a, cap, by rw [List.length_map, List.length_range], by rw [List.length_map, List.length_range]; omega, fun i x hx => ?_⟩, hs⟩
    have hi : i < len := by
      have := (List.getElem?_eq_some_iff.1 hx).1
      rwa [List.length_map, List.length_range] at this
    rw [List.getElem?_map, List.getElem?_range hi] at hx
    obtain rfl : q i = x := by simpa using hx
    obtain ⟨c0, c1, _⟩ := hq i hi
    have hpl : a = ⟨a.block, a.off, none⟩ := cell_plain (n := 0) (by simpa using (hq 0 (by omega)).1)
    refine ⟨a.block, a.off, by rw [← hpl], ?_, ?_⟩
    · rw [hpl] at c0
      have e := Go.WideShapes.add_plain a.block a.off (i * 2)
      rwa [e] at c0
    · rw [hpl] at c1
      have e := Go.WideShapes.add_plain a.block a.off (i * 2 + 1)
      rwa [e, ← Nat.add_assoc] at c1
end Go.Proofs.YtiinhkfbgecbjaaGreatDoor
namespace Go.Proofs.YtiinhkfbgecbjaaGreatDoor
set_option linter.unusedSimpArgs false
set_option linter.unusedVariables false
open Go.RowKit Go.Sub
attribute [local go_sem] Oper.semAt_some

abbrev AtTok := Nat × TokB
def atV (x : AtTok) : Array Value := #[.int .i64 (x.1 : Int), .agg #[.int .i64 x.2.1, .string x.2.2]]
/-- tokens, and how many bytes stand ahead of each -/
def atsL : Nat → List TokB → List AtTok
  | _, [] => []
  | a, x :: r => (a, x) :: atsL (a + x.2.size) r
def lenB (xs : List TokB) : Nat := (xs.map fun x => x.2.size).sum
theorem lenB_snoc (xs : List TokB) (x : TokB) : lenB (xs ++ [x]) = lenB xs + x.2.size := by unfold lenB; simp
theorem lenB_le (xs : List TokB) (k : Nat) : lenB (xs.take k) ≤ lenB xs := by
  have h : lenB xs = lenB (xs.take k) + lenB (xs.drop k) := by
    unfold lenB
    rw [← List.sum_append_nat, ← List.map_append, List.take_append_drop]
  omega
theorem atsL_snoc : ∀ (a : Nat) (xs : List TokB) (x : TokB), atsL a (xs ++ [x]) = atsL a xs ++ [(a + lenB xs, x)]
  | a, [], x => by simp [atsL, lenB]
  | a, y :: xs, x => by
    have ih := atsL_snoc (a + y.2.size) xs x
    have e : lenB (y :: xs) = y.2.size + lenB xs := by unfold lenB; simp
    rw [List.cons_append, atsL, ih, atsL, e, Nat.add_assoc]
    rfl
theorem atsL_len : ∀ (a : Nat) (xs : List TokB), (atsL a xs).length = xs.length
  | _, [] => rfl
  | a, x :: xs => by rw [atsL, List.length_cons, atsL_len, List.length_cons]
theorem take_next {α : Type} {xs : List α} {k : Nat} {x : α} (h : xs[k]? = some x) : xs.take (k + 1) = xs.take k ++ [x] := by rw [List.take_add_one, h]; rfl
theorem tokRow_keeps {w w' : World} {v : Value} {xs : List TokB} {O : Nat → Prop} (h : TokRow w v xs) (k : Keeps O w w') (hO : ∀ g, 0 < xs.length ∧ some g = v.ownBlock → ¬ O g) : TokRow w' v xs := by
  obtain ⟨p, cap, rfl, h2, h3⟩ := h
  refine ⟨p, cap, rfl, h2, fun i x hx => ?_⟩
  obtain ⟨b, o, rfl, c1, c2⟩ := h3 i x hx
  have hp : 0 < xs.length := Nat.lt_of_le_of_lt (Nat.zero_le i) (List.getElem?_eq_some_iff.1 hx).1
  exact ⟨b, o, rfl, k.cell c1 (hO b ⟨hp, rfl⟩), k.cell c2 (hO b ⟨hp, rfl⟩)⟩

theorem tokShape {w : World} {v : Value} {xs : List TokB} (h : TokRow w v xs) : ∃ p cap, v = .slice p xs.length cap ∧ xs.length ≤ 4611686018427387904 := by
  obtain ⟨p, cap, h1, h2, -⟩ := h
  exact ⟨p, cap, h1, h2⟩
theorem tokLt {w : World} {v : Value} {xs : List TokB} (h : TokRow w v xs) (hx : 0 < xs.length) (g : Nat) (hg : some g = v.ownBlock) : g < w.heap.size := by
  obtain ⟨p, c, rfl, -, hc⟩ := h
  obtain ⟨b, o, rfl, c0, -⟩ := hc 0 _ (List.getElem?_eq_getElem hx)
  cases hg
  exact World.block_lt_of_cell? _ _ c0
set_option maxRecDepth 100000 in
set_option maxHeartbeats 4000000 in
theorem each_in (n : Nat) (hn : 3 ≤ n) (l B1 : Nat) (v : Value) (xs : List TokB) (hl : lenB xs ≤ 4611686018427387904) (J Jx : List AtTok → (Nat → Prop) → World → Prop) (W : World) (O : Nat → Prop)
    (hO : ∀ b, O b → b < W.heap.size ∧ ¬ (0 < xs.length ∧ some b = v.ownBlock))
    (hJ : ∀ pre O A B, J pre O A → Keeps (fun b => ¬ O b ∧ W.heap.size ≤ b) A B → J pre O B)
    (hY : ∀ pre x W1 O1, J pre O1 W1 → pre.length < xs.length + 1 → YieldAt Fence.wide (n - 1) Tryz.prog l (atV x) W1 fun e W' => ∃ O2, Keeps O1 W1 W' ∧ (∀ b, O2 b → (O1 b ∨ W1.heap.size ≤ b) ∧ b < W'.heap.size) ∧
      ((e = .returned (.bool true) ∧ J (pre ++ [x]) O2 W') ∨ (e = .returned (.bool false) ∧ Jx (pre ++ [x]) O2 W')))
    (hv : TokRow W v xs) (hb1 : Boxed W B1 23 v) (h0 : J [] O W) :
    CallsIn Fence.wide n Tryz.prog 47 #[.func (.yield l) #[] #[], .pointer (some ⟨B1, 0, none⟩)] W fun e W' => (∃ v, e = .returned v) ∧
      ((∃ ys O', ys = atsL 0 xs ∧ J ys O' W') ∨ (∃ pre O', Jx pre O' W')) := by
  refine callsIn_of_wp Tryz.func47 rfl trivial ?_ rfl
  simp only [Tryz.ntmps47, List.size_toArray, List.length_cons, List.length_nil, Nat.reduceAdd, Nat.reduceSub, Array.replicate_succ, Array.replicate_zero, List.push_toArray, List.append_toArray, List.nil_append, List.cons_append]
  have hc := hb1.cell
  obtain ⟨p, cap, rfl, hlen⟩ := tokShape hv
  have HV := Lib.hid hv
  have HO := Lib.hid hO
  have H0 := Lib.hid h0
  clear hv hO h0
  gi_wp2
  clear hc
  gi_loopw [3, 8] (fun a i wr => ∃ (k : Nat) (O : Nat → Prop), a = .int .i64 (lenB (xs.take k) : Int) ∧ i = .int .i64 (k : Int) ∧ k ≤ xs.length ∧ Hid (J (atsL 0 (xs.take k)) O wr) ∧ Hid (TokRow wr (.slice p xs.length cap) xs) ∧ Hid (∀ b, O b → b < wr.heap.size ∧ ¬ (0 < xs.length ∧ some b = (Value.slice p xs.length cap).ownBlock)) ∧ W.heap.size ≤ wr.heap.size)
    (fun _ i _ => xs.length - (intOf i).toNat)
  case atStart => exact ⟨0, O, rfl, rfl, Nat.zero_le _, H0, HV, HO, Nat.le_refl _⟩
  case round =>
    clear H0 HV HO
    obtain ⟨k, O, rfl, rfl, hk, HJ, HV, HO, hsz⟩ := hrel
    by_cases hlt : k < xs.length
    · obtain ⟨x, hx⟩ : ∃ x, xs[k]? = some x := ⟨_, List.getElem?_eq_getElem hlt⟩
      obtain ⟨p', cap', e, -, hcells⟩ := HV.out
      simp only [Value.slice.injEq, true_and] at e
      obtain ⟨rfl, rfl⟩ := e
      obtain ⟨b, o, rfl, c1, c2⟩ := hcells k x hx
      obtain ⟨kd, tx⟩ := x
      have htk := take_next hx
      have hle := lenB_le xs (k + 1)
      rw [htk, lenB_snoc] at hle
      have hats := atsL_snoc 0 (xs.take k) (kd, tx)
      rw [Nat.zero_add] at hats
      dsimp only at c1 c2 hle
      have hz1 : J (atsL 0 (xs.take k)) O (wr.alloc (.cells #[.int .i64 kd, .string tx] 29)) := hJ _ _ _ _ HJ.out ((Keeps.alloc _ _ _).mono fun _ _ h => h)
      obtain ⟨fn, tmps, assign, body, hy, hR⟩ := hY _ (lenB (xs.take k), (kd, tx)) _ O hz1 (by rw [atsL_len, List.length_take]; omega)
      dsimp only [atV] at hy
      have hw1 : IntKind.i64.wrap ((lenB (xs.take k) : Int) + (tx.size : Int)) = ((lenB (xs.take k) + tx.size : Nat) : Int) := by rw [IntWalk.i64_in _ (by omega)]; omega
      have Hats := Lib.hid hats
      have Htk := Lib.hid htk
      have HR := Lib.hid hR
      have hbx := World.alloc_heap_new wr (.cells #[.int .i64 kd, .string tx] 29)
      clear hcells hx hats htk hR
      gi_wp2
      refine ⟨fun _ => by omega, ?_⟩
      refine HR.out.mono ?_
      clear hy c1 c2
      rintro e W3 ⟨O2, hk3, hO2, (⟨rfl, hJ3⟩ | ⟨rfl, hJx3⟩)⟩
      · have hq : W3.cell? ⟨wr.heap.size, 1, none⟩ = some (.string tx) := cell_of_block (hk3.heap hbx (fun e => by have := (HO.out _ e).1; omega)) rfl
        have HJ3 := Lib.hid hJ3
        have HK3 := Lib.hid hk3
        have HO2 := Lib.hid hO2
        clear hJ3 hk3 hO2 hbx
        gi_wp2
        refine ⟨⟨k + 1, O2, ?_, by go_num, by omega, ?_, ?_, ?_, ?_⟩, ?_⟩
        · rw [Htk.out, lenB_snoc, Int.natCast_add]
        · refine Lib.hid ?_
          rw [Htk.out, Hats.out]
          exact HJ3.out
        · exact Lib.hid (tokRow_keeps (tokRow_keeps HV.out (Keeps.alloc (fun _ => False) wr _) (fun _ _ e => e)) HK3.out (fun g hg e => (HO.out _ e).2 hg))
        · refine Lib.hid fun b hb => ?_
          obtain ⟨h1, h2⟩ := HO2.out b hb
          refine ⟨h2, fun e => ?_⟩
          rcases h1 with h1 | h1
          · exact (HO.out b h1).2 e
          · have := tokLt HV.out (by omega) b e.2
            rw [World.size_alloc] at h1
            omega
        · have := HK3.out.size
          rw [World.size_alloc] at this
          omega
        · simp [intOf]
          omega
      · gi_wp2
        refine bodyPost_ret (results_none rfl _ _ _) rfl ?_
        exact ⟨⟨_, rfl⟩, .inr ⟨_, O2, hJx3⟩⟩
    · obtain rfl : k = xs.length := by omega
      gi_wp2
      refine bodyPost_end (results_none rfl _ _ _) rfl ?_
      exact ⟨⟨_, rfl⟩, .inl ⟨_, O, by rw [List.take_length], HJ.out⟩⟩
theorem each_stops (n : Nat) (hn : 3 ≤ n) (B1 : Nat) (v : Value) (xs : List TokB) (hl : lenB xs ≤ 4611686018427387904) (w : World) (hv : TokRow w v xs) (hb1 : Boxed w B1 23 v) :
    SeqO Fence.wide n Tryz.prog 47 #[.pointer (some ⟨B1, 0, none⟩)] atV (fun _ => False) (fun b => 0 < xs.length ∧ some b = v.ownBlock) (fun ys _ => ys = atsL 0 xs) (fun _ _ => True) (xs.length + 1) w := fun l J Jx W O hW hO hJ hY h0 =>
  (each_in n hn l B1 v xs hl J Jx W O (fun b hb => ⟨(hO b hb).1, (hO b hb).2.2⟩) (fun pre O A B h k => hJ pre O A B h (k.mono fun b _ e => ⟨e.1, .inr e.2⟩)) hY (hv.below hW) (boxed_keeps hb1 (Keeps.of_below' (O := fun _ => False) hW) (fun h => h)) h0).mono fun e W' ⟨he, h⟩ => ⟨he, h.imp id fun ⟨pre, O', hx⟩ => ⟨pre, O', trivial, hx⟩⟩
theorem each_calls (p : Option Addr) (n c : Nat) (w : World) : Calls Tryz.prog 35 #[.slice p n c] w fun e w' => e = .returned (.func (.func 47) #[] #[.pointer (some ⟨w.heap.size, 0, none⟩)]) ∧ w' = w.alloc (.cells #[.slice p n c] 23) := by
  go_enter Tryz.func35, Tryz.ntmps35
  go_wp2
  go_ret
  exact ⟨rfl, rfl⟩
end Go.Proofs.YtiinhkfbgecbjaaGreatDoor
namespace Go.Proofs.YtiinhkfbgecbjaaGreatDoor
set_option linter.unusedSimpArgs false
set_option linter.unusedVariables false
open Go.RowKit Go.Sub

/-- the items so far, by places that are told -/
def stA (pre : List AtTok) : ItemSt := pre.foldl (fun st x => itStep (st.1, st.2.1, x.1) x.2) ([], [], 0)
theorem stA_snoc (pre : List AtTok) (x : AtTok) : stA (pre ++ [x]) = itStep ((stA pre).1, (stA pre).2.1, x.1) x.2 := by unfold stA; rw [List.foldl_append]; rfl
theorem stA_from : ∀ (xs : List TokB) (l : List ByteArray) (o : List ItemB) (a : Nat), (atsL a xs).foldl (fun st x => itStep (st.1, st.2.1, x.1) x.2) (l, o, a) = xs.foldl itStep (l, o, a)
  | [], _, _, _ => rfl
  | x :: xs, l, o, a => by
    rw [atsL, List.foldl_cons, List.foldl_cons]
    have e : (itStep (l, o, a) x).2.2 = a + x.2.size := rfl
    have ih := stA_from xs (itStep (l, o, a) x).1 (itStep (l, o, a) x).2.1 (a + x.2.size)
    rw [← e] at ih ⊢
    exact ih
theorem stA_ats (xs : List TokB) : stA (atsL 0 xs) = itemsS xs := stA_from xs [] [] 0
theorem stA_small (pre : List AtTok) : (stA pre).1.length ≤ pre.length ∧ (stA pre).2.1.length ≤ pre.length ∧ ∀ x ∈ (stA pre).2.1, x.2.2.length ≤ pre.length := by
  have key : ∀ (pre : List AtTok) (st : ItemSt) (n : Nat), st.1.length ≤ n → st.2.1.length ≤ n → (∀ x ∈ st.2.1, x.2.2.length ≤ n) →
      (pre.foldl (fun st x => itStep (st.1, st.2.1, x.1) x.2) st).1.length ≤ n + pre.length ∧ (pre.foldl (fun st x => itStep (st.1, st.2.1, x.1) x.2) st).2.1.length ≤ n + pre.length ∧ ∀ x ∈ (pre.foldl (fun st x => itStep (st.1, st.2.1, x.1) x.2) st).2.1, x.2.2.length ≤ n + pre.length := by
    intro pre
    induction pre with
    | nil => intro st n h1 h2 h3; exact ⟨h1, h2, h3⟩
    | cons y pre ih =>
      intro st n h1 h2 h3
      have hs := items_small [y.2] (st.1, st.2.1, y.1) n h1 h2 h3
      have e : [y.2].foldl itStep (st.1, st.2.1, y.1) = itStep (st.1, st.2.1, y.1) y.2 := rfl
      rw [e, List.length_singleton] at hs
      have := ih (itStep (st.1, st.2.1, y.1) y.2) (n + 1) hs.1 hs.2.1 hs.2.2
      rw [List.foldl_cons, List.length_cons, show n + (pre.length + 1) = n + 1 + pre.length by omega]
      exact this
  have h := key pre ([], [], 0) 0 (by simp) (by simp) (fun x hx => by simp at hx)
  simp only [Nat.zero_add] at h
  exact h

def ItO (B : Nat) (vl vo : Value) (us : List Value) (b : Nat) : Prop := b = B ∨ b = B + 1 ∨ some b = vl.ownBlock ∨ some b = vo.ownBlock ∨ ∃ u ∈ us, some b = u.ownBlock
/-- two boxes, of the notes ahead and of the items, and what they hold -/
structure ItW (W : World) (B : Nat) (vl vo : Value) (st : ItemSt) (us : List Value) : Prop where
  bl : Boxed W B 36 vl
  bo : Boxed W (B + 1) 37 vo
  it : ItemsAt W B 41 vo vl st us
variable {W W' : World} {B : Nat} {vl vo : Value} {st : ItemSt} {us : List Value}
theorem ItW.keeps (h : ItW W B vl vo st us) {O : Nat → Prop} (k : Keeps O W W') (hO : ∀ b, ItO B vl vo us b → ¬ O b) : ItW W' B vl vo st us :=
  ⟨boxed_keeps h.bl k (hO _ (.inl rfl)), boxed_keeps h.bo k (hO _ (.inr (.inl rfl))), h.it.keeps k (fun g hg => hO g (.inr (.inr (.inr (.inl hg))))) (fun g hg => hO g (.inr (.inr (.inl hg)))) (fun _ u hu g hg => hO g (.inr (.inr (.inr (.inr ⟨u, List.mem_of_getElem? hu, hg⟩)))))⟩
theorem ItW.below (h : ItW W B vl vo st us) (k : Below W.heap.size W W') : ItW W' B vl vo st us := h.keeps (Keeps.of_below' (O := fun _ => False) k) fun _ _ e => e
theorem ItW.lt (h : ItW W B vl vo st us) (b : Nat) (hb : ItO B vl vo us b) : B ≤ b ∧ b < W.heap.size := by
  rcases hb with rfl | rfl | hb | hb | ⟨u, hu, hb⟩
  · exact ⟨Nat.le_refl _, h.bl.lt⟩
  · exact ⟨Nat.le_succ _, h.bo.lt⟩
  · exact h.it.lead.lt b hb.symm
  · exact h.it.row.lt b hb.symm
  · obtain ⟨i, hi⟩ := List.getElem?_of_mem hu
    obtain ⟨x, -, hx⟩ := h.it.note_at hi
    exact hx.lt b hb.symm
theorem ItW.rows (h : ItW W B vl vo st us) : (¬ some B = vl.ownBlock) ∧ (¬ some B = vo.ownBlock) ∧ (¬ some (B + 1) = vl.ownBlock) ∧ (¬ some (B + 1) = vo.ownBlock) ∧ ∀ (i : Nat) (u : Value), us[i]? = some u → (¬ some B = u.ownBlock) ∧ ¬ some (B + 1) = u.ownBlock :=
  ⟨h.bl.not_row (by decide) h.it.lead, h.bl.not_row (by decide) h.it.row, h.bo.not_row (by decide) h.it.lead, h.bo.not_row (by decide) h.it.row, fun i u hu => by
    obtain ⟨x, -, hx⟩ := h.it.note_at hu
    exact ⟨h.bl.not_row (by decide) hx, h.bo.not_row (by decide) hx⟩⟩
theorem ItemsAt.rebox {w : World} {base : Nat} {e : TypeId} {v vl : Value} {st : ItemSt} {us : List Value} (h : ItemsAt w base e v vl st us) {b : Nat} {t : TypeId} {u : Value} (hb : Boxed w b t u) (ht : t ≠ e) (h9 : t ≠ 9) (x : Value) : ItemsAt (w.setCell ⟨b, 0, none⟩ x) base e v vl st us :=
  h.keeps (keeps_setCell (O := fun c => c = b) w b 0 x rfl) (fun g hg e => hb.not_row ht h.row (by rw [← e]; exact hg)) (fun g hg e => hb.not_row h9 h.lead (by rw [← e]; exact hg)) (fun i u hu g hg e => by
    obtain ⟨y, -, hy⟩ := h.note_at hu
    exact hb.not_row h9 hy (by rw [← e]; exact hg))
/-- the box of the notes ahead is laid anew -/
theorem box_lead {x : Value} (hl : Boxed W B 36 x) (ho : Boxed W (B + 1) 37 vo) (hi : ItemsAt W B 41 vo vl st us) :
    ItW (W.setCell ⟨B, 0, none⟩ vl) B vl vo st us ∧ Keeps (fun b => b = B) W (W.setCell ⟨B, 0, none⟩ vl) :=
  ⟨⟨hl.set vl, boxed_keeps ho (Keeps.setCell (O := fun b => b = B) W B vl rfl) (by omega), hi.rebox hl (by decide) (by decide) vl⟩, Keeps.setCell _ _ _ rfl⟩
/-- the box of the items is laid anew -/
theorem box_out {x : Value} (hl : Boxed W B 36 vl) (ho : Boxed W (B + 1) 37 x) (hi : ItemsAt W B 41 vo vl st us) :
    ItW (W.setCell ⟨B + 1, 0, none⟩ vo) B vl vo st us ∧ Keeps (fun b => b = B + 1) W (W.setCell ⟨B + 1, 0, none⟩ vo) :=
  ⟨⟨boxed_keeps hl (Keeps.setCell (O := fun b => b = B + 1) W (B + 1) vo rfl) (by omega), ho.set vo, hi.rebox ho (by decide) (by decide) vo⟩, Keeps.setCell _ _ _ rfl⟩
/-- a token that counts -/
theorem ItW.put (h : ItW W B vl vo st us) {t : TokB} {v' : Value} {at2 : Nat} (hr : W'.ownsRow B 41 4 v' (st.2.1.length + 1) (itemsC st.2.1 us ++ itC (t, st.2.2, []) (.slice none 0 0))) (hk : Keeps (fun b => some b = vo.ownBlock) W W') (hnew : v'.ownBlock = vo.ownBlock ∨ ∃ q, v'.ownBlock = some q ∧ W.heap.size ≤ q) :
    Boxed W' (B + 1) 37 vo ∧ ItW (W'.setCell ⟨B + 1, 0, none⟩ v') B vl v' (st.1, st.2.1 ++ [(t, st.2.2, [])], at2) (us ++ [.slice none 0 0]) ∧ Keeps (fun b => ItO B vl vo us b) W (W'.setCell ⟨B + 1, 0, none⟩ v') ∧ ∀ b, ItO B vl v' (us ++ [.slice none 0 0]) b → (ItO B vl vo us b ∨ W.heap.size ≤ b) ∧ b < (W'.setCell ⟨B + 1, 0, none⟩ v').heap.size := by
  obtain ⟨r1, r2, r3, r4, r5⟩ := h.rows
  have hl := boxed_keeps h.bl hk r2
  have ho := boxed_keeps h.bo hk r4
  have hi := h.it.put (by decide) (at2 := at2) hr hk
  obtain ⟨x1, x2⟩ := box_out hl ho hi
  refine ⟨ho, x1, (hk.mono fun b _ e => .inr (.inr (.inr (.inl e)))).trans (x2.mono fun b _ e => .inr (.inl e)), fun b hb => ⟨?_, (x1.lt b hb).2⟩⟩
  rcases hb with rfl | rfl | hb | hb | ⟨u, hu, hb⟩
  · exact .inl (.inl rfl)
  · exact .inl (.inr (.inl rfl))
  · exact .inl (.inr (.inr (.inl hb)))
  · rcases hnew with e | ⟨q, e, hq⟩
    · exact .inl (.inr (.inr (.inr (.inl (by rw [← e]; exact hb)))))
    · rw [e] at hb; cases hb; exact .inr hq
  · rcases List.mem_append.1 hu with h1 | h1
    · exact .inl (.inr (.inr (.inr (.inr ⟨u, h1, hb⟩))))
    · rw [List.mem_singleton.1 h1] at hb; cases hb
/-- a note ahead of all -/
theorem ItW.ahead (h : ItW W B vl vo st us) (h0 : st.2.1 = []) {s : ByteArray} {v' : Value} {at2 : Nat} (hr : W'.ownsRow B 9 1 v' (st.1.length + 1) (strC st.1 ++ [.string s])) (hk : Keeps (fun b => some b = vl.ownBlock) W W') (hnew : v'.ownBlock = vl.ownBlock ∨ ∃ q, v'.ownBlock = some q ∧ W.heap.size ≤ q) :
    Boxed W' B 36 vl ∧ ItW (W'.setCell ⟨B, 0, none⟩ v') B v' vo (st.1 ++ [s], st.2.1, at2) us ∧ Keeps (fun b => ItO B vl vo us b) W (W'.setCell ⟨B, 0, none⟩ v') ∧ ∀ b, ItO B v' vo us b → (ItO B vl vo us b ∨ W.heap.size ≤ b) ∧ b < (W'.setCell ⟨B, 0, none⟩ v').heap.size := by
  obtain ⟨r1, r2, r3, r4, r5⟩ := h.rows
  have hl := boxed_keeps h.bl hk r1
  have ho := boxed_keeps h.bo hk r3
  have hi := h.it.ahead (by decide) h0 (at2 := at2) hr hk
  obtain ⟨x1, x2⟩ := box_lead hl ho hi
  refine ⟨hl, x1, (hk.mono fun b _ e => .inr (.inr (.inl e))).trans (x2.mono fun b _ e => .inl e), fun b hb => ⟨?_, (x1.lt b hb).2⟩⟩
  rcases hb with rfl | rfl | hb | hb | ⟨u, hu, hb⟩
  · exact .inl (.inl rfl)
  · exact .inl (.inr (.inl rfl))
  · rcases hnew with e | ⟨q, e, hq⟩
    · exact .inl (.inr (.inr (.inl (by rw [← e]; exact hb))))
    · rw [e] at hb; cases hb; exact .inr hq
  · exact .inl (.inr (.inr (.inr (.inl hb))))
  · exact .inl (.inr (.inr (.inr (.inr ⟨u, hu, hb⟩))))
/-- a note behind the last item -/
theorem ItW.behind {pre : List ItemB} {x : ItemB} {pus : List Value} {u : Value} {lead : List ByteArray} {at1 : Nat} {g cap : Nat} (h : ItW W B vl (.slice (some ⟨g, 0, none⟩) (pre.length + 1) cap) (lead, pre ++ [x], at1) (pus ++ [u])) (hp : pus.length = pre.length) {s : ByteArray} {u' : Value} {at2 : Nat}
    (hr : W'.ownsRow B 9 1 u' (x.2.2.length + 1) (strC x.2.2 ++ [.string s])) (hk : Keeps (fun b => some b = u.ownBlock) W W') (hnew : u'.ownBlock = u.ownBlock ∨ ∃ q, u'.ownBlock = some q ∧ W.heap.size ≤ q) :
    W'.cell? ⟨g, pre.length * 4 + 3, none⟩ = some u ∧ W'.frozen? ⟨g, pre.length * 4 + 3, none⟩ = false ∧
    ItW (W'.setCell ⟨g, pre.length * 4 + 3, none⟩ u') B vl (.slice (some ⟨g, 0, none⟩) (pre.length + 1) cap) (lead, pre ++ [(x.1, x.2.1, x.2.2 ++ [s])], at2) (pus ++ [u']) ∧
    Keeps (fun b => ItO B vl (.slice (some ⟨g, 0, none⟩) (pre.length + 1) cap) (pus ++ [u]) b) W (W'.setCell ⟨g, pre.length * 4 + 3, none⟩ u') ∧
    ∀ b, ItO B vl (.slice (some ⟨g, 0, none⟩) (pre.length + 1) cap) (pus ++ [u']) b → (ItO B vl (.slice (some ⟨g, 0, none⟩) (pre.length + 1) cap) (pus ++ [u]) b ∨ W.heap.size ≤ b) ∧ b < (W'.setCell ⟨g, pre.length * 4 + 3, none⟩ u').heap.size := by
  obtain ⟨b1, b2, b3, -⟩ := h.it.behind hp (by decide) (at2 := at2) hr hk hnew
  obtain ⟨r1, r2, r3, r4, r5⟩ := h.rows
  have hu : (pus ++ [u])[pre.length]? = some u := by rw [← hp, List.getElem?_append_right (Nat.le_refl _), Nat.sub_self]; rfl
  obtain ⟨q1, q2⟩ := r5 _ u hu
  have hl := boxed_keeps h.bl hk q1
  have ho := boxed_keeps h.bo hk q2
  have ks : Keeps (fun b => b = g) W' (W'.setCell ⟨g, pre.length * 4 + 3, none⟩ u') := keeps_setCell W' g _ u' rfl
  have x1 : ItW (W'.setCell ⟨g, pre.length * 4 + 3, none⟩ u') B vl (.slice (some ⟨g, 0, none⟩) (pre.length + 1) cap) (lead, pre ++ [(x.1, x.2.1, x.2.2 ++ [s])], at2) (pus ++ [u']) :=
    ⟨boxed_keeps hl ks (fun e => r2 (by rw [e]; rfl)), boxed_keeps ho ks (fun e => r4 (by rw [e]; rfl)), b3⟩
  refine ⟨b1, b2, x1, (hk.mono fun b _ e => .inr (.inr (.inr (.inr ⟨u, by simp, e⟩)))).trans (ks.mono fun b _ e => .inr (.inr (.inr (.inl (by rw [e]; rfl))))), fun b hb => ⟨?_, (x1.lt b hb).2⟩⟩
  rcases hb with rfl | rfl | hb | hb | ⟨t, ht, hb⟩
  · exact .inl (.inl rfl)
  · exact .inl (.inr (.inl rfl))
  · exact .inl (.inr (.inr (.inl hb)))
  · exact .inl (.inr (.inr (.inr (.inl hb))))
  · rcases List.mem_append.1 ht with h1 | h1
    · exact .inl (.inr (.inr (.inr (.inr ⟨t, by simp [h1], hb⟩))))
    · rw [List.mem_singleton.1 h1] at hb
      rcases hnew with e | ⟨q, e, hq⟩
      · exact .inl (.inr (.inr (.inr (.inr ⟨u, by simp, by rw [← e]; exact hb⟩))))
      · rw [e] at hb; cases hb; exact .inr hq
/-- more notes ahead, whatever items there are -/
theorem ItemsAt.more {w w' : World} {base : Nat} {e : TypeId} {v vl : Value} {st : ItemSt} {us : List Value} (h : ItemsAt w base e v vl st us) (he : e ≠ 9) {ss : List ByteArray} {vl' : Value} (hr : w'.ownsRow base 9 1 vl' (st.1.length + ss.length) (strC st.1 ++ strC ss)) (hk : Keeps (fun b => some b = vl.ownBlock) w w') (hnew : vl'.ownBlock = vl.ownBlock ∨ vl'.ownBlock = some w.heap.size) :
    ItemsAt w' base e v vl' (st.1 ++ ss, st.2.1, st.2.2) us := by
  refine ⟨h.len, ownsRow_keeps h.row hk fun g hg hg2 => apart_types h.row h.lead he g hg hg2, fun i x u hx hu => ownsRow_keeps (h.notes i x u hx hu) hk fun g hg hg2 => h.free i u hu g hg2 hg, h.apart, ?_, fun i u hu g hg hg2 => ?_⟩
  · rw [List.length_append]
    unfold strC at *
    rw [List.map_append]
    exact hr
  · rcases hnew with e1 | e1
    · exact h.free i u hu g (by rw [← e1]; exact hg) hg2
    · rw [e1] at hg
      cases hg
      obtain ⟨x, -, hx⟩ := h.note_at hu
      have := (hx.lt _ hg2.symm).2
      omega
end Go.Proofs.YtiinhkfbgecbjaaGreatDoor
namespace Go.Proofs.YtiinhkfbgecbjaaGreatDoor
set_option linter.unusedSimpArgs false
set_option linter.unusedVariables false
open Go.RowKit Go.Sub
attribute [local go_sem] Oper.semAt_some

def ItI (w : World) (pre : List AtTok) (O : Nat → Prop) (W : World) : Prop :=
  ∃ vl vo us, (∀ b, O b ↔ ItO w.heap.size vl vo us b) ∧ ItW W w.heap.size vl vo (stA pre) us ∧ Below w.heap.size w W
def ItX (_ : Code) (_ : List AtTok) (_ : Nat → Prop) (_ : World) : Prop := False
theorem hnew_of {v v' : Value} {w1 : World} {o : Obj} (h : v'.ownBlock = v.ownBlock ∨ v'.ownBlock = some (w1.alloc o).heap.size) : v'.ownBlock = v.ownBlock ∨ ∃ q, v'.ownBlock = some q ∧ w1.heap.size ≤ q := by
  rcases h with h | h
  · exact .inl h
  · exact .inr ⟨_, h, by rw [World.size_alloc]; omega⟩
theorem ItW.anyAt {W : World} {B : Nat} {vl vo : Value} {l : List ByteArray} {o : List ItemB} {a a' : Nat} {us : List Value} (h : ItW W B vl vo (l, o, a) us) : ItW W B vl vo (l, o, a') us := ⟨h.bl, h.bo, h.it.anyAt⟩
theorem round_end {w W Wb w1 W' : World} {pre : List AtTok} {x : AtTok} {O : Nat → Prop} {vl vo vl' vo' : Value} {us us' : List Value} {st : ItemSt} (hO : ∀ b, O b ↔ ItO w.heap.size vl vo us b) (hs : W.heap.size ≤ Wb.heap.size) (hB : Below w.heap.size w Wb) (h0 : ItW Wb w.heap.size vl vo st us) (hb : Below Wb.heap.size Wb w1)
    (hw : ItW W' w.heap.size vl' vo' (stA (pre ++ [x])) us') (hk : Keeps (fun b => ItO w.heap.size vl vo us b) w1 W') (hn : ∀ b, ItO w.heap.size vl' vo' us' b → (ItO w.heap.size vl vo us b ∨ w1.heap.size ≤ b) ∧ b < W'.heap.size) :
    ∃ O2, Keeps (fun b => O b ∨ W.heap.size ≤ b) Wb W' ∧ (∀ b, O2 b → (O b ∨ W.heap.size ≤ b) ∧ b < W'.heap.size) ∧ ItI w (pre ++ [x]) O2 W' := by
  have hs1 := hb.size
  refine ⟨fun b => ItO w.heap.size vl' vo' us' b, (Keeps.of_below' hb).trans (hk.mono fun b _ e => .inl ((hO b).2 e)), fun b e => ⟨(hn b e).1.imp (fun h => (hO b).2 h) (fun h => by omega), (hn b e).2⟩, vl', vo', us', fun b => Iff.rfl, hw, ?_⟩
  exact (hB.trans (hb.mono hB.size)).trans (hk.below (Nat.le_trans hB.size hs1) fun b e => (h0.lt b e).1)
set_option maxRecDepth 100000 in
set_option maxHeartbeats 4000000 in
theorem items_in (n : Nat) (hn : 5 ≤ n) (p : Option Addr) (cap : Nat) (xs : List TokB) (w : World) (h : TokRow w (.slice p xs.length cap) xs) (hs : xs.length ≤ 1048576) (hl : lenB xs ≤ 4611686018427387904) :
    CallsIn Fence.wide n Tryz.prog 17 #[.slice p xs.length cap] w (RItemsPost w xs) := by
  have h1 : 1 ≤ n := by omega
  refine callsIn_of_wp_marks Tryz.func17 rfl trivial ?_ rfl
  simp only [Tryz.ntmps17, List.size_toArray, List.length_cons, List.length_nil, Nat.reduceAdd, Nat.reduceSub, Array.replicate_succ, Array.replicate_zero, List.push_toArray, List.append_toArray, List.nil_append, List.cons_append]
  have hE := fun w => each_calls p xs.length cap w
  have Pc := Lib.hid plain_calls
  have H := Lib.hid h
  clear h
  gi_wp2_with (refine ⟨trivial, ?_⟩; gi_at_call 35; refine (callsIn_wide.2 (hE _)).mono ?_; rintro e w' ⟨rfl, rfl⟩)
  clear hE
  obtain ⟨W0, hW0⟩ : ∃ W0, (((w.alloc (.cells #[.slice none 0 0] 36)).alloc (.cells #[.slice none 0 0] 37)).alloc (.cells #[.slice p xs.length cap] 23)) = W0 := ⟨_, rfl⟩
  have hsz : W0.heap.size = w.heap.size + 3 := by rw [← hW0]; simp
  have hB0 : Below w.heap.size w W0 := by
    rw [← hW0]
    exact (((Below.refl _ w).alloc (Nat.le_refl _) _).alloc (by simp) _).alloc (by simp; omega) _
  have b0 : Boxed W0 w.heap.size 36 (.slice none 0 0) := by
    rw [← hW0]
    exact ((Boxed.new w 36 (.slice none 0 0)).alloc _).alloc _
  have b1 : Boxed W0 (w.heap.size + 1) 37 (.slice none 0 0) := by
    have := (Boxed.new (w.alloc (.cells #[.slice none 0 0] 36)) 37 (.slice none 0 0)).alloc (.cells #[.slice p xs.length cap] 23)
    rw [hW0] at this; simpa using this
  have b2 : Boxed W0 (w.heap.size + 1 + 1) 23 (.slice p xs.length cap) := by
    have := Boxed.new ((w.alloc (.cells #[.slice none 0 0] 36)).alloc (.cells #[.slice none 0 0] 37)) 23 (.slice p xs.length cap)
    rw [hW0] at this; simpa using this
  have hv : TokRow W0 (.slice p xs.length cap) xs := H.out.below hB0
  have hT : ∀ b, 0 < xs.length ∧ some b = (Value.slice p xs.length cap).ownBlock → b < w.heap.size := fun b e => tokLt H.out e.1 b e.2
  have HT := Lib.hid hT
  have w0 : ItW W0 w.heap.size (.slice none 0 0) (.slice none 0 0) (stA []) [] := ⟨b0, b1, ItemsAt.start _ _ _⟩
  rw [hW0]
  clear hW0 b0 b1
  refine wpIn_rangeFunc_O rfl h1 (gf := 47) (lb := #[.pointer (some ⟨w.heap.size + 1 + 1, 0, none⟩)]) rfl trivial (enters_of Tryz.func47 (by kernel_rfl) rfl)
    (each_stops (n - 1) (by omega) _ _ xs hl W0 hv b2) (Below.refl _ _) (fun _ => rfl) (fun b h => h.elim) (fun b h => by have := HT.out b h; omega) (fun _ _ _ h _ => h) (fun _ _ _ h _ => h)
    (ItI w) ItX (fun b => ItO w.heap.size (.slice none 0 0) (.slice none 0 0) [] b) (fun b h => ⟨(w0.lt b h).2, fun e => e, fun e => by have := HT.out b e; have := (w0.lt b h).1; omega⟩)
    ?hI (fun _ _ _ _ _ h _ => h.elim) ⟨_, _, _, fun _ => Iff.rfl, w0, hB0⟩ ?hround ?hdone (fun _ _ _ _ _ _ _ h _ _ => h.elim)
  case hI =>
    rintro pre O A B ⟨vl, vo, us, hO, hw, hB⟩ hk
    exact ⟨vl, vo, us, hO, hw.keeps hk fun b e h => h.1 ((hO b).2 e), hB.trans (hk.below hB.size fun b h => h.2.elim (fun e => e.elim) fun e => by omega)⟩
  case hround =>
    rintro l pre ⟨a, kd, tx⟩ W O - hlt hOl hs
    unfold atV
    gi_wp2
    refine ⟨Keeps.alloc _ _ _, fun Wb hkb hsb ⟨vl, vo, us, hO, hw, hB⟩ hl => ?_⟩
    have hblk : Wb.heap[W.heap.size]? = some (.cells #[.int .i64 kd, .string tx] 29 (0, 0)) := hkb.heap (World.alloc_heap_new _ _) (by omega)
    have q0 : Wb.cell? ⟨W.heap.size, 0, none⟩ = some (.int .i64 kd) := cell_of_block hblk rfl
    have q1 : Wb.cell? ⟨W.heap.size, 1, none⟩ = some (.string tx) := cell_of_block hblk rfl
    have hszb : W.heap.size ≤ Wb.heap.size := by rw [hsb]; simp
    have hst := stA_snoc pre (a, kd, tx)
    obtain ⟨s1, s2, s3⟩ := stA_small pre
    have HW := Lib.hid hw
    have HB := Lib.hid hB
    have HO := Lib.hid hO
    have HST := Lib.hid hst
    have HSZ := Lib.hid hszb
    clear hw hB hO hst hszb hsb hkb hblk
    generalize hstA : stA pre = st at *
    obtain ⟨lead, out, at1⟩ := st
    obtain ⟨pl, cl, rfl, hcl⟩ := row_shp HW.out.it.lead
    obtain ⟨po, co, rfl, hco⟩ := row_shp HW.out.it.row
    obtain ⟨i0, hi, hz0, hz1, hz2⟩ := inf_parts item_info
    obtain ⟨i1, hi1, hz10, hz11, hz12⟩ := inf_parts string_info
    dsimp only at *
    by_cases hk1 : kd = 1
    · subst hk1
      have d1 : decide ((1 : Int) ≠ 1 ∧ (1 : Int) ≠ 2) = false := by decide
      have HE : Hid (stA (pre ++ [(a, 1, tx)]) = (lead, out, a + tx.size)) := Lib.hid (by rw [HST.out]; simp [itStep])
      gi_wp2_with (refine ⟨trivial, fun h => by simp [Fence.wide] at h, ?_⟩; gi_at_call 23; refine (CallsIn.inRound l (callsIn_wide.2 (Pc.out _ _ _))).mono ?_; rintro e w1 ⟨rfl, hb⟩; have HW1 := Lib.hid (HW.out.below hb); have k0 := (hb.cell (World.block_lt_of_cell? _ _ q0)).trans q0; have k1 := (hb.cell (World.block_lt_of_cell? _ _ q1)).trans q1; have HB1 := Lib.hid hb; clear hb)
      exact round_end HO.out HSZ.out HB.out HW.out HB1.out (by rw [HE.out]; exact HW1.out.anyAt) (Keeps.refl _ _) (fun b e => ⟨.inl e, (HW1.out.lt b e).2⟩)
    · by_cases hk2 : kd = 2
      · subst hk2
        have d1 : decide ((2 : Int) ≠ 1 ∧ (2 : Int) ≠ 2) = false := by decide
        by_cases ho : out = []
        · subst ho
          have HE : Hid (stA (pre ++ [(a, 2, tx)]) = (lead ++ [tx], [], a + tx.size)) := Lib.hid (by rw [HST.out]; simp [itStep, addNote])
          have e0 := HW.out.bl.cell
          have e1 := HW.out.bo.cell
          gi_wp2_with (first
            | (refine ⟨trivial, fun h => by simp [Fence.wide] at h, ?_⟩; gi_at_call 23; refine (CallsIn.inRound l (callsIn_wide.2 (Pc.out _ _ _))).mono ?_; rintro e w1 ⟨rfl, hb⟩; have HW1 := Lib.hid (HW.out.below hb); have k0 := (hb.cell (World.block_lt_of_cell? _ _ q0)).trans q0; have k1 := (hb.cell (World.block_lt_of_cell? _ _ q1)).trans q1; have HB1 := Lib.hid hb; clear hb e0 e1; have e0 := HW1.out.bl.cell; have e1 := HW1.out.bo.cell; have al := (Below.refl w1.heap.size w1).alloc (Nat.le_refl _) (.cells #[.string tx] 9); have HN1 := Lib.hid (World.alloc_heap_new w1 (.cells #[.string tx] 9)); have HL1 := Lib.hid (ownsRow_keeps HW1.out.it.lead (Keeps.of_below' (O := fun _ => False) al) (fun _ _ e => e)); have HZ1 : Hid (w.heap.size ≤ (w1.alloc (.cells #[.string tx] 9)).heap.size) := Lib.hid (by have := al.size; have := HB1.out.size; have := HB.out.size; omega); clear al)
            | (gi_at_builtin; go_loud (refine wpListIn_append_O _ rfl _ _ 36 rfl w.heap.size 9 i1 _ 1 16 strings_und hi1 hz10 hz11 hz12 rfl (by decide) _ lead.length _ rfl HL1.out ⟨w1.heap.size, 0, none⟩ 1 1 [.string tx] rfl rfl (by intro j u hu; match j, hu with | 0, hu => simp at hu; subst hu; exact cell_of_block HN1.out rfl | j + 1, hu => simp at hu) (by intro u hu; simp at hu; subst hu; rfl) (by simp only [maxLen]; omega) (by omega) HZ1.out ?_; intro v' w3 hown hkeep hblk _; obtain ⟨x1, x2, x3, x4⟩ := HW1.out.ahead rfl hown ((Keeps.alloc _ _ _).trans hkeep) (hnew_of hblk) (at2 := a + tx.size); obtain ⟨p3, c3, rfl, -⟩ := row_shp hown; have f1 := x1.cell; have f2 := x1.frozen; have X2 := Lib.hid x2; have X3 := Lib.hid x3; have X4 := Lib.hid x4; clear hown hkeep hblk x1 x2 x3 x4)))
          exact round_end HO.out HSZ.out HB.out HW.out HB1.out (by rw [HE.out]; exact X2.out) X3.out X4.out
        · obtain ⟨ini, y, rfl⟩ : ∃ ini y, out = ini ++ [y] := ⟨out.dropLast, out.getLast ho, (List.dropLast_concat_getLast ho).symm⟩
          have hul := HW.out.it.len
          rw [List.length_append] at hul
          have hun : us ≠ [] := fun e => by rw [e] at hul; simp at hul
          obtain ⟨pus, u, rfl⟩ : ∃ pus u, us = pus ++ [u] := ⟨us.dropLast, us.getLast hun, (List.dropLast_concat_getLast hun).symm⟩
          have hp : pus.length = ini.length := by simpa using hul
          have HP := Lib.hid hp
          have HE : Hid (stA (pre ++ [(a, 2, tx)]) = (lead, ini ++ [(y.1, y.2.1, y.2.2 ++ [tx])], a + tx.size)) := Lib.hid (by rw [HST.out]; simp [itStep, addNote_snoc])
          have hol : (ini ++ [y]).length = ini.length + 1 := by simp
          rw [hol] at s2 hco
          have hir := HW.out.it.row
          rw [hol] at hir
          obtain ⟨g, c8, e8⟩ := own_succ hir
          cases e8
          have hi0 := HW.out
          rw [hol] at hi0
          have HW := Lib.hid hi0
          have hO0 := HO.out
          rw [hol] at hO0
          have HO := Lib.hid hO0
          have hy3 := s3 y (by simp)
          have y1 : (((ini.length : Int) + 1) == 0) = false := by rw [beq_eq_false_iff_ne]; omega
          have y3 : IntKind.i64.wrap ((ini.length : Int) + 1 - 1) = (ini.length : Int) := by rw [IntWalk.i64_in _ (by omega)]; omega
          have y4 : (0 : Int) ≤ (ini.length : Int) := by omega
          clear ho hul hun hp hir hi0 s3 hol hO0
          gi_wp2_with (refine ⟨trivial, fun h => by simp [Fence.wide] at h, ?_⟩; gi_at_call 23; refine (CallsIn.inRound l (callsIn_wide.2 (Pc.out _ _ _))).mono ?_; rintro e w1 ⟨rfl, hb⟩; have HW1 := Lib.hid (HW.out.below hb); have k0 := (hb.cell (World.block_lt_of_cell? _ _ q0)).trans q0; have k1 := (hb.cell (World.block_lt_of_cell? _ _ q1)).trans q1; have HB1 := Lib.hid hb; clear hb; have e0 := HW1.out.bl.cell; have e1 := HW1.out.bo.cell)
          have hxp : (ini ++ [y])[ini.length]? = some y := by rw [List.getElem?_append_right (Nat.le_refl _), Nat.sub_self]; rfl
          have hup : (pus ++ [u])[ini.length]? = some u := by rw [← HP.out, List.getElem?_append_right (Nat.le_refl _), Nat.sub_self]; rfl
          have hDW : Below w1.heap.size w1 w1.drew := ⟨rfl, rfl, rfl, Nat.le_refl _, fun _ _ => rfl⟩
          have HW2 := Lib.hid (HW1.out.below hDW)
          have HB2 := Lib.hid (HB1.out.trans (hDW.mono HB1.out.size))
          have hun := HW2.out.it.notes ini.length y u hxp hup
          have hcu := HW2.out.it.row.cells (g := g) rfl _ _ (itemsC_get hxp hup).2.2.2
          rw [show (⟨g, 0, none⟩ : Addr).add (ini.length * 4 + 3) = ⟨g, ini.length * 4 + 3, none⟩ by unfold Addr.add; split <;> simp_all] at hcu
          obtain ⟨pu, cu, rfl, -⟩ := row_shp hun
          have hcu1 : w1.cell? ⟨g, ini.length * 4 + 3, none⟩ = some (.slice pu y.2.2.length cu) := hcu
          have al := (Below.refl w1.drew.heap.size w1.drew).alloc (Nat.le_refl _) (.cells #[.string tx] 9)
          have HN1 := Lib.hid (World.alloc_heap_new w1.drew (.cells #[.string tx] 9))
          have HL1 := Lib.hid (ownsRow_keeps hun (Keeps.of_below' (O := fun _ => False) al) (fun _ _ e => e))
          have HZ1 : Hid (w.heap.size ≤ (w1.drew.alloc (.cells #[.string tx] 9)).heap.size) := Lib.hid (by have := al.size; have := HB2.out.size; have := HB.out.size; omega)
          have hcu2 := (al.cell (World.block_lt_of_cell? _ _ hcu)).trans hcu
          have hcu3 : (w1.alloc (.cells #[.string tx] 9)).cell? ⟨g, ini.length * 4 + 3, none⟩ = some (.slice pu y.2.2.length cu) := hcu2
          clear hxp hup hun hDW al
          refine region_round rfl rfl (by kernel_rfl) ?_
          refine wpAnyIn_take (i := 0) (v := ?_) rfl rfl (by kernel_rfl) (by kernel_rfl) (by kernel_rfl) (fun _ _ _ h => h) ⟨Or.inl ⟨by rfl, ?_⟩, fun _ => rfl⟩ ?_ 
          rotate_left 1 
          · (intro w; go_simp; try with_reducible rfl) 
          (try simp only [Act.put, List.setIfInBounds_toArray, List.set_cons_zero, List.set_cons_succ])
          refine wpAnyIn_take (i := 1) (v := ?_) rfl rfl (by kernel_rfl) (by kernel_rfl) (by kernel_rfl) (fun _ _ _ h => h) ⟨Or.inl ⟨by rfl, ?_⟩, fun _ => rfl⟩ ?_ 
          rotate_left 1 
          · (intro w; go_simp; try with_reducible rfl) 
          (try simp only [Act.put, List.setIfInBounds_toArray, List.set_cons_zero, List.set_cons_succ])
          refine wpAnyIn_take (i := 2) (v := ?_) rfl rfl (by kernel_rfl) (by kernel_rfl) (by kernel_rfl) (fun _ _ _ h => h) ⟨Or.inl ⟨by rfl, ?_⟩, fun _ => rfl⟩ ?_ 
          rotate_left 1 
          · (intro w; go_simp; try with_reducible rfl) 
          (try simp only [Act.put, List.setIfInBounds_toArray, List.set_cons_zero, List.set_cons_succ])
          refine wpAnyIn_take (i := 3) (v := ?_) rfl rfl (by kernel_rfl) (by kernel_rfl) (by kernel_rfl) (fun _ _ _ h => h) ⟨Or.inl ⟨by rfl, ?_⟩, fun _ => rfl⟩ ?_ 
          rotate_left 1 
          · (intro w; go_simp; try with_reducible rfl) 
          (try simp only [Act.put, List.setIfInBounds_toArray, List.set_cons_zero, List.set_cons_succ])
          refine wpAnyIn_take (i := 5) (v := ?_) rfl rfl (by kernel_rfl) (by kernel_rfl) (by kernel_rfl) (fun _ _ _ h => h) ⟨Or.inl ⟨by rfl, ?_⟩, fun _ => rfl⟩ ?_ 
          rotate_left 1 
          · (intro w; go_simp; try with_reducible rfl) 
          (try simp only [Act.put, List.setIfInBounds_toArray, List.set_cons_zero, List.set_cons_succ])
          refine wpAnyIn_ready (rs := [4, 6]) (by kernel_rfl) (by simp) ?_
          refine AllReadyIn.cons rfl (fun K hK => ?_) (AllReadyIn.cons rfl (fun K hK => ?_) AllReadyIn.nil)
          · go_simp 
            refine hK _ _ ?_ 
            clear hK K 
            (try simp only [Act.put, List.setIfInBounds_toArray, List.set_cons_zero, List.set_cons_succ])
            refine wpAnyIn_ready (rs := [6]) (by kernel_rfl) (by simp) ?_ 
            refine AllReadyIn.cons rfl (fun K hK => ?_) AllReadyIn.nil 
            go_simp 
            refine hK _ _ ?_ 
            clear hK K 
            (try simp only [Act.put, List.setIfInBounds_toArray, List.set_cons_zero, List.set_cons_succ])
            refine wpAnyIn_ready (rs := [7]) (by kernel_rfl) (by simp) ?_ 
            refine AllReadyIn.cons rfl (fun K hK => ?_) AllReadyIn.nil 
            go_simp 
            refine hK _ _ ?_ 
            clear hK K 
            (try simp only [Act.put, List.setIfInBounds_toArray, List.set_cons_zero, List.set_cons_succ])
            refine wpAnyIn_ready (rs := [8]) (by kernel_rfl) (by simp) ?_ 
            refine AllReadyIn.cons rfl (fun K hK => ?_) AllReadyIn.nil 
            refine opIn_append_O _ rfl _ _ 36 rfl w.heap.size 9 i1 _ 1 16 strings_und hi1 hz10 hz11 hz12 rfl (by decide) _ y.2.2.length _ rfl HL1.out ⟨w1.drew.heap.size, 0, none⟩ 1 1 [.string tx] rfl rfl (by intro j u hu; match j, hu with | 0, hu => simp at hu; subst hu; exact cell_of_block HN1.out rfl | j + 1, hu => simp at hu) (by intro u hu; simp at hu; subst hu; rfl) (by simp only [maxLen]; omega) (by omega) HZ1.out ?_ 
            intro v' w3 hown hkeep hblk _ 
            refine hK _ _ ?_ 
            clear hK K 
            (try simp only [Act.put, List.setIfInBounds_toArray, List.set_cons_zero, List.set_cons_succ]) 
            obtain ⟨x1, x1f, x2, x3, x4⟩ := HW2.out.behind HP.out hown ((Keeps.alloc _ _ _).trans hkeep) (hnew_of hblk) (at2 := a + tx.size) 
            obtain ⟨p3, c3, rfl, -⟩ := row_shp hown 
            have X2 := Lib.hid x2 
            have X3 := Lib.hid x3 
            have X4 := Lib.hid x4 
            clear hown hkeep hblk x2 x3 x4 
            refine wpAnyIn_take (i := 9) (v := ?_) rfl rfl (by kernel_rfl) (by kernel_rfl) (by kernel_rfl) (fun _ _ _ h => h) ⟨Or.inl ⟨by rfl, ?_⟩, fun _ => rfl⟩ ?_ 
            rotate_left 1 
            · (intro w; go_simp; try with_reducible rfl) 
            (try simp only [Act.put, List.setIfInBounds_toArray, List.set_cons_zero, List.set_cons_succ]) 
            refine wpAnyIn_take (i := 10) (v := ?_) rfl rfl (by kernel_rfl) (by kernel_rfl) (by kernel_rfl) (fun _ _ _ h => h) ⟨Or.inl ⟨by rfl, ?_⟩, fun _ => rfl⟩ ?_ 
            rotate_left 1 
            · (intro w; go_simp; try with_reducible rfl) 
            (try simp only [Act.put, List.setIfInBounds_toArray, List.set_cons_zero, List.set_cons_succ]) 
            refine wpAnyIn_ready (rs := [11]) (by kernel_rfl) (by simp) ?_ 
            refine AllReadyIn.cons rfl (fun K hK => ?_) AllReadyIn.nil 
            go_simp 
            refine hK _ _ ?_ 
            clear hK K 
            (try simp only [Act.put, List.setIfInBounds_toArray, List.set_cons_zero, List.set_cons_succ]) 
            refine wpAnyIn_done (by kernel_rfl) ?_ _ 
            exact round_end HO.out HSZ.out HB.out HW.out HB2.out (by rw [HE.out]; exact X2.out) X3.out X4.out
          · go_simp 
            refine hK _ _ ?_ 
            clear hK K 
            (try simp only [Act.put, List.setIfInBounds_toArray, List.set_cons_zero, List.set_cons_succ])
            refine wpAnyIn_ready (rs := [4, 7]) (by kernel_rfl) (by simp) ?_
            refine AllReadyIn.cons rfl (fun K hK => ?_) (AllReadyIn.cons rfl (fun K hK => ?_) AllReadyIn.nil)
            · go_simp 
              refine hK _ _ ?_ 
              clear hK K 
              (try simp only [Act.put, List.setIfInBounds_toArray, List.set_cons_zero, List.set_cons_succ])
              refine wpAnyIn_ready (rs := [7]) (by kernel_rfl) (by simp) ?_ 
              refine AllReadyIn.cons rfl (fun K hK => ?_) AllReadyIn.nil 
              go_simp 
              refine hK _ _ ?_ 
              clear hK K 
              (try simp only [Act.put, List.setIfInBounds_toArray, List.set_cons_zero, List.set_cons_succ])
              refine wpAnyIn_ready (rs := [8]) (by kernel_rfl) (by simp) ?_ 
              refine AllReadyIn.cons rfl (fun K hK => ?_) AllReadyIn.nil 
              refine opIn_append_O _ rfl _ _ 36 rfl w.heap.size 9 i1 _ 1 16 strings_und hi1 hz10 hz11 hz12 rfl (by decide) _ y.2.2.length _ rfl HL1.out ⟨w1.drew.heap.size, 0, none⟩ 1 1 [.string tx] rfl rfl (by intro j u hu; match j, hu with | 0, hu => simp at hu; subst hu; exact cell_of_block HN1.out rfl | j + 1, hu => simp at hu) (by intro u hu; simp at hu; subst hu; rfl) (by simp only [maxLen]; omega) (by omega) HZ1.out ?_ 
              intro v' w3 hown hkeep hblk _ 
              refine hK _ _ ?_ 
              clear hK K 
              (try simp only [Act.put, List.setIfInBounds_toArray, List.set_cons_zero, List.set_cons_succ]) 
              obtain ⟨x1, x1f, x2, x3, x4⟩ := HW2.out.behind HP.out hown ((Keeps.alloc _ _ _).trans hkeep) (hnew_of hblk) (at2 := a + tx.size) 
              obtain ⟨p3, c3, rfl, -⟩ := row_shp hown 
              have X2 := Lib.hid x2 
              have X3 := Lib.hid x3 
              have X4 := Lib.hid x4 
              clear hown hkeep hblk x2 x3 x4 
              refine wpAnyIn_take (i := 9) (v := ?_) rfl rfl (by kernel_rfl) (by kernel_rfl) (by kernel_rfl) (fun _ _ _ h => h) ⟨Or.inl ⟨by rfl, ?_⟩, fun _ => rfl⟩ ?_ 
              rotate_left 1 
              · (intro w; go_simp; try with_reducible rfl) 
              (try simp only [Act.put, List.setIfInBounds_toArray, List.set_cons_zero, List.set_cons_succ]) 
              refine wpAnyIn_take (i := 10) (v := ?_) rfl rfl (by kernel_rfl) (by kernel_rfl) (by kernel_rfl) (fun _ _ _ h => h) ⟨Or.inl ⟨by rfl, ?_⟩, fun _ => rfl⟩ ?_ 
              rotate_left 1 
              · (intro w; go_simp; try with_reducible rfl) 
              (try simp only [Act.put, List.setIfInBounds_toArray, List.set_cons_zero, List.set_cons_succ]) 
              refine wpAnyIn_ready (rs := [11]) (by kernel_rfl) (by simp) ?_ 
              refine AllReadyIn.cons rfl (fun K hK => ?_) AllReadyIn.nil 
              go_simp 
              refine hK _ _ ?_ 
              clear hK K 
              (try simp only [Act.put, List.setIfInBounds_toArray, List.set_cons_zero, List.set_cons_succ]) 
              refine wpAnyIn_done (by kernel_rfl) ?_ _ 
              exact round_end HO.out HSZ.out HB.out HW.out HB2.out (by rw [HE.out]; exact X2.out) X3.out X4.out
            · go_simp 
              refine hK _ _ ?_ 
              clear hK K 
              (try simp only [Act.put, List.setIfInBounds_toArray, List.set_cons_zero, List.set_cons_succ])
              refine wpAnyIn_ready (rs := [4]) (by kernel_rfl) (by simp) ?_ 
              refine AllReadyIn.cons rfl (fun K hK => ?_) AllReadyIn.nil 
              go_simp 
              refine hK _ _ ?_ 
              clear hK K 
              (try simp only [Act.put, List.setIfInBounds_toArray, List.set_cons_zero, List.set_cons_succ])
              refine wpAnyIn_ready (rs := [8]) (by kernel_rfl) (by simp) ?_ 
              refine AllReadyIn.cons rfl (fun K hK => ?_) AllReadyIn.nil 
              refine opIn_append_O _ rfl _ _ 36 rfl w.heap.size 9 i1 _ 1 16 strings_und hi1 hz10 hz11 hz12 rfl (by decide) _ y.2.2.length _ rfl HL1.out ⟨w1.drew.heap.size, 0, none⟩ 1 1 [.string tx] rfl rfl (by intro j u hu; match j, hu with | 0, hu => simp at hu; subst hu; exact cell_of_block HN1.out rfl | j + 1, hu => simp at hu) (by intro u hu; simp at hu; subst hu; rfl) (by simp only [maxLen]; omega) (by omega) HZ1.out ?_ 
              intro v' w3 hown hkeep hblk _ 
              refine hK _ _ ?_ 
              clear hK K 
              (try simp only [Act.put, List.setIfInBounds_toArray, List.set_cons_zero, List.set_cons_succ]) 
              obtain ⟨x1, x1f, x2, x3, x4⟩ := HW2.out.behind HP.out hown ((Keeps.alloc _ _ _).trans hkeep) (hnew_of hblk) (at2 := a + tx.size) 
              obtain ⟨p3, c3, rfl, -⟩ := row_shp hown 
              have X2 := Lib.hid x2 
              have X3 := Lib.hid x3 
              have X4 := Lib.hid x4 
              clear hown hkeep hblk x2 x3 x4 
              refine wpAnyIn_take (i := 9) (v := ?_) rfl rfl (by kernel_rfl) (by kernel_rfl) (by kernel_rfl) (fun _ _ _ h => h) ⟨Or.inl ⟨by rfl, ?_⟩, fun _ => rfl⟩ ?_ 
              rotate_left 1 
              · (intro w; go_simp; try with_reducible rfl) 
              (try simp only [Act.put, List.setIfInBounds_toArray, List.set_cons_zero, List.set_cons_succ]) 
              refine wpAnyIn_take (i := 10) (v := ?_) rfl rfl (by kernel_rfl) (by kernel_rfl) (by kernel_rfl) (fun _ _ _ h => h) ⟨Or.inl ⟨by rfl, ?_⟩, fun _ => rfl⟩ ?_ 
              rotate_left 1 
              · (intro w; go_simp; try with_reducible rfl) 
              (try simp only [Act.put, List.setIfInBounds_toArray, List.set_cons_zero, List.set_cons_succ]) 
              refine wpAnyIn_ready (rs := [11]) (by kernel_rfl) (by simp) ?_ 
              refine AllReadyIn.cons rfl (fun K hK => ?_) AllReadyIn.nil 
              go_simp 
              refine hK _ _ ?_ 
              clear hK K 
              (try simp only [Act.put, List.setIfInBounds_toArray, List.set_cons_zero, List.set_cons_succ]) 
              refine wpAnyIn_done (by kernel_rfl) ?_ _ 
              exact round_end HO.out HSZ.out HB.out HW.out HB2.out (by rw [HE.out]; exact X2.out) X3.out X4.out
      · have d1 : decide (kd ≠ 1 ∧ kd ≠ 2) = true := decide_eq_true ⟨hk1, hk2⟩
        have HE : Hid (stA (pre ++ [(a, kd, tx)]) = (lead, out ++ [((kd, tx), a, [])], a + tx.size)) := Lib.hid (by rw [HST.out]; simp [itStep, hk1, hk2])
        clear hk1 hk2
        gi_wp2_with (first
          | (refine ⟨trivial, fun h => by simp [Fence.wide] at h, ?_⟩; gi_at_call 23; refine (CallsIn.inRound l (callsIn_wide.2 (Pc.out _ _ _))).mono ?_; rintro e w1 ⟨rfl, hb⟩; have HW1 := Lib.hid (HW.out.below hb); have k0 := (hb.cell (World.block_lt_of_cell? _ _ q0)).trans q0; have k1 := (hb.cell (World.block_lt_of_cell? _ _ q1)).trans q1; have HB1 := Lib.hid hb; clear hb; have e0 := HW1.out.bl.cell; have e1 := HW1.out.bo.cell; have al := (Below.refl w1.heap.size w1).alloc (Nat.le_refl _) (.cells #[.int .i64 kd, .string tx, .int .i64 (a : Int), .slice none 0 0] 41); have HN1 := Lib.hid (World.alloc_heap_new w1 (.cells #[.int .i64 kd, .string tx, .int .i64 (a : Int), .slice none 0 0] 41)); have HL1 := Lib.hid (ownsRow_keeps HW1.out.it.row (Keeps.of_below' (O := fun _ => False) al) (fun _ _ e => e)); have HZ1 : Hid (w.heap.size ≤ (w1.alloc (.cells #[.int .i64 kd, .string tx, .int .i64 (a : Int), .slice none 0 0] 41)).heap.size) := Lib.hid (by have := al.size; have := HB1.out.size; have := HB.out.size; omega); clear al)
          | (gi_at_builtin; go_loud (refine wpListIn_append_O _ rfl _ _ 37 rfl w.heap.size 41 i0 _ 4 56 items_und hi hz0 hz1 hz2 rfl (by decide) _ out.length _ rfl HL1.out ⟨w1.heap.size, 0, none⟩ 1 1 [.int .i64 kd, .string tx, .int .i64 (a : Int), .slice none 0 0] rfl rfl (by intro j u hu; match j, hu with | 0, hu => simp at hu; subst hu; exact cell_of_block HN1.out rfl | 1, hu => simp at hu; subst hu; exact cell_of_block HN1.out rfl | 2, hu => simp at hu; subst hu; exact cell_of_block HN1.out rfl | 3, hu => simp at hu; subst hu; exact cell_of_block HN1.out rfl | j + 4, hu => simp at hu) (by intro u hu; simp at hu; rcases hu with rfl | rfl | rfl | rfl <;> rfl) (by simp only [maxLen]; omega) (by omega) HZ1.out ?_; intro v' w3 hown hkeep hblk _; obtain ⟨x1, x2, x3, x4⟩ := (HW1.out.anyAt (a' := a)).put (t := (kd, tx)) hown ((Keeps.alloc _ _ _).trans hkeep) (hnew_of hblk) (at2 := a + tx.size); obtain ⟨p3, c3, rfl, -⟩ := row_shp hown; have f1 := x1.cell; have f2 := x1.frozen; have X2 := Lib.hid x2; have X3 := Lib.hid x3; have X4 := Lib.hid x4; clear hown hkeep hblk x1 x2 x3 x4)))
        exact round_end HO.out HSZ.out HB.out HW.out HB1.out (by rw [HE.out]; exact X2.out) X3.out X4.out
  case hdone =>
    rintro D ys W O hD rfl ⟨vl, vo, us, hO, hw, hB⟩ hOD hK
    rw [stA_ats] at hw
    have e0 := hw.bl.cell
    have e1 := hw.bo.cell
    have hDI : ∀ b, ItO w.heap.size vl vo us b → ¬ b = D := fun b e h => hOD ((hO D).2 (by rw [← h]; exact e))
    have hwD := Lib.hid (fun (N : World) (k : Keeps (fun _ => False) W N) => (hw.keeps k (fun _ _ e => e)).keeps (Keeps.putObj (O := fun b => b = D) N D (.deferred none) rfl) hDI)
    obtain ⟨pl, cl, rfl, hcl⟩ := row_shp hw.it.lead
    obtain ⟨po, co, rfl, hco⟩ := row_shp hw.it.row
    clear hw
    gi_wp2
    gi_region
    gi_wp2
    refine ⟨by simp, .inl ⟨_, _, rfl, run_takeDeferred (show W.drew.heap[D]? = _ from hK), ?_⟩⟩
    refine ⟨.tuple #[.slice pl (itemsS xs).1.length cl, .slice po (itemsS xs).2.1.length co], by simp [results, Tryz.results17, go_sem], _, _, us, rfl, (hwD.out _ (Keeps.drew W)).it, ?_⟩
    exact (hB.trans (show Below w.heap.size W W.drew from ⟨rfl, rfl, rfl, Nat.le_refl _, fun _ _ => rfl⟩)).trans ((Keeps.putObj (O := fun b => b = D) W.drew D (.deferred none) rfl).below hB.size fun b e => by omega)
theorem items_calls (v : Value) (xs : List TokB) (w : World) (h : TokRow w v xs) (hs : xs.length ≤ 1048576) (hl : lenB xs ≤ 4611686018427387904) : Calls Tryz.prog 17 #[v] w (RItemsPost w xs) := by
  obtain ⟨p, cap, rfl, -⟩ := tokShape h
  exact callsIn_wide.1 (items_in 5 (Nat.le_refl _) p cap xs w h hs hl)
end Go.Proofs.YtiinhkfbgecbjaaGreatDoor
namespace Go.Proofs.YtiinhkfbgecbjaaGreatDoor
set_option linter.unusedSimpArgs false
set_option linter.unusedVariables false
open Go.RowKit Go.Sub

theorem told_reach {s : ByteArray} (hs : s.size ≤ 65536) {ys : List Tok3} {z : Int} (h : tokensN s = (ys, 0, z)) : Utf s.data.toList ∧ Reach s.data.toList ys s.size [] false := by
  unfold tokensN at h
  rw [if_neg (by omega)] at h
  split at h
  · simp only [Prod.mk.injEq] at h
    exact absurd h.2.1 (by decide)
  · rename_i h0
    have hc : checkFrom s 0 = -1 := (check_range s s.size 0 (by omega)).resolve_right (fun e => h0 e.1)
    refine ⟨(check_iff s).1 hc, ?_⟩
    obtain ⟨ys', b, st2, inn2, er', h1, h2, h3⟩ := lex_whole s.data.toList
    rw [← Lib.size_eq] at h2 h3
    rw [h2] at h
    dsimp only at h
    by_cases he : er' = 0
    · rw [if_pos he] at h
      simp only [Prod.mk.injEq] at h
      obtain ⟨rfl, -, -⟩ := h
      rcases h3 with ⟨_, h0, _⟩ | ⟨hb, hx⟩
      · exact absurd he h0
      · rw [he] at hx
        rw [hb] at h1
        cases inn2 with
        | true => simp at hx
        | false =>
          cases st2 with
          | nil => exact h1
          | cons => simp at hx
    · rw [if_neg he] at h
      simp only [Prod.mk.injEq] at h
      exact absurd h.2.1 he
theorem joinL_len (xs : List TokB) : (joinL xs).length = lenB xs := by
  have h := sumT_join xs
  have e : ∀ l : List TokB, sumT l = l.length + lenB l := by
    intro l
    induction l with
    | nil => rfl
    | cons x l ih =>
      have e1 : sumT (x :: l) = 1 + x.2.size + sumT l := rfl
      have e2 : lenB (x :: l) = x.2.size + lenB l := rfl
      rw [e1, e2, ih, List.length_cons]; omega
  rw [e xs] at h
  omega
/-- all that a law asks of the tokens of a source -/
structure SrcTok (s : ByteArray) (xs : List TokB) : Prop where
  len : xs.length ≤ s.size
  join : joinL xs = s.data.toList
  kinds : ∀ x ∈ xs, (1 ≤ x.1 ∧ x.1 ≤ 13) ∧ 0 < x.2.size
  tight : ∀ (i : Nat) (a b : TokB), xs[i]? = some a → xs[i + 1]? = some b → tightB a b = !spaceB a b
theorem src_tok {s : ByteArray} (hs : s.size ≤ 65536) {ys : List Tok3} {z : Int} (h : tokensN s = (ys, 0, z)) : SrcTok s (ys.map (tokB s.data.toList)) := by
  obtain ⟨hu, hr⟩ := told_reach hs h
  obtain ⟨-, hk, hj, hl⟩ := (tokens_shape hs h).2 rfl
  refine ⟨by rw [List.length_map]; exact hl, hj, fun x hx => ?_, fun i a b ha hb => ?_⟩
  · obtain ⟨y, hy, rfl⟩ := List.mem_map.1 hx
    obtain ⟨h1, h2, h3⟩ := hk y hy
    refine ⟨⟨by show (1 : Int) ≤ (y.1 : Int); omega, by show (y.1 : Int) ≤ 13; omega⟩, ?_⟩
    show 0 < (((s.data.toList.drop y.2.1).take y.2.2).toArray).size
    rw [List.size_toArray, List.length_take, List.length_drop, ← Lib.size_eq]
    omega
  · rw [List.getElem?_map, Option.map_eq_some_iff] at ha hb
    obtain ⟨x, hx, rfl⟩ := ha
    obtain ⟨y, hy, rfl⟩ := hb
    exact tight_next hs hu hr hx hy
theorem SrcTok.lenB {s : ByteArray} {xs : List TokB} (h : SrcTok s xs) : lenB xs = s.size := by rw [← joinL_len, h.join, Lib.size_eq]
theorem SrcTok.sum {s : ByteArray} {xs : List TokB} (h : SrcTok s xs) : sumT xs ≤ s.size + s.size := by
  have := sumT_join xs
  rw [h.join, ← Lib.size_eq] at this
  have := h.len
  omega
theorem SrcTok.wf {s : ByteArray} {xs : List TokB} (h : SrcTok s xs) (hs : s.size ≤ 65536) : ∀ x ∈ xs, WfT x := by
  intro x hx
  obtain ⟨⟨h1, h2⟩, -⟩ := h.kinds x hx
  have h3 := sumI_mem hx
  have h4 : sumI xs ≤ s.size + s.size := h.sum
  refine ⟨?_, by simp only [maxLen]; omega⟩
  simp only [Lit.wf, IntKind.min, IntKind.max, IntKind.signed, IntKind.bits]
  simp
  omega
def srcI : List (List UInt8) := [[46], [46, 97], [36, 120], [102], [40], [41], [91], [93], [123], [125], [124], [44], [49], [49, 46, 53, 101, 51], [34], [92, 40], [92, 110], [32], [10], [35, 32, 110, 10], [35, 32, 97, 92, 10], [97, 110, 100], [97, 115], [64, 106, 115, 111, 110], [63, 47, 47], [47, 47], [46, 46], [58], [59], [61], [45], [195, 169], [105, 102], [97, 58, 58, 98], [92, 113], [35, 92, 13, 10], [34]]
def srcC : List Value := srcI.map fun x => Value.string ⟨x.toArray⟩
theorem srcI_len : ∀ x ∈ srcI, x.length ≤ 5 := by decide +kernel
set_option maxRecDepth 100000 in
set_option maxHeartbeats 4000000 in
theorem source_calls (v : Value) (w : World) (hv : BytesV w v) :
    Calls Tryz.prog 10 #[v] w fun e w' => ∃ R : ByteArray, e = .returned (.string R) ∧ R.size ≤ 300 ∧ Below w.heap.size w w' := by
  obtain ⟨p, len, cap, rfl, hl, hc⟩ := bytesW_of hv
  clear hv
  have hb1 : (w.alloc (.cells srcC.toArray 9)).heap[w.heap.size]? = some (.cells srcC.toArray 9 (0, 0)) := World.alloc_heap_new w _
  have hB1 := (Below.refl w.heap.size w).alloc (Nat.le_refl _) (.cells srcC.toArray 9)
  obtain ⟨W1, hW1⟩ : ∃ W1, w.alloc (.cells srcC.toArray 9) = W1 := ⟨_, rfl⟩
  rw [hW1] at hb1 hB1
  simp only [srcC, srcI, List.map_cons, List.map_nil] at hW1
  go_enter Tryz.func10, Tryz.ntmps10
  go_wp2
  clear hW1
  go_loopw [4, 5] (fun v i wr => ∃ (k : Nat) (R : ByteArray), v = .string R ∧ i = .int .i64 k ∧ k ≤ 60 ∧ R.size ≤ 5 * k ∧ wr.heap[w.heap.size]? = some (.cells srcC.toArray 9 (0, 0)) ∧ Below w.heap.size w wr) (fun _ i _ => 60 - (intOf i).toNat)
  case atStart => exact ⟨0, _, rfl, rfl, by omega, by decide, hb1, hB1⟩
  case round =>
    clear hb1 hB1
    obtain ⟨k, R, rfl, rfl, hk, hR, hbl, hB⟩ := hrel
    by_cases hlt : k < len ∧ k < 60
    · obtain ⟨hl1, hl2⟩ := hlt
      obtain ⟨a, x, rfl, hx⟩ := hc k hl1
      have hx' : wr.cell? (a.add k) = some (.int .u8 (x.toNat : Int)) := (hB.cell (World.block_lt_of_cell? _ _ hx)).trans hx
      have hxl := x.toNat_lt
      obtain ⟨y, hy⟩ : ∃ y, srcI[x.toNat % 37]? = some y := ⟨_, List.getElem?_eq_getElem (show _ < 37 by omega)⟩
      have hym := List.mem_of_getElem? hy
      have hy3 := srcI_len y hym
      have hcl : wr.cell? ⟨w.heap.size, x.toNat % 37, none⟩ = some (.string ⟨y.toArray⟩) := cell_of_block hbl (by simp [srcC, hy])
      obtain ⟨Y, hY⟩ : ∃ Y : ByteArray, (⟨y.toArray⟩ : ByteArray) = Y := ⟨_, rfl⟩
      have hYs : Y.size ≤ 5 := by rw [← hY]; exact hy3
      rw [hY] at hcl
      have Hbl := Lib.hid hbl
      clear hY hy hy3 hx hc hbl hym
      go_wp2
      go_roundw
      case rel => exact ⟨k + 1, _, rfl, by go_num, by omega, by rw [ByteArray.size_append]; omega, Hbl.out, hB⟩
      case measure => simp only [intOf]; omega
    · clear hc
      go_wp2
      all_goals
        go_ret
        exact ⟨R, rfl, by omega, hB⟩
/-- the answer of the document to a source: an error, or tokens -/
def SrcPost (w : World) (R : ByteArray) (e : Ending) (w' : World) : Prop := ∃ (p : Option Addr) (c : Nat) (xs : List TokB) (er : Nat) (z : Int), e = .returned (.tuple #[.slice p xs.length c, .int .i64 (er : Int), .int .i64 z]) ∧ TokRow w' (.slice p xs.length c) xs ∧ xs.length ≤ 4611686018427387904 ∧ (er = 0 → SrcTok R xs) ∧ (er ≠ 0 → xs = []) ∧ Below w.heap.size w w'
theorem stokens_calls (R : ByteArray) (w : World) (h : R.size ≤ 65536) : Calls Tryz.prog 9 #[.string R] w (SrcPost w R) := by
  refine (rtokens_told R w (by omega)).mono ?_
  rintro e w' ⟨p, c, rfl, hr, hb⟩
  obtain ⟨ys, er, z, ht⟩ : ∃ ys er z, tokensN R = (ys, er, z) := ⟨_, _, _, rfl⟩
  rw [ht] at hr ⊢
  exact ⟨p, c, _, er, z, rfl, hr, (tokShape hr).choose_spec.choose_spec.2, fun e => src_tok h (by rw [ht, e]), fun e => by rw [((tokens_shape h ht).1 e).1]; rfl, hb⟩
end Go.Proofs.YtiinhkfbgecbjaaGreatDoor
namespace Go.Proofs.YtiinhkfbgecbjaaGreatDoor
set_option linter.unusedSimpArgs false
set_option linter.unusedVariables false
open Go.RowKit Go.Sub

/-- a row is laid behind one's own: which block holds it -/
theorem wpList_append_two {P : Program} (w : World) {ops : Array Oper} {rest : List Oper} {o : Oper} {a : Act} {Q : Exit → Act → World → Prop}
    (hg : o.guard = none) (s x : Operand) (t : TypeId) (hop : o.op = Op.call { callee := Callee.builtin Builtin.append, args := #[s, x], argTypes := #[t, t] })
    (base : Nat) (e : TypeId) (i : TypeInfo) (z : Value) (size bytes : Nat) (h1 : P.underlying t = some (.slice e)) (h2 : P.info? e = some i) (h3 : i.zero = some z) (h4 : i.size = size) (h5 : i.bytes = bytes) (h6 : z.cells.size = size) (h7 : 0 < size)
    (v : Value) (k : Nat) (xs : List Value) (hs : a.eval s = v) (hown : w.ownsRow base e size v k xs) (b2 : Nat) (v2 : Value) (m : Nat) (ys : List Value) (hx : a.eval x = v2) (hown2 : w.ownsRow b2 e size v2 m ys)
    (h1c : ∀ u ∈ ys, u.oneCell' = true) (b1 : k + m ≤ maxLen) (b3 : (k + m) * bytes ≤ 140737488355328) (b4 : base ≤ w.heap.size)
    (hK : ∀ v' w', w'.ownsRow base e size v' (k + m) (xs ++ ys) → Keeps (fun b => some b = v.ownBlock) w w' → (v'.ownBlock = v.ownBlock ∨ v'.ownBlock = some w.heap.size) → wpList P ops Q rest (a.put o.dst v') w') :
    wpList P ops Q (o :: rest) a w := by
  have hl2 := hown2.1
  rcases hown2.2 with ⟨rfl, rfl⟩ | ⟨g, cap, cur, rfl, h2'⟩
  · obtain ⟨p, c, rfl, hc⟩ := row_shape hown
    have : ys = [] := List.length_eq_zero_iff.1 (by omega)
    subst this
    refine wpList_plain hg fun K hK' => ?_
    have hrun := run_append_none (P := P) w t o.type e i h1 h2 p k c 0 hc
    unfold Oper.wp
    simp [execOp, hop, resolve, invoke, builtin, hs, hx, hrun, Result.andThen]
    exact hK' _ _ (hK _ w (by rw [List.append_nil]; exact hown) (Keeps.refl _ _) (.inl rfl))
  · exact wpList_append_O w hg s x t hop base e i z size bytes h1 h2 h3 h4 h5 h6 h7 v k xs hs hown ⟨g, 0, none⟩ m cap ys hx hl2 (fun j u hj => hown2.cells (g := g) rfl j u hj) h1c b1 b3 b4 fun v' w' r1 r2 r3 _ => hK v' w' r1 r2 r3
theorem flat_take {α β : Type} (f : α → List β) {xs : List α} {k : Nat} {x : α} (h : xs[k]? = some x) : (xs.take (k + 1)).flatMap f = (xs.take k).flatMap f ++ f x := by
  rw [List.take_add_one, h]
  simp
theorem flat_le {α β : Type} (f : α → List β) (xs : List α) (k : Nat) : ((xs.take k).flatMap f).length ≤ (xs.flatMap f).length := by
  have h : xs.flatMap f = (xs.take k).flatMap f ++ (xs.drop k).flatMap f := by rw [← List.flatMap_append, List.take_append_drop]
  rw [h, List.length_append]; omega
theorem strC_one (l : List ByteArray) : ∀ u ∈ strC l, u.oneCell' = true := by
  intro u hu
  unfold strC at hu
  obtain ⟨x, _, rfl⟩ := List.mem_map.1 hu
  rfl
set_option maxRecDepth 100000 in
set_option maxHeartbeats 4000000 in
theorem inotes_calls (v : Value) (xs : List TokB) (w : World) (h : TokRow w v xs) (hs : xs.length ≤ 1048576) (hl : lenB xs ≤ 4611686018427387904) :
    Calls Tryz.prog 18 #[v] w fun e w' => ∃ u, e = .returned u ∧ w'.ownsRow w.heap.size 9 1 u (notesL xs).length (strC (notesL xs)) ∧ Below w.heap.size w w' := by
  have hI := items_calls v xs w h hs hl
  have hN := items_notes xs
  have hc := items_count xs
  have hcl : (itemsS xs).2.1.length ≤ 1048576 := by
    rw [hc]
    exact Nat.le_trans (List.length_filter_le _ _) hs
  have hnl : (notesL xs).length ≤ 1048576 := by
    unfold notesL
    rw [List.length_map]
    exact Nat.le_trans (List.length_filter_le _ _) hs
  rw [← hN] at hnl ⊢
  obtain ⟨p, cap, rfl, -⟩ := tokShape h
  unfold RItemsPost at hI
  generalize itemsS xs = st at *
  obtain ⟨lead, out, at1⟩ := st
  dsimp only at hnl hcl
  rw [List.length_append] at hnl
  have HI := Lib.hid hI
  have HNL := Lib.hid (fun k => flat_le (fun x : ItemB => x.2.2) out k)
  clear hI hN hc h hl
  obtain ⟨i1, hi1, hz10, hz11, hz12⟩ := inf_parts string_info
  go_enter Tryz.func18, Tryz.ntmps18
  go_wp2_with (go_at_call 17; refine HI.out.mono ?_; rintro e w1 ⟨vl, vo, us, rfl, hit, hb⟩; obtain ⟨pl, cl, rfl, hcl2⟩ := row_shp hit.lead; obtain ⟨po, co, rfl, hco2⟩ := row_shp hit.row; have HT := Lib.hid hit; have HB := Lib.hid hb; clear hit hb)

  go_loopw [3, 14] (fun vc i wr => ∃ n : Nat, n ≤ out.length ∧ i = .int .i64 n ∧ Hid (ItemsAt wr w.heap.size 41 (.slice po out.length co) vc (lead ++ (out.take n).flatMap (fun x => x.2.2), out, at1) us) ∧ Hid (Below w.heap.size w wr)) (fun _ i _ => out.length - (intOf i).toNat)
  case atStart => exact ⟨0, Nat.zero_le _, rfl, by rw [List.take_zero, List.flatMap_nil, List.append_nil]; exact HT, HB⟩
  case round =>
    rename_i vc
    clear HT HB
    obtain ⟨n, hn, rfl, HT, HB⟩ := hrel
    obtain ⟨pc, cc, rfl, hcc⟩ := row_shp HT.out.lead
    dsimp only at hcc
    by_cases hlt : n < out.length
    · have HLT := Lib.hid hlt
      obtain ⟨x, hx⟩ : ∃ x, out[n]? = some x := ⟨_, List.getElem?_eq_getElem hlt⟩
      obtain ⟨u, hu⟩ : ∃ u, us[n]? = some u := ⟨_, List.getElem?_eq_getElem (by rw [HT.out.len]; exact hlt)⟩
      have hun := HT.out.notes n x u hx hu
      obtain ⟨pu, cu, rfl, hcu⟩ := row_shp hun
      obtain ⟨g, c8, e8⟩ : ∃ g c8, Value.slice po out.length co = .slice (some ⟨g, 0, none⟩) out.length c8 := by
        rcases HT.out.row.2 with ⟨e, h0⟩ | ⟨g, c8, _, e, _⟩
        · exact absurd h0 (by dsimp only; omega)
        · exact ⟨g, c8, e⟩
      cases e8
      obtain ⟨k0, k1, k2, k3⟩ := itemsC_get hx hu
      have c0 := HT.out.row.cells (g := g) rfl _ _ k0
      have c1 := HT.out.row.cells (g := g) rfl _ _ k1
      have c2 := HT.out.row.cells (g := g) rfl _ _ k2
      have c3 := HT.out.row.cells (g := g) rfl _ _ k3
      have ea : ∀ j, (⟨g, 0, none⟩ : Addr).add j = ⟨g, j, none⟩ := fun j => by unfold Addr.add; split <;> simp_all
      rw [ea] at c0 c1 c2 c3
      have hft := flat_take (fun x : ItemB => x.2.2) hx
      have HFT := Lib.hid hft
      have hnl1 := HNL.out (n + 1)
      rw [hft, List.length_append] at hnl1
      obtain ⟨⟨k, s⟩, at2, ns⟩ := x
      dsimp only at *
      have al := (Below.refl wr.heap.size wr).alloc (Nat.le_refl _) (.cells #[.int .i64 k, .string s, .int .i64 (at2 : Int), .slice pu ns.length cu] 41)
      have HA := Lib.hid (HT.out.keeps (Keeps.of_below' (O := fun _ => False) al) (fun _ _ e => e) (fun _ _ e => e) (fun _ _ _ _ _ e => e))
      have HUN := Lib.hid (ownsRow_keeps hun (Keeps.of_below' (O := fun _ => False) al) (fun _ _ e => e))
      have HBA := Lib.hid (HB.out.trans (al.mono HB.out.size))
      have HSZ := Lib.hid (Nat.le_trans HB.out.size al.size)
      have hcl3 : (List.flatMap (fun x : ItemB => x.2.2) (List.take n out)).length + ns.length ≤ 1048576 := by omega
      generalize hfl : List.flatMap (fun x : ItemB => x.2.2) (List.take n out) = fl at *
      obtain ⟨q, hq⟩ : ∃ q, lead ++ fl = q := ⟨_, rfl⟩
      have hll : q.length = lead.length + fl.length := by rw [← hq]; exact List.length_append
      have HLL := Lib.hid hll
      have HQ := Lib.hid hq
      rw [hq] at HA ⊢
      clear hun hx hu k0 k1 k2 k3 ea hft hnl1 al hfl hll hq
      go_wp2_with (at_builtin; go_loud (refine wpList_append_two _ rfl _ _ 36 rfl w.heap.size 9 i1 _ 1 16 strings_und hi1 hz10 hz11 hz12 rfl (by decide) _ q.length _ rfl HA.out.lead w.heap.size _ ns.length _ rfl HUN.out (strC_one ns) (by rw [HLL.out]; simp only [maxLen]; omega) (by rw [HLL.out]; omega) HSZ.out ?_; intro v' w3 hown hkeep hblk; have HT3 := Lib.hid (HA.out.more (by decide) hown hkeep hblk); have HB3 := Lib.hid (HBA.out.trans (hkeep.below HBA.out.size (fun b hb => (HA.out.lead.lt b hb.symm).1))); obtain ⟨p3, c3, rfl, -⟩ := row_shp hown; clear hown hkeep hblk))
      go_roundw
      case rel => exact ⟨n + 1, HLT.out, by go_num, by rw [HFT.out, ← List.append_assoc, HQ.out]; exact HT3, HB3⟩
      case measure => simp [intOf]; have := HLT.out; omega
    · obtain rfl : n = out.length := by omega
      have hrow := HT.out.lead
      rw [List.take_length] at hrow ⊢
      have HR := Lib.hid hrow
      clear hrow HT
      dsimp only at HR ⊢
      obtain ⟨q, hq⟩ : ∃ q, lead ++ List.flatMap (fun x : ItemB => x.2.2) out = q := ⟨_, rfl⟩
      have HQ := Lib.hid hq
      rw [hq] at HR ⊢
      clear hq
      go_wp2
      go_ret
      exact ⟨.slice pc q.length cc, rfl, by rw [HQ.out]; exact HR.out, HB.out⟩
end Go.Proofs.YtiinhkfbgecbjaaGreatDoor
namespace Go.Proofs.YtiinhkfbgecbjaaGreatDoor
set_option linter.unusedSimpArgs false
set_option linter.unusedVariables false
open Go.RowKit Go.Sub

theorem StrRow.at {w : World} {p : Option Addr} {n c : Nat} {ns : List ByteArray} (h : StrRow w (.slice p n c) ns) {i : Nat} {s : ByteArray} (hs : ns[i]? = some s) : ∃ b o, p = some ⟨b, o, none⟩ ∧ w.cell? ⟨b, o + i, none⟩ = some (.string s) := by
  obtain ⟨p', c', e, -, h3⟩ := h
  cases e
  exact h3 i s hs
set_option maxRecDepth 100000 in
set_option maxHeartbeats 2000000 in
theorem ssame_calls (v1 v2 : Value) (ns : List ByteArray) (w : World) (h1 : StrRow w v1 ns) (h2 : StrRow w v2 ns) :
    Calls Tryz.prog 19 #[v1, v2] w fun e w' => e = .returned (.bool true) ∧ Below w.heap.size w w' := by
  have H1 := Lib.hid h1
  have H2 := Lib.hid h2
  obtain ⟨p1, d1, rfl, hl, -⟩ := h1
  obtain ⟨p2, d2, rfl, -, -⟩ := h2
  have hdr : ∀ (W : World) (k : Nat), Below w.heap.size w W → Below w.heap.size w (W.drewN k) := fun W k h => h.trans ⟨rfl, rfl, rfl, Nat.le_refl _, fun _ _ => rfl⟩
  have HDR := Lib.hid hdr
  clear hdr
  go_enter Tryz.func19, Tryz.ntmps19
  go_wp2
  go_loopw [5] (fun i wr => ∃ j : Nat, j ≤ ns.length ∧ i = .int .i64 j ∧ Hid (Below w.heap.size w wr)) (fun i _ => ns.length - (intOf i).toNat)
  case atStart => exact ⟨0, Nat.zero_le _, rfl, Lib.hid (Below.refl _ _)⟩
  case round =>
    obtain ⟨j, hj, rfl, HR⟩ := hrel
    by_cases hlt : j < ns.length
    · have HLT := Lib.hid hlt
      have hx := List.getElem?_eq_getElem hlt
      obtain ⟨b1, o1, rfl, a0⟩ := (H1.out.below HR.out).at hx
      obtain ⟨b2, o2, rfl, c0⟩ := (H2.out.below HR.out).at hx
      generalize ns[j] = s at *
      clear hx
      go_wp2
      go_quiet (fail)
      go_wp2
      go_roundw
      case rel => exact ⟨j + 1, HLT.out, by go_num, Lib.hid (HDR.out _ _ HR.out)⟩
      case measure => simp [intOf]; have := HLT.out; omega
    · obtain rfl : j = ns.length := by omega
      go_wp2
      go_ret
      exact ⟨rfl, HR.out⟩
set_option maxRecDepth 100000 in
set_option maxHeartbeats 2000000 in
theorem imany_calls (v : Value) (xs : List TokB) (w : World) (h : TokRow w v xs) (hs : sumT xs ≤ 1048576) :
    Calls Tryz.prog 14 #[v] w fun e w' => e = .returned (.bool (decide (300 < sumT xs))) ∧ Below w.heap.size w w' := by
  have Hh := Lib.hid h
  obtain ⟨pv, cv, rfl, hlv, -⟩ := h
  have hsj := sumT_join xs
  have hlx : xs.length ≤ 1048576 := by omega
  have HLE := Lib.hid (sumT_le xs)
  clear hsj
  go_enter Tryz.func14, Tryz.ntmps14
  go_wp2
  go_loopw [3, 4] (fun a i wr => ∃ n : Nat, n ≤ xs.length ∧ i = .int .i64 n ∧ a = .int .i64 (sumT (xs.take n) : Nat) ∧ Hid (Below w.heap.size w wr)) (fun _ i _ => xs.length - (intOf i).toNat)
  case atStart => exact ⟨0, Nat.zero_le _, rfl, rfl, Lib.hid (Below.refl _ _)⟩
  case round =>
    obtain ⟨n, hn, rfl, rfl, HW⟩ := hrel
    by_cases hlt : n < xs.length
    · have hx := List.getElem?_eq_getElem hlt
      obtain ⟨p', c', e', -, hce⟩ := Hh.out.below HW.out
      cases e'
      obtain ⟨b, o, rfl, c0, c1⟩ := hce n _ hx
      have hst := sumT_take hx
      have hle := HLE.out (n + 1)
      have HLT := Lib.hid hlt
      clear hx hce
      generalize xs[n] = x at *
      obtain ⟨k, s⟩ := x
      dsimp only at c0 c1 hst
      rw [hst] at hle
      have HST := Lib.hid hst
      clear hst
      generalize sumT (xs.take n) = m at *
      have w1 : IntKind.i64.wrap ((1 : Int) + (s.size : Int)) = 1 + (s.size : Int) := IntWalk.i64_in _ (by omega)
      have w2 : IntKind.i64.wrap ((m : Int) + (1 + (s.size : Int))) = ((m + (1 + s.size) : Nat) : Int) := by rw [IntWalk.i64_in _ (by omega)]; omega
      go_wp2
      go_roundw
      case rel => exact ⟨n + 1, HLT.out, by go_num, by rw [HST.out]; first | rfl | (congr 1; omega), HW⟩
      case measure => simp [intOf]; have := HLT.out; omega
    · obtain rfl : n = xs.length := by omega
      rw [List.take_length]
      go_wp2
      go_ret
      exact ⟨by simp; try omega, HW.out⟩
set_option maxRecDepth 100000 in
set_option maxHeartbeats 4000000 in
theorem ltight_calls (a b : TokB) (w : World) (hs : a.2.size + b.2.size ≤ 1000000) :
    Calls Tryz.prog 15 #[.agg #[.int .i64 a.1, .string a.2], .agg #[.int .i64 b.1, .string b.2]] w fun e w' => e = .returned (.bool true) ∧ Below w.heap.size w w' := by
  have Q1 := Lib.hid (fun W => itight_calls a b W hs)
  have Q2 := Lib.hid (fun W => rtight_calls a b W hs)
  generalize tightB a b = t at *
  obtain ⟨ka, sa⟩ := a
  obtain ⟨kb, sb⟩ := b
  dsimp only at Q1 Q2 ⊢
  clear hs
  go_enter Tryz.func15, Tryz.ntmps15
  go_upto_region 1 with (fail)
  obtain ⟨W1, hW1⟩ : ∃ W1, (w.alloc (.cells #[.int .i64 ka, .string sa] 29)).alloc (.cells #[.int .i64 kb, .string sb] 29) = W1 := ⟨_, rfl⟩
  have h1 : Below w.heap.size w W1 := by rw [← hW1]; exact ((Below.refl _ w).alloc (Nat.le_refl _) _).alloc (by simp) _
  have n1 : W1.heap[w.heap.size]? = some (.cells #[.int .i64 ka, .string sa] 29 (0, 0)) := by rw [← hW1]; exact (Below.heap_alloc _ _ _ (by simp)).trans (World.alloc_heap_new w _)
  have n2 : W1.heap[w.heap.size + 1]? = some (.cells #[.int .i64 kb, .string sb] 29 (0, 0)) := by
    have := World.alloc_heap_new (w.alloc (.cells #[.int .i64 ka, .string sa] 29)) (.cells #[.int .i64 kb, .string sb] 29)
    rw [World.size_alloc] at this
    rw [← hW1]
    exact this
  have show1 : ∀ U, Below W1.heap.size W1 U → (U.cell? ⟨w.heap.size, 0, none⟩ = some (.int .i64 ka) ∧ U.cell? ⟨w.heap.size, 1, none⟩ = some (.string sa)) ∧ (U.cell? ⟨w.heap.size + 1, 0, none⟩ = some (.int .i64 kb) ∧ U.cell? ⟨w.heap.size + 1, 1, none⟩ = some (.string sb)) ∧ Below W1.heap.size W1 U := fun U h => by
    have k : ∀ {b : Nat} {o : Obj}, W1.heap[b]? = some o → U.heap[b]? = some o := fun hb => (h.block _ (Array.getElem?_eq_some_iff.1 hb).1).trans hb
    exact ⟨⟨cell_of_block (k n1) rfl, cell_of_block (k n1) rfl⟩, ⟨cell_of_block (k n2) rfl, cell_of_block (k n2) rfl⟩, h⟩
  have HB1 := Lib.hid h1
  have SHOW := Lib.hid show1
  have HBel := Lib.hid (Below.refl W1.heap.size W1)
  clear show1 n1 n2 h1
  rw [hW1]
  clear hW1
  go_region_held3 (fun w' => (w'.cell? ⟨w.heap.size, 0, none⟩ = some (.int .i64 ka) ∧ w'.cell? ⟨w.heap.size, 1, none⟩ = some (.string sa)) ∧ (w'.cell? ⟨w.heap.size + 1, 0, none⟩ = some (.int .i64 kb) ∧ w'.cell? ⟨w.heap.size + 1, 1, none⟩ = some (.string sb)) ∧ Below W1.heap.size W1 w')
    (first | exact SHOW.out _ HBel.out.drew | assumption | (refine SHOW.out _ ?_; assumption))
    (first
      | (go_at_call 12; with_reducible refine (Q1.out _).mono ?_; rintro _ U ⟨rfl, bu⟩; have bb := Below.trans (And.right (And.right (by assumption))) (bu.mono (Below.size (And.right (And.right (by assumption))))); clear bu)
      | (go_at_call 30; with_reducible refine (Q2.out _).mono ?_; rintro _ U ⟨rfl, bu⟩; have bb := Below.trans (And.right (And.right (by assumption))) (bu.mono (Below.size (And.right (And.right (by assumption))))); clear bu))
  all_goals
    have hbx : Below W1.heap.size W1 _ := And.right (And.right (by assumption))
    have HX := Lib.hid (HB1.out.trans (hbx.mono HB1.out.size))
    go_wp2
    go_ret
    exact ⟨by simp, HX.out⟩
set_option maxRecDepth 100000 in
set_option maxHeartbeats 4000000 in
theorem asks_calls (v : Value) (xs : List TokB) (w : World) (h : TokRow w v xs) (hs : sumT xs ≤ 400000) (hwf : ∀ x ∈ xs, WfT x) :
    Calls Tryz.prog 16 #[v] w fun e w' => e = .returned (.bool true) ∧ Below w.heap.size w w' := by
  have hj := sumT_join xs
  have hlx : xs.length ≤ 400000 := by omega
  have hlb : lenB xs ≤ 400000 := by rw [← joinL_len]; omega
  have hI1 := fun W hW => items_calls v xs W (h.below hW) (by omega) (by omega)
  have hI2 := fun W hW => ritems_calls v xs W (h.below hW) (by omega)
  have hN1 := fun W hW => inotes_calls v xs W (h.below hW) (by omega) (by omega)
  have hN2 := fun W hW => rnotes_calls v xs W (h.below hW) (by omega)
  have hL1 := fun W hW => iline_calls v xs W (h.below hW) hs hwf
  have hL2 := fun W hW => rline_calls v xs W (h.below hW) hs
  have hsm := items_small xs ([], [], 0) 0 (by simp) (by simp) (fun x hx => by simp at hx)
  have hnl : (notesL xs).length ≤ 4611686018427387904 := by
    have := notesL_le xs xs.length
    rw [List.take_length] at this
    omega
  obtain ⟨m1, m2, m3⟩ := hsm
  have hst : xs.foldl itStep ([], [], 0) = itemsS xs := rfl
  rw [hst] at m1 m2 m3
  unfold RItemsPost at hI1 hI2
  generalize itemsS xs = st at *
  generalize notesL xs = ns at *
  generalize lineL xs = ln at *
  have HM1 := Lib.hid (show st.1.length ≤ 4611686018427387904 by omega)
  have HM2 := Lib.hid (show st.2.1.length ≤ 4611686018427387904 by omega)
  have HM3 := Lib.hid (fun (x : ItemB) (hx : x ∈ st.2.1) => show x.2.2.length ≤ 4611686018427387904 by have := m3 x hx; omega)
  have HNL := Lib.hid hnl
  have I1 := Lib.hid hI1
  have I2 := Lib.hid hI2
  have N1 := Lib.hid hN1
  have N2 := Lib.hid hN2
  have L1 := Lib.hid hL1
  have L2 := Lib.hid hL2
  clear hI1 hI2 hN1 hN2 hL1 hL2 hj hlb m1 m2 m3 hst hnl h hwf
  go_enter Tryz.func16, Tryz.ntmps16
  go_wp2_with (first
    | (go_at_call 17; with_reducible refine (I1.out _ (Below.refl _ _)).mono ?_; rintro e w1 ⟨vl, vo, us, rfl, hit, hb⟩; have S1 := Lib.hid (strRow_own hit.lead HM1.out); have R1 := Lib.hid (itemRow_own hit HM2.out HM3.out); have HB1 := Lib.hid hb; clear hit hb)
    | (go_at_call 31; with_reducible refine (I2.out _ HB1.out).mono ?_; rintro e w2 ⟨vl2, vo2, us2, rfl, hit, hb⟩; have S2 := Lib.hid (strRow_own hit.lead HM1.out); have R2 := Lib.hid (itemRow_own hit HM2.out HM3.out); have S1' := Lib.hid (S1.out.below hb); have R1' := Lib.hid (R1.out.below hb); have HB2 := Lib.hid (HB1.out.trans (hb.mono HB1.out.size)); clear hit hb)
    | (go_at_call 19; with_reducible refine (ssame_calls _ _ _ _ S1'.out S2.out).mono ?_; rintro e w3 ⟨rfl, hb⟩; have R13 := Lib.hid (R1'.out.below hb); have R23 := Lib.hid (R2.out.below hb); have HB3 := Lib.hid (HB2.out.trans (hb.mono HB2.out.size)); clear hb)
    | (go_at_call 32; with_reducible refine (isame_calls _ _ _ _ R13.out R23.out).mono ?_; rintro e w4 ⟨rfl, hb⟩; have HB4 := Lib.hid (HB3.out.trans (hb.mono HB3.out.size)); clear hb)
    | (go_at_call 18; with_reducible refine (N1.out _ HB4.out).mono ?_; rintro e w5 ⟨u1, rfl, hr, hb⟩; have U1 := Lib.hid (strRow_own hr HNL.out); have HB5 := Lib.hid (HB4.out.trans (hb.mono HB4.out.size)); clear hr hb)
    | (go_at_call 33; with_reducible refine (N2.out _ HB5.out).mono ?_; rintro e w6 ⟨u2, rfl, hr, hb⟩; have U2 := Lib.hid (strRow_own hr HNL.out); have U1' := Lib.hid (U1.out.below hb); have HB6 := Lib.hid (HB5.out.trans (hb.mono HB5.out.size)); clear hr hb)
    | (go_at_call 19; with_reducible refine (ssame_calls _ _ _ _ U1'.out U2.out).mono ?_; rintro e w7 ⟨rfl, hb⟩; have HB7 := Lib.hid (HB6.out.trans (hb.mono HB6.out.size)); clear hb)
    | (go_at_call 13; with_reducible refine (L1.out _ HB7.out).mono ?_; rintro e w8 ⟨rfl, hb⟩; have HB8 := Lib.hid (HB7.out.trans (hb.mono HB7.out.size)); clear hb)
    | (go_at_call 34; with_reducible refine (L2.out _ HB8.out).mono ?_; rintro e w9 ⟨rfl, hb⟩; have HB9 := Lib.hid (HB8.out.trans (hb.mono HB8.out.size)); clear hb))
  go_ret
  exact ⟨by simp, HB9.out⟩
end Go.Proofs.YtiinhkfbgecbjaaGreatDoor
