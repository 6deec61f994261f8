/- The frame of a law: a call that returns true and turns nothing that lay before meets what the statement asks behind the call. Plain: over any program. · What the rows list gives the walks, and how a list of choices comes in. · The texts that choices say, as the program joins them. Its condition: the choices' cells hold bytes. · The law LexTokens, walked. Its condition: how its arguments lie in memory. · The law LexTokens, walked whole. Its condition: how its arguments lie in memory. -/
import Derived.WalkKit
import Derived.ProofKit
import Derived.OpenShut
import Derived.Deep.DeepHandedRow
import Derived.Deep.DeepWitnessRowRef
import Derived.LaidMore
import Derived.Lib.LaidTab
import Derived.Lib.SmallJoins
import Derived.Test.YtfaocpcbejgfjaaGreatDoorA3
import Derived.Test.YtfaocpcbejgfjaaGreatDoorA7
import Derived.Test.YtfaocpcbejgfjaaGreatDoorCards
import Derived.Test.YtfaocpcbejgfjaaGreatDoorTie
import Derived.Lay
import Derived.ChangeSlices
import Derived.Deep.SlicePairs
namespace Go.Sub
open Go.RowKit Go.ChangeShapes Go.ChangeAt Go.WideShapes

theorem trodAll_below {H : Type} {enc : TypeId × Value → H} {P : Program} (hl : laidOutB P = true) {W W' : World} (hb : Below W.heap.size W W') : ∀ (ts : List TypeId) (vs : List Value) (ds : List (DataW H)) (ps : List MemPlace),
    (∀ t ∈ ts, P.readableRec t = true ∧ t < P.types.size) → (∀ x ∈ ps, x.block < W.heap.size) → DataW.TrodAll enc P W 0 (fun _ => true) true ts vs ds ps → DataW.TrodAll enc P W' 0 (fun b => decide (b < W.heap.size)) true ts vs ds ps
  | [], [], [], _, _, _, h => h
  | [], [], _ :: _, _, _, _, h => h.elim
  | [], _ :: _, [], _, _, _, h => h.elim
  | [], _ :: _, _ :: _, _, _, _, h => h.elim
  | _ :: _, [], [], _, _, _, h => h.elim
  | _ :: _, [], _ :: _, _, _, _, h => h.elim
  | _ :: _, _ :: _, [], _, _, _, h => h.elim
  | t :: ts, v :: vs, d :: ds, ps, ht, hlt, h => by
    obtain ⟨p, q, h1, h2, rfl⟩ := h
    exact ⟨p, q, Below.trod hl (ht t List.mem_cons_self).1 (ht t List.mem_cons_self).2 h1 hb (fun x hx => hlt x (List.mem_append.2 (.inl hx))),
      trodAll_below hl hb ts vs ds q (fun t' h' => ht t' (List.mem_cons_of_mem _ h')) (fun x hx => hlt x (List.mem_append.2 (.inr hx))) h2, rfl⟩

/-- **BEHIND THE CALL OF A LAW**: it has returned true, and nothing that lay before has turned. -/
theorem law_post {H : Type} {enc : TypeId × Value → H} {P : Program} {f : Func} {s : ChangeSpec} {W W' : World} {args : Array Value} {ds gs : List (DataW H)} {before : List MemPlace} {tb : TypeId}
    (hl : laidOutB P = true) (hts : f.params.toList.all (fun t => P.readableRec t && decide (t < P.types.size)) = true) (hvars : s.vars = []) (hr : f.resultTypes = #[tb]) (ht : P.underlying tb = some .bool)
    (hspec : s.fn H ds = { results := [.lit (.bool true)], args := ds })
    (hW : DataW.Whole enc P f.params.toList s.vars false W args.toList ds gs before) (hb : Below W.heap.size W W') :
    s.post enc P f false true false false W args (.bool true) W' := by
  have hW' := hW
  have hlt := hW.lt
  obtain ⟨p, q, hA, hV, rfl, _, _⟩ := hW
  rw [hvars] at hV
  obtain ⟨rfl, rfl⟩ := trodVars_none hV
  refine ⟨ds, [], p ++ [], [], p, [], hW', ?_, ?_, ?_, hb.frame _, fun h => by cases h⟩
  · rw [hr, List.append_nil, hspec]
    exact trodAll_mk1 (shut_bool ht _)
  · rw [List.append_nil, hspec]
    refine trodAll_below hl hb _ _ _ _ (fun t h => ?_) (fun x hx => hlt x (by simpa using hx)) hA
    have := List.all_eq_true.1 hts t h
    simpa using this
  · rw [List.append_nil, hspec, hvars]
    rfl

/-- the rest of what the rows list -/
theorem laidMet_tail {P : Program} {W : World} {y : String × DataW Unit} {l : List (String × DataW Unit)} (h : laidMet P (y :: l) W) : laidMet P l W := by
  obtain ⟨ps, ⟨g, t, cs, fuel, p, q, h1, h2, h3, h4, h5, rfl⟩, hn, hc⟩ := h
  exact ⟨q, h5, (List.nodup_append.1 hn).2.1, fun b off hm => hc b off (List.mem_append.2 (.inr hm))⟩
end Go.Sub
namespace Go.Proofs.YtfaocpcbejgfjaaGreatDoor
open Go.ChangeShapes Go.WideShapes Go.ChangeAt Go.RowKit Go.Sub

theorem own : ownKnob Tryz.prog.godebug = none := by kernel_rfl
theorem laidOut : laidOutB Tryz.prog = true := by kernel_rfl
/-- a heap that holds what the rows list -/
theorem door_met (os : Os) (args : Array Value) : laidMet Tryz.prog Rows.lexTokensRow.laid ((World.laidAll Tryz.prog os Rows.lexTokensRow.laid).forCall (fun _ _ => 0) ⟨#[], args, []⟩).memory :=
  laidMet_laidAll _ (by kernel_rfl) (by kernel_rfl)
theorem cells5 : Tryz.prog.cellsOf 5 = 1 := by kernel_rfl
/-- a slice of bytes that lies in a world -/
def BytesAt (w : World) (a : Addr) (len : Nat) : Prop := ∀ j < len, ∃ x : UInt8, w.cell? (a.add j) = some (.int .u8 (x.toNat : Int))
def BytesV (w : World) (v : Value) : Prop := v = .slice none 0 0 ∨ ∃ a len cap, v = .slice (some a) len cap ∧ BytesAt w a len ∧ len ≤ 9223372036854775807
theorem BytesV.below {w w' : World} {v : Value} (h : BytesV w v) (hb : Below w.heap.size w w') : BytesV w' v := by
  rcases h with rfl | ⟨a, len, cap, rfl, hc, hl⟩
  · exact .inl rfl
  · refine .inr ⟨a, len, cap, rfl, fun j hj => ?_, hl⟩
    obtain ⟨x, hx⟩ := hc j hj
    exact ⟨x, (hb.cell (World.block_lt_of_cell? _ _ hx)).trans hx⟩
set_option maxRecDepth 100000 in
theorem bytes_open {H : Type} {enc : TypeId × Value → H} {W : World} {r : Go.Reach} {b0 : Nat} {sp : Nat → Bool} {v : Value} {d : DataW H} {ps : List MemPlace}
    (hval : Value.okWide Tryz.prog W r b0 23 v) (hd : DataW.Trod enc Tryz.prog W 0 sp true 23 v d ps) : BytesV W v := by
  obtain ⟨a0, len, cap, rfl⟩ := okWide_slice Tryz.underlying23 hval
  obtain ⟨fuel, hf⟩ := hd
  rcases open_ints Tryz.underlying23 Tryz.underlying5 cells5 hf with ⟨hcs, _⟩ | ⟨a, len', cap', zs, hcs, _, hl, hm, hz, _, hcell, hwz⟩
  · simp [Value.cells] at hcs
    obtain ⟨rfl, rfl, rfl⟩ := hcs
    exact .inl rfl
  · simp [Value.cells] at hcs
    obtain ⟨rfl, rfl, rfl⟩ := hcs
    refine .inr ⟨a, len, cap, rfl, fun j hj => ?_, by unfold maxLen at hm; omega⟩
    have hjz : j < zs.length := by rw [hz]; split <;> omega
    have hw := hwz (zs.getD j 0) (by rw [List.getD_eq_getElem?_getD, List.getElem?_eq_getElem hjz]; exact List.getElem_mem hjz)
    have hb : 0 ≤ zs.getD j 0 ∧ zs.getD j 0 ≤ 255 := by simpa [Lit.wf, IntKind.min, IntKind.max, IntKind.signed, IntKind.bits] using hw
    refine ⟨UInt8.ofNat (zs.getD j 0).toNat, ?_⟩
    rw [hcell j hjz, UInt8.toNat_ofNat_of_lt' (by show (zs.getD j 0).toNat < 256; omega), Int.toNat_of_nonneg hb.1]
def BytesW (w : World) (v : Value) : Prop := ∃ p len cap, v = .slice p len cap ∧ len ≤ 9223372036854775807 ∧ ∀ j, j < len → ∃ a, ∃ x : UInt8, p = some a ∧ w.cell? (a.add j) = some (.int .u8 (x.toNat : Int))
theorem bytesW_of {w : World} {v : Value} (h : BytesV w v) : BytesW w v := by
  rcases h with rfl | ⟨a, len, cap, rfl, hc, hl⟩
  · exact ⟨none, 0, 0, rfl, by omega, fun j h => by omega⟩
  · exact ⟨some a, len, cap, rfl, hl, fun j hj => by obtain ⟨x, hx⟩ := hc j hj; exact ⟨a, x, rfl, hx⟩⟩
theorem cellsTok : Tryz.prog.cellsOf 32 = 2 := by kernel_rfl
theorem cells3 : Tryz.prog.cellsOf 3 = 1 := by kernel_rfl
theorem cells9 : Tryz.prog.cellsOf 9 = 1 := by kernel_rfl
theorem cell_plain {w : World} {a : Addr} {n : Nat} {v : Value} (h : w.cell? (a.add 0) = some v) : a = ⟨a.block, a.off, none⟩ := by
  obtain ⟨b, o, s⟩ := a
  cases s with
  | none => rfl
  | some k =>
    unfold Addr.add at h
    rw [if_pos rfl] at h
    unfold World.cell? at h
    split at h <;> simp at h
theorem sum_bulk {H : Type} (f : Nat → DataW H) (g : Nat → TokB) : ∀ l : List Nat, (∀ i ∈ l, 1 + (g i).2.size ≤ Rows.uptoBulk (f i)) → sumT (l.map g) ≤ Rows.uptoBulkAll (l.map f)
  | [], _ => Nat.le_refl _
  | i :: l, h => by
    have ih := sum_bulk f g l fun j hj => h j (List.mem_cons_of_mem _ hj)
    have h1 := h i (by simp)
    have e1 : sumT ((i :: l).map g) = 1 + (g i).2.size + sumT (l.map g) := rfl
    rw [e1, List.map_cons, Rows.uptoBulkAll]; omega
set_option maxRecDepth 100000 in
/-- a list of tokens that is handed in -/
theorem toks_open {H : Type} {enc : TypeId × Value → H} {W : World} {r : Go.Reach} {b0 : Nat} {sp : Nat → Bool} {v : Value} {d : DataW H} {ps : List MemPlace}
    (hval : Value.okWide Tryz.prog W r b0 22 v) (hd : DataW.Trod enc Tryz.prog W 0 sp true 22 v d ps) (hbulk : Rows.uptoBulk d ≤ 1048576) : ∃ xs, TokRow W v xs ∧ sumT xs ≤ 1048576 := by
  obtain ⟨a0, len, cap, rfl⟩ := okWide_slice Tryz.underlying22 hval
  obtain ⟨fuel, hf⟩ := hd
  rcases Go.Deep.open_slice_pairs Tryz.underlying22 Tryz.underlying32 cellsTok rfl rfl cells3 cells9 hf with ⟨hcs, _⟩ | ⟨a, len', cap', m, n, V0, V1, D0, D1, P0, P1, hcs, _, hlc, hcm, hm, hx, hall⟩
  · simp [Value.cells] at hcs
    obtain ⟨rfl, rfl, rfl⟩ := hcs
    exact ⟨[], ⟨none, 0, rfl, by simp, fun i x hx => by simp at hx⟩, by decide⟩
  · simp [Value.cells] at hcs
    obtain ⟨rfl, rfl, rfl⟩ := hcs
    have hlm : len ≤ m := by rw [hm]; split <;> omega
    have each : ∀ i, i < len → ∃ q : TokB, W.cell? (a.add (i * 2)) = some (.int .i64 q.1) ∧ W.cell? (a.add (i * 2 + 1)) = some (.string q.2) ∧ 1 + q.2.size ≤ Rows.uptoBulk (.agg [D0 i, D1 i] : DataW H) := by
      intro i hi
      obtain ⟨c0, c1, t0, t1⟩ := hall i (by omega)
      obtain ⟨x, e0, d0, _⟩ := DataW.trod_int Tryz.underlying3 t0
      obtain ⟨s, e1, d1, _⟩ := DataW.trod_string Tryz.underlying9 t1
      simp only [List.cons.injEq, and_true] at e0 e1
      simp only [Prod.mk.injEq] at d0 d1
      rw [e0] at c0
      rw [e1] at c1
      refine ⟨(x, s), c0, c1, ?_⟩
      rw [d0.1, d1.1]
      simp only [Rows.uptoBulk, Rows.uptoBulkAll]
      rw [← Lib.size_eq]
      omega
    obtain ⟨q, hq⟩ := Go.Deep.choose_lt each
    simp only [Prod.mk.injEq] at hx
    have hs : sumT ((List.range len).map q) ≤ 1048576 := by
      refine Nat.le_trans (sum_bulk (fun i => (.agg [D0 i, D1 i] : DataW H)) q (List.range len) fun i hi => (hq i (List.mem_range.1 hi)).2.2) ?_
      rw [hx.1, Rows.uptoBulk] at hbulk
      omega
    have hj := sumT_join ((List.range len).map q)
    rw [List.length_map, List.length_range] at hj
    refine ⟨(List.range len).map q, ⟨some a, cap, by rw [List.length_map, List.length_range], by rw [List.length_map, List.length_range]; omega, fun i x hx => ?_⟩, hs⟩
    have hi : i < len := by
      have := (List.getElem?_eq_some_iff.1 hx).1
      rwa [List.length_map, List.length_range] at this
    rw [List.getElem?_map, List.getElem?_range hi] at hx
    obtain rfl : q i = x := by simpa using hx
    obtain ⟨c0, c1, _⟩ := hq i hi
    have hpl : a = ⟨a.block, a.off, none⟩ := cell_plain (n := 0) (by simpa using (hq 0 (by omega)).1)
    refine ⟨a.block, a.off, by rw [← hpl], ?_, ?_⟩
    · rw [hpl] at c0
      have e := Go.WideShapes.add_plain a.block a.off (i * 2)
      rwa [e] at c0
    · rw [hpl] at c1
      have e := Go.WideShapes.add_plain a.block a.off (i * 2 + 1)
      rwa [e, ← Nat.add_assoc] at c1
end Go.Proofs.YtfaocpcbejgfjaaGreatDoor
namespace Go.Proofs.YtfaocpcbejgfjaaGreatDoor
open Go.RowKit Go.Sub

def srcI : List (List UInt8) := [[46], [46, 97], [36, 120], [102], [40], [41], [91], [93], [123], [125], [124], [44], [49], [49, 46, 53, 101, 51], [34], [92, 40], [92, 110], [32], [10], [35, 32, 110, 10], [35, 32, 97, 92, 10], [97, 110, 100], [97, 115], [64, 106, 115, 111, 110], [63, 47, 47], [47, 47], [46, 46], [58], [59], [61], [45], [195, 169], [105, 102], [97, 58, 58, 98], [92, 113], [35, 92, 13, 10], [34]]
def srcC : List Value := srcI.map fun x => Value.string ⟨x.toArray⟩
theorem srcI_len : ∀ x ∈ srcI, x.length ≤ 5 := by decide +kernel
def txtI : List (List UInt8) := [[97], [98], [10], [13, 10], [195, 169], [226, 130, 172], [240, 159, 152, 128], [255], [195], [237, 160, 128], [192, 128], [239, 191, 189], [32], [244, 144, 128, 128]]
def txtC : List Value := txtI.map fun x => Value.string ⟨x.toArray⟩
theorem txtI_len : ∀ x ∈ txtI, x.length ≤ 5 := by decide +kernel
set_option maxRecDepth 100000 in
set_option maxHeartbeats 4000000 in
theorem source_calls (v : Value) (w : World) (hv : BytesV w v) :
    Calls Tryz.prog 6 #[v] w fun e w' => ∃ R : ByteArray, e = .returned (.string R) ∧ R.size ≤ 300 ∧ Below w.heap.size w w' := by
  obtain ⟨p, len, cap, rfl, hl, hc⟩ := bytesW_of hv
  clear hv
  have hb1 : (w.alloc (.cells srcC.toArray 9)).heap[w.heap.size]? = some (.cells srcC.toArray 9 (0, 0)) := World.alloc_heap_new w _
  have hB1 := (Below.refl w.heap.size w).alloc (Nat.le_refl _) (.cells srcC.toArray 9)
  obtain ⟨W1, hW1⟩ : ∃ W1, w.alloc (.cells srcC.toArray 9) = W1 := ⟨_, rfl⟩
  rw [hW1] at hb1 hB1
  simp only [srcC, srcI, List.map_cons, List.map_nil] at hW1
  go_enter Tryz.func6, Tryz.ntmps6
  go_wp2
  clear hW1
  go_loopw [4, 5] (fun v i wr => ∃ (k : Nat) (R : ByteArray), v = .string R ∧ i = .int .i64 k ∧ k ≤ 60 ∧ R.size ≤ 5 * k ∧ wr.heap[w.heap.size]? = some (.cells srcC.toArray 9 (0, 0)) ∧ Below w.heap.size w wr) (fun _ i _ => 60 - (intOf i).toNat)
  case atStart => exact ⟨0, _, rfl, rfl, by omega, by decide, hb1, hB1⟩
  case round =>
    clear hb1 hB1
    obtain ⟨k, R, rfl, rfl, hk, hR, hbl, hB⟩ := hrel
    by_cases hlt : k < len ∧ k < 60
    · obtain ⟨hl1, hl2⟩ := hlt
      obtain ⟨a, x, rfl, hx⟩ := hc k hl1
      have hx' : wr.cell? (a.add k) = some (.int .u8 (x.toNat : Int)) := (hB.cell (World.block_lt_of_cell? _ _ hx)).trans hx
      have hxl := x.toNat_lt
      obtain ⟨y, hy⟩ : ∃ y, srcI[x.toNat % 37]? = some y := ⟨_, List.getElem?_eq_getElem (show _ < 37 by omega)⟩
      have hym := List.mem_of_getElem? hy
      have hy3 := srcI_len y hym
      have hcl : wr.cell? ⟨w.heap.size, x.toNat % 37, none⟩ = some (.string ⟨y.toArray⟩) := cell_of_block hbl (by simp [srcC, hy])
      obtain ⟨Y, hY⟩ : ∃ Y : ByteArray, (⟨y.toArray⟩ : ByteArray) = Y := ⟨_, rfl⟩
      have hYs : Y.size ≤ 5 := by rw [← hY]; exact hy3
      rw [hY] at hcl
      have Hbl := Lib.hid hbl
      clear hY hy hy3 hx hc hbl hym
      go_wp2
      go_roundw
      case rel => exact ⟨k + 1, _, rfl, by go_num, by omega, by rw [ByteArray.size_append]; omega, Hbl.out, hB⟩
      case measure => simp only [intOf]; omega
    · clear hc
      go_wp2
      all_goals
        go_ret
        exact ⟨R, rfl, by omega, hB⟩
set_option maxRecDepth 100000 in
set_option maxHeartbeats 4000000 in
theorem text_calls (v : Value) (w : World) (hv : BytesV w v) :
    Calls Tryz.prog 9 #[v] w fun e w' => ∃ R : ByteArray, e = .returned (.string R) ∧ R.size ≤ 300 ∧ Below w.heap.size w w' := by
  obtain ⟨p, len, cap, rfl, hl, hc⟩ := bytesW_of hv
  clear hv
  have hb1 : (w.alloc (.cells txtC.toArray 9)).heap[w.heap.size]? = some (.cells txtC.toArray 9 (0, 0)) := World.alloc_heap_new w _
  have hB1 := (Below.refl w.heap.size w).alloc (Nat.le_refl _) (.cells txtC.toArray 9)
  obtain ⟨W1, hW1⟩ : ∃ W1, w.alloc (.cells txtC.toArray 9) = W1 := ⟨_, rfl⟩
  rw [hW1] at hb1 hB1
  simp only [txtC, txtI, List.map_cons, List.map_nil] at hW1
  go_enter Tryz.func9, Tryz.ntmps9
  go_wp2
  clear hW1
  go_loopw [4, 5] (fun v i wr => ∃ (k : Nat) (R : ByteArray), v = .string R ∧ i = .int .i64 k ∧ k ≤ 60 ∧ R.size ≤ 5 * k ∧ wr.heap[w.heap.size]? = some (.cells txtC.toArray 9 (0, 0)) ∧ Below w.heap.size w wr) (fun _ i _ => 60 - (intOf i).toNat)
  case atStart => exact ⟨0, _, rfl, rfl, by omega, by decide, hb1, hB1⟩
  case round =>
    clear hb1 hB1
    obtain ⟨k, R, rfl, rfl, hk, hR, hbl, hB⟩ := hrel
    by_cases hlt : k < len ∧ k < 60
    · obtain ⟨hl1, hl2⟩ := hlt
      obtain ⟨a, x, rfl, hx⟩ := hc k hl1
      have hx' : wr.cell? (a.add k) = some (.int .u8 (x.toNat : Int)) := (hB.cell (World.block_lt_of_cell? _ _ hx)).trans hx
      have hxl := x.toNat_lt
      obtain ⟨y, hy⟩ : ∃ y, txtI[x.toNat % 14]? = some y := ⟨_, List.getElem?_eq_getElem (show _ < 14 by omega)⟩
      have hym := List.mem_of_getElem? hy
      have hy3 := txtI_len y hym
      have hcl : wr.cell? ⟨w.heap.size, x.toNat % 14, none⟩ = some (.string ⟨y.toArray⟩) := cell_of_block hbl (by simp [txtC, hy])
      obtain ⟨Y, hY⟩ : ∃ Y : ByteArray, (⟨y.toArray⟩ : ByteArray) = Y := ⟨_, rfl⟩
      have hYs : Y.size ≤ 5 := by rw [← hY]; exact hy3
      rw [hY] at hcl
      have Hbl := Lib.hid hbl
      clear hY hy hy3 hx hc hbl hym
      go_wp2
      go_roundw
      case rel => exact ⟨k + 1, _, rfl, by go_num, by omega, by rw [ByteArray.size_append]; omega, Hbl.out, hB⟩
      case measure => simp only [intOf]; omega
    · clear hc
      go_wp2
      all_goals
        go_ret
        exact ⟨R, rfl, by omega, hB⟩
end Go.Proofs.YtfaocpcbejgfjaaGreatDoor
namespace Go.Proofs.YtfaocpcbejgfjaaGreatDoor
open Go.RowKit Go.Sub

theorem step_err (l : List UInt8) (st : List Nat) (inn : Bool) : (stepN l st inn).2.2.2.2 ≤ 21 := by
  unfold stepN
  split
  · unfold insN
    repeat' split
    all_goals simp
  · unfold outN
    split <;> simp
theorem lexN_err : ∀ (F : Nat) (l : List UInt8) (a : Nat) (st : List Nat) (inn : Bool), (lexN F l a st inn).2.1 ≤ 99
  | 0, _, _, _, _ => Nat.le_refl _
  | F + 1, l, a, st, inn => by
    unfold lexN
    split
    · dsimp only
      split <;> omega
    · have h := step_err (l.drop a) st inn
      generalize stepN (l.drop a) st inn = r at h
      obtain ⟨k, n, st2, inn2, e⟩ := r
      cases e with
      | zero => exact lexN_err F l _ _ _
      | succ e => dsimp only at h ⊢; omega
theorem tokensN_facts (s : ByteArray) : (tokensN s).2.1 ≤ 99 ∧ (tokensN s).1.length ≤ s.size := by
  unfold tokensN
  split
  · exact ⟨by decide, by simp⟩
  · split
    · exact ⟨by show 10 ≤ 99; omega, by simp⟩
    · obtain ⟨ys, b, st2, inn2, er, h1, h2, h3⟩ := lex_whole s.data.toList
      have he := lexN_err (s.data.toList.length + 1) s.data.toList 0 [] false
      rw [← Lib.size_eq] at h2 he
      have hf := reach_facts h1
      rw [← Lib.size_eq] at hf
      rw [h2] at he ⊢
      split
      · exact ⟨by simp, by dsimp only; omega⟩
      · exact ⟨he, by simp⟩
set_option maxRecDepth 100000 in
set_option maxHeartbeats 4000000 in
theorem tk_calls (s : ByteArray) (hs : s.size < 65536) (w : World) :
    Calls Tryz.prog 8 #[.string s] w fun e w' => e = .returned (.bool true) ∧ Below w.heap.size w w' := by
  obtain ⟨f1, f2⟩ := tokensN_facts s
  have ht := fun w => tokens_calls s w (by omega)
  have hr := fun w => rtokens_calls s w (by omega)
  generalize tokensN s = r at *
  obtain ⟨ys, er, z⟩ := r
  dsimp only at f1 f2
  have Ht := Lib.hid ht
  have Hr := Lib.hid hr
  have F2 := Lib.hid f2
  clear ht hr f2
  go_enter Tryz.func8, Tryz.ntmps8
  go_wp2_with (first
    | (go_at_call 11; refine (Ht.out _).mono ?_; rintro e w1 ⟨v1, rfl, hrow, hb⟩; have Hb1 := Lib.hid hb; have R1 := Lib.hid hrow; clear hb hrow)
    | (go_at_call 7; refine (Hr.out _).mono ?_; rintro e w2 ⟨v2, rfl, hrow, hb⟩; have Hb2 := Lib.hid (Hb1.out.trans (hb.mono Hb1.out.size)); have R2 := Lib.hid hrow; have R1' := Lib.hid ((tokRow_own R1.out (by have := F2.out; omega)).below hb); clear hb hrow)
    | (go_at_call 15; refine (same_calls _ _ _ _ _ R1'.out (tokRow_own R2.out (by have := F2.out; omega))).mono ?_; rintro e w3 ⟨rfl, hb⟩; have Hb3 := Lib.hid (Hb2.out.trans (hb.mono Hb2.out.size)); clear hb))
  go_ret
  exact ⟨by simp, Hb3.out⟩
set_option maxRecDepth 100000 in
set_option maxHeartbeats 4000000 in
theorem rw_calls (v : Value) (xs : List TokB) (w : World) (h : TokRow w v xs) (hs : sumT xs ≤ 1048576) (hlen : (joinL xs).length ≤ 1000000) :
    Calls Tryz.prog 10 #[v] w fun e w' => e = .returned (.bool true) ∧ Below w.heap.size w w' := by
  have h1 := fun w h => join_calls v xs w h hlen
  have h2 := fun w h => rjoin_calls v xs w h (by omega)
  have h3 := fun w h => right_calls v xs w h hlen
  have h4 := fun w h => rright_calls v xs w h hlen
  generalize (⟨(joinL xs).toArray⟩ : ByteArray) = J at *
  generalize rightB xs = b at *
  have H1 := Lib.hid h1
  have H2 := Lib.hid h2
  have H3 := Lib.hid h3
  have H4 := Lib.hid h4
  have Hh := Lib.hid h
  clear h1 h2 h3 h4 h hs hlen
  go_enter Tryz.func10, Tryz.ntmps10
  go_wp2_with (first
    | (go_at_call 16; refine (H1.out _ Hh.out).mono ?_; rintro e w1 ⟨rfl, hb⟩; have Hb := Lib.hid hb; have Hh1 := Lib.hid (Hh.out.below hb); clear hb)
    | (go_at_call 17; refine (H2.out _ Hh1.out).mono ?_; rintro e w2 ⟨rfl, hb⟩; have Hb2 := Lib.hid (Hb.out.trans (hb.mono Hb.out.size)); have Hh2 := Lib.hid (Hh1.out.below hb); clear hb)
    | (go_at_call 18; refine (H3.out _ Hh2.out).mono ?_; rintro e w3 ⟨rfl, hb⟩; have Hb3 := Lib.hid (Hb2.out.trans (hb.mono Hb2.out.size)); have Hh3 := Lib.hid (Hh2.out.below hb); clear hb)
    | (go_at_call 19; refine (H4.out _ Hh3.out).mono ?_; rintro e w4 ⟨rfl, hb⟩; have Hb4 := Lib.hid (Hb3.out.trans (hb.mono Hb3.out.size)); clear hb))
  go_ret
  exact ⟨by simp, Hb4.out⟩
end Go.Proofs.YtfaocpcbejgfjaaGreatDoor
namespace Go.Proofs.YtfaocpcbejgfjaaGreatDoor
open Go.RowKit Go.Sub

theorem TokRow.take {w : World} {p : Option Addr} {n cap : Nat} {xs : List TokB} (h : TokRow w (.slice p n cap) xs) (k : Nat) (hk : k ≤ n) : TokRow w (.slice p k cap) (xs.take k) := by
  obtain ⟨p', cap', e, h1, h2⟩ := h
  cases e
  refine ⟨p, cap, by rw [List.length_take, Nat.min_eq_left hk], by rw [List.length_take]; omega, fun i x hx => h2 i x ?_⟩
  rw [List.getElem?_take] at hx
  split at hx
  · exact hx
  · cases hx
theorem join_own {s : ByteArray} (hs : s.size ≤ 65536) : (joinL ((tokensN s).1.map (tokB s.data.toList))).length ≤ s.size := by
  obtain ⟨ys, er, z, ht⟩ : ∃ ys er z, tokensN s = (ys, er, z) := ⟨_, _, _, rfl⟩
  obtain ⟨q1, q2⟩ := tokens_shape hs ht
  rw [ht]
  dsimp only
  by_cases he : er = 0
  · rw [(q2 he).2.2.1, ← Lib.size_eq]; exact Nat.le_refl _
  · rw [(q1 he).1]; simp [joinL]
theorem quote_size (R : ByteArray) (h : R.size ≤ 300) : ((⟨#[34]⟩ : ByteArray) ++ R ++ ⟨#[34]⟩).size < 65536 := by
  rw [ByteArray.size_append, ByteArray.size_append]
  show 1 + R.size + 1 < 65536
  omega
theorem own_tokens {R : ByteArray} {w : World} {base : Nat} {e : TypeId} {v : Value} (hR : R.size ≤ 300) (h : w.ownsRow base e 2 v (tokensN R).1.length (tokC R.data.toList (tokensN R).1)) :
    TokRow w v ((tokensN R).1.map (tokB R.data.toList)) ∧ sumT ((tokensN R).1.map (tokB R.data.toList)) ≤ 1048576 ∧ (joinL ((tokensN R).1.map (tokB R.data.toList))).length ≤ 1000000 := by
  have h1 := (tokensN_facts R).2
  have h2 := join_own (s := R) (by omega)
  have h3 := sumT_join ((tokensN R).1.map (tokB R.data.toList))
  rw [List.length_map] at h3
  exact ⟨tokRow_own h (by omega), by omega, by omega⟩
set_option maxRecDepth 100000 in
set_option maxHeartbeats 4000000 in
theorem tokens_core (s : ByteArray) (v1 v2 v3 : Value) (xs : List TokB) (w : World) (hx : TokRow w v1 xs) (hsum : sumT xs ≤ 1048576) (hv2 : BytesV w v2) (hv3 : BytesV w v3) :
    Calls Tryz.prog 3 #[.string s, v1, v2, v3] w fun e w' => e = .returned (.bool true) ∧ Below w.heap.size w w' := by
  have Hx := Lib.hid hx
  have Hv2 := Lib.hid hv2
  have Hv3 := Lib.hid hv3
  have Hs := Lib.hid hsum
  obtain ⟨p1, cp1, rfl, hl1, _⟩ := hx
  clear hv2 hv3
  by_cases hs : 300 < s.size
  · go_enter Tryz.func3, Tryz.ntmps3
    go_wp2_with (go_at_call 5; refine (known_calls _).mono ?_; rintro e w1 ⟨rfl, hB⟩)
    go_ret
    exact ⟨rfl, hB⟩
  · by_cases hm : 300 < sumT xs
    · have Hm := Lib.hid (many_calls _ xs w Hx.out hsum)
      rw [decide_eq_true hm] at Hm
      clear hm hsum
      go_enter Tryz.func3, Tryz.ntmps3
      go_wp2_with (first
        | (go_at_call 4; refine (Hm.out).mono ?_; rintro e w0 ⟨rfl, rfl⟩)
        | (go_at_call 5; refine (known_calls _).mono ?_; rintro e w1 ⟨rfl, hB⟩))
      go_ret
      exact ⟨rfl, hB⟩
    · have Hm := Lib.hid (many_calls _ xs w Hx.out hsum)
      rw [decide_eq_false hm] at Hm
      have hj := sumT_join xs
      have Hj := Lib.hid (show (joinL xs).length ≤ 1000000 by omega)
      clear hj hm hsum
      go_enter Tryz.func3, Tryz.ntmps3
      go_wp2_with (first
        | (go_at_call 4; refine (Hm.out).mono ?_; rintro e w0 ⟨rfl, rfl⟩)
        | (go_at_call 5; refine (known_calls _).mono ?_; rintro e w1 ⟨rfl, hB⟩)
        | (go_at_call 6; refine (source_calls _ _ (Hv2.out.below hB)).mono ?_; rintro e w2 ⟨R, rfl, hR, hb⟩; replace hB := hB.trans (hb.mono hB.size); clear hb)
        | (go_at_call 7; refine (rtokens_calls R _ (by omega)).mono ?_; rintro e w3 ⟨v4, rfl, hrow, hb⟩; replace hB := hB.trans (hb.mono hB.size); obtain ⟨q1, q2, q3⟩ := own_tokens (R := R) hR hrow; obtain ⟨p4, cp4, rfl, _⟩ := row_shape hrow; have hC := Below.refl w3.heap.size w3; have HT := Lib.hid q1; have HS4 := Lib.hid q2; have HJ4 := Lib.hid q3; generalize (tokensN R).1.map (tokB R.data.toList) = ms at HT HS4 HJ4; have hn4 := (tokensN_facts R).2; generalize (tokensN R).1.length = n4 at *; clear q1 q2 q3 hrow hb)
        | (go_at_call 8; with_reducible refine (tk_calls s (by omega) _).mono ?_; rintro e w5 ⟨rfl, hb⟩; replace hB := hB.trans (hb.mono hB.size); replace hC := hC.trans (hb.mono hC.size); clear hb)
        | (go_at_call 8; with_reducible refine (tk_calls R (by omega) _).mono ?_; rintro e w6 ⟨rfl, hb⟩; replace hB := hB.trans (hb.mono hB.size); replace hC := hC.trans (hb.mono hC.size); clear hb)
        | (go_at_call 9; refine (text_calls _ _ (Hv3.out.below hB)).mono ?_; rintro e w7 ⟨T, rfl, hT2, hb⟩; replace hB := hB.trans (hb.mono hB.size); replace hC := hC.trans (hb.mono hC.size); clear hb)
        | (go_at_call 8; with_reducible refine (tk_calls T (by omega) _).mono ?_; rintro e w8 ⟨rfl, hb⟩; replace hB := hB.trans (hb.mono hB.size); replace hC := hC.trans (hb.mono hC.size); clear hb)
        | (go_at_call 8; refine (tk_calls _ (quote_size R hR) _).mono ?_; rintro e w9 ⟨rfl, hb⟩; replace hB := hB.trans (hb.mono hB.size); replace hC := hC.trans (hb.mono hC.size); clear hb)
        | (go_at_call 10; with_reducible refine (rw_calls _ xs _ (Hx.out.below hB) Hs.out Hj.out).mono ?_; rintro e w10 ⟨rfl, hb⟩; replace hB := hB.trans (hb.mono hB.size); replace hC := hC.trans (hb.mono hC.size); clear hb)
        | (go_at_call 10; with_reducible refine (rw_calls _ ms _ (HT.out.below hC) HS4.out HJ4.out).mono ?_; rintro e w11 ⟨rfl, hb⟩; replace hB := hB.trans (hb.mono hB.size); replace hC := hC.trans (hb.mono hC.size); clear hb)
        | (go_at_call 10; with_reducible refine (rw_calls _ (ms.take (n4 / 2)) _ ((HT.out.below hC).take (n4 / 2) (Nat.div_le_self _ _)) (Nat.le_trans (sumT_le ms _) HS4.out) (Nat.le_trans (joinL_le ms _) HJ4.out)).mono ?_; rintro e w12 ⟨rfl, hb⟩; replace hB := hB.trans (hb.mono hB.size); replace hC := hC.trans (hb.mono hC.size); clear hb))
      go_ret
      exact ⟨rfl, hB⟩
end Go.Proofs.YtfaocpcbejgfjaaGreatDoor
