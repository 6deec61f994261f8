/- The iterator of package prec gives the 24 operators with their levels and sides, in order, to every loop body; strings.Fields by its contract, the table of blanks being laid. -/
import Derived.RangeFuncNested
import Derived.RangeFuncBound
import Derived.RangeFuncCalls
import Derived.RangeFuncLeaves
import Derived.Shelf.Abstract
import Derived.Shelf.RegionOpen
import Derived.WalkKit
import Derived.WalkSpells
import Derived.WalkLawsBesides
import Derived.OwnWalkIn
import Derived.TacticsInMore
import Derived.LoopNIn
import Derived.LoopIn
import Derived.Lib.Hide
import Derived.Test.YtbjhfkaboncpoaaDoorShelf
import Derived.Test.YtbjhfkaboncpoaaDoorRange
import Derived.Test.YtbjhfkaboncpoaaDoorRows
namespace Go.Proofs.YtbjhfkaboncpoaaDoor
open Go.RowKit Go.Shelf Go.Sub
attribute [local go_sem] Oper.semAt_some

/-- the rows of package prec: the side, the operators -/
def rowsL : List (Int × List UInt8) := [(2, [124]), (1, [44]), (2, [47, 47]),
  (0, [61, 32, 124, 61, 32, 43, 61, 32, 45, 61, 32, 42, 61, 32, 47, 61, 32, 37, 61, 32, 47, 47, 61]), (1, [111, 114]), (1, [97, 110, 100]),
  (0, [61, 61, 32, 33, 61, 32, 60, 32, 60, 61, 32, 62, 32, 62, 61]), (1, [43, 32, 45]), (1, [42, 32, 47, 32, 37])]
def sideAt (k : Nat) : Int := (rowsL.getD k (0, [])).1
def textAt (k : Nat) : List UInt8 := (rowsL.getD k (0, [])).2
def rowsCells : Array Value := (rowsL.flatMap fun r => [Value.int .i64 r.1, Value.string ⟨r.2.toArray⟩]).toArray
theorem rowsCells_at (k : Nat) (h : k < 9) : rowsCells[0 + k * 2]? = some (.int .i64 (sideAt k)) ∧ rowsCells[0 + k * 2 + 1]? = some (.string ⟨(textAt k).toArray⟩) := by
  have : k = 0 ∨ k = 1 ∨ k = 2 ∨ k = 3 ∨ k = 4 ∨ k = 5 ∨ k = 6 ∨ k = 7 ∨ k = 8 := by omega
  rcases this with rfl | rfl | rfl | rfl | rfl | rfl | rfl | rfl | rfl <;> exact ⟨rfl, rfl⟩
abbrev OpX := ByteArray × Int × Int
def rowOps (k : Nat) : List OpX := (Lib.fields (textAt k)).map fun f => (⟨f.toArray⟩, (k : Int) + 1, sideAt k)
def upTo (k : Nat) : List OpX := (List.range k).flatMap rowOps
def opsX : List OpX := upTo 9
def encX (x : OpX) : Array Value := #[.string x.1, .agg #[.int .i64 x.2.1, .int .i64 x.2.2]]

set_option maxHeartbeats 400000 in
theorem rows_in (n : Nat) (w : World) :
    CallsIn Fence.wide n Tryd.prog 29 #[] w fun e w' => e = .returned (.slice (some ⟨w.heap.size, 0, none⟩) 9 9) ∧ w' = w.alloc (.cells rowsCells 50) := by
  refine callsIn_wide.2 ?_
  go_enter Tryd.func29, Tryd.ntmps29
  go_wp2
  go_ret
  exact ⟨rfl, rfl⟩

theorem upTo_succ (k : Nat) : upTo (k + 1) = upTo k ++ rowOps k := by simp [upTo, List.range_succ]
theorem upTo_prefix (k : Nat) : ∀ d, upTo k <+: upTo (k + d)
  | 0 => List.prefix_refl _
  | d + 1 => (upTo_prefix k d).trans (by rw [show k + (d + 1) = (k + d) + 1 from rfl, upTo_succ]; exact List.prefix_append _ _)
theorem opsX_length : opsX.length = 24 := by decide +kernel
theorem rowOps_length (k : Nat) : (rowOps k).length = (Lib.fields (textAt k)).length := by simp [rowOps]
theorem row_prefix (k : Nat) (h : k < 9) (j : Nat) : upTo k ++ (rowOps k).take j <+: opsX := by
  have h1 : upTo (k + 1) <+: opsX := by
    have := upTo_prefix (k + 1) (9 - (k + 1)); rwa [show k + 1 + (9 - (k + 1)) = 9 by omega] at this
  rw [upTo_succ] at h1
  exact (List.prefix_append_right_inj _ |>.2 (List.take_prefix _ _)).trans h1
theorem row_lt (k : Nat) (h : k < 9) (j : Nat) (hj : j < (Lib.fields (textAt k)).length) : (upTo k ++ (rowOps k).take j).length < 24 := by
  have h1 := (row_prefix k h (j + 1)).length_le
  rw [opsX_length] at h1
  rw [← rowOps_length] at hj
  simp at h1 ⊢
  omega
theorem row_snoc (k j : Nat) (hj : j < (Lib.fields (textAt k)).length) : (rowOps k).take (j + 1) = (rowOps k).take j ++ [(⟨((Lib.fields (textAt k))[j]).toArray⟩, (k : Int) + 1, sideAt k)] := by
  rw [List.take_succ_eq_append_getElem (by rw [rowOps_length]; exact hj)]
  simp [rowOps]
theorem textAt_size (k : Nat) (h : k < 9) : (⟨(textAt k).toArray⟩ : ByteArray).size < 4294967281 := by
  have : k = 0 ∨ k = 1 ∨ k = 2 ∨ k = 3 ∨ k = 4 ∨ k = 5 ∨ k = 6 ∨ k = 7 ∨ k = 8 := by omega
  rcases this with rfl | rfl | rfl | rfl | rfl | rfl | rfl | rfl | rfl <;> decide +kernel
theorem textAt_ascii (k : Nat) (h : k < 9) : ∀ (j : Nat) b, (⟨(textAt k).toArray⟩ : ByteArray).data.toList[j]? = some b → b.toNat < 128 := by
  have : k = 0 ∨ k = 1 ∨ k = 2 ∨ k = 3 ∨ k = 4 ∨ k = 5 ∨ k = 6 ∨ k = 7 ∨ k = 8 := by omega
  have key : ∀ b ∈ textAt k, b.toNat < 128 := by
    rcases this with rfl | rfl | rfl | rfl | rfl | rfl | rfl | rfl | rfl <;> decide +kernel
  exact fun j b hb => key b (List.mem_of_getElem? (by simpa using hb))
theorem hi9 : (Tryd.prog.info? 9).map (fun i => (i.zero, i.size, i.bytes)) = some (some (.string ByteArray.empty), 1, 16) := by kernel_rfl
def TabX (w : World) : Prop := ∀ c : Nat, c < 256 → w.cell? ⟨0, c, none⟩ = some (.int .u8 (if Lib.isSp (UInt8.ofNat c) then 1 else 0))
theorem TabX.alloc {w : World} (h : TabX w) (o : Obj) : TabX (w.alloc o) := fun c hc => by
  rw [World.cell?_alloc_old _ _ _ (Nat.ne_of_lt (World.block_lt_of_cell? _ _ (h c hc)))]; exact h c hc
theorem TabX.keeps {O : Nat → Prop} {w w' : World} (h : TabX w) (k : Keeps O w w') (h0 : ¬ O 0) : TabX w' := fun c hc => k.cell (h c hc) h0
theorem fields_calls (s : ByteArray) (w : World) (hs : s.size < 4294967281) (hascii : ∀ (j : Nat) b, s.data.toList[j]? = some b → b.toNat < 128) (hT : TabX w) :
    Calls Tryd.prog 30 #[.string s] w fun e w' => e = .returned (.slice (some ⟨w.heap.size, 0, none⟩) (Lib.fields s.data.toList).length (Lib.fields s.data.toList).length) ∧ w' = w.alloc (.cells ((Lib.fields s.data.toList).map fun l => Value.string ⟨l.toArray⟩).toArray 9) :=
  Any.strings_Fields_core Tryd.lays157 hi9 s w hs hascii hT
theorem heap_lt {w : World} {b : Nat} {o : Obj} (h : w.heap[b]? = some o) : b < w.heap.size := (Array.getElem?_eq_some_iff.1 h).1
theorem cell_of_heap {w : World} {b o : Nat} {cs : Array Value} {t : TypeId} {v : Value} {m : Nat × Nat} (h : w.heap[b]? = some (.cells cs t m)) (hv : cs[o]? = some v) : w.cell? ⟨b, o, none⟩ = some v := by simp [World.cell?, h, hv]

set_option maxRecDepth 100000 in
set_option maxHeartbeats 1000000 in
theorem each1_in (n : Nat) (hn : 1 ≤ n) (l : Nat) (J Jx : List OpX → (Nat → Prop) → World → Prop) (W : World) (O : Nat → Prop) (hO : ∀ b, O b → b < W.heap.size ∧ ¬ False ∧ ¬ b = 0)
    (hJ : ∀ pre O A B, J pre O A → Keeps (fun b => ¬ O b ∧ (False ∨ W.heap.size ≤ b)) A B → J pre O B)
    (hY : ∀ pre x W1 O1, J pre O1 W1 → pre.length < 24 → YieldAt Fence.wide (n - 1) Tryd.prog l (encX x) W1 fun e W' => ∃ O2, Keeps O1 W1 W' ∧ (∀ b, O2 b → (O1 b ∨ W1.heap.size ≤ b) ∧ b < W'.heap.size) ∧
      ((e = .returned (.bool true) ∧ J (pre ++ [x]) O2 W') ∨ (e = .returned (.bool false) ∧ Jx (pre ++ [x]) O2 W')))
    (hT : TabX W) (h0 : J [] O W) :
    CallsIn Fence.wide n Tryd.prog 28 #[.func (.yield l) #[] #[]] W fun e W' => (∃ v, e = .returned v) ∧
      ((∃ ys O', ys = opsX ∧ J ys O' W') ∨ (∃ pre O', pre <+: opsX ∧ Jx pre O' W')) := by
  have hJa : ∀ pre O w o, J pre O w → J pre O (w.alloc o) := fun pre O w o h => hJ _ _ _ _ h (Keeps.alloc _ _ _)
  refine callsIn_of_wp Tryd.func28 rfl trivial ?_ rfl
  simp only [Tryd.ntmps28, List.size_toArray, List.length_cons, List.length_nil, Nat.reduceAdd, Nat.reduceSub, Array.replicate_succ, Array.replicate_zero, List.push_toArray, List.append_toArray, List.nil_append, List.cons_append]
  have hB0 : (W.alloc (.cells rowsCells 50)).heap[W.heap.size]? = some (.cells rowsCells 50 (0, 0)) := World.alloc_heap_new W _
  have hT0 := hT.alloc (.cells rowsCells 50)
  have hJ0 := hJa _ _ _ (.cells rowsCells 50) h0
  gi_wp2_with (refine ⟨trivial, ?_⟩; gi_at_call 29; refine (rows_in (n - 1) _).mono ?_; rintro e w' ⟨rfl, rfl⟩)
  gi_loopw [8] (fun i wr => ∃ (k : Nat) (O : Nat → Prop), k ≤ 9 ∧ i = .int .i64 k ∧ wr.heap[W.heap.size]? = some (.cells rowsCells 50 (0, 0)) ∧ J (upTo k) O wr ∧ (¬ O 0 ∧ ¬ O W.heap.size ∧ ∀ b, O b → b < wr.heap.size) ∧ TabX wr)
    (fun i _ => 9 - (intOf i).toNat)
  case atStart => exact ⟨0, O, by omega, rfl, hB0, hJ0, ⟨fun h => (hO _ h).2.2 rfl, fun h => by have := (hO _ h).1; omega, fun b h => by have := (hO _ h).1; simp; omega⟩, hT0⟩
  case round =>
    clear hB0 hT0 hJ0 h0 hT
    obtain ⟨k, O, hk, rfl, hB, hJk, ⟨hO0, hOW, hOs⟩, hT⟩ := hrel
    by_cases hlt : k < 9
    · have hc0 : wr.cell? ⟨W.heap.size, k * 2, none⟩ = some (.int .i64 (sideAt k)) := cell_of_heap hB (by simpa using (rowsCells_at k hlt).1)
      have hc1 : wr.cell? ⟨W.heap.size, k * 2 + 1, none⟩ = some (.string ⟨(textAt k).toArray⟩) := cell_of_heap hB (by simpa using (rowsCells_at k hlt).2)
      have hlB := heap_lt hB
      have hsz := textAt_size k hlt
      have hTa := fun o => hT.alloc o
      obtain ⟨fs, hfs⟩ : ∃ fs, Lib.fields (textAt k) = fs := ⟨_, rfl⟩
      have hfld := fun o => fields_calls ⟨(textAt k).toArray⟩ (wr.alloc o) hsz (textAt_ascii k hlt) (hTa o)
      have hfsl : fs.length ≤ 24 := by
        have h1 := (row_prefix k hlt fs.length).length_le
        rw [opsX_length] at h1
        have h2 := rowOps_length k
        rw [hfs] at h2
        simp [List.length_take, h2] at h1
        omega
      simp only [hfs] at hfld
      have Hfs := Lib.hid hfs
      clear hfs hsz
      gi_wp2_with (refine ⟨trivial, ?_⟩; gi_at_call 30; refine (callsIn_wide.2 (hfld _)).mono ?_; rintro e w' ⟨rfl, rfl⟩)
      have hbox : ((wr.alloc (.cells #[.int .i64 (sideAt k), .string ⟨(textAt k).toArray⟩] 50)).alloc (.cells (fs.map fun l => Value.string ⟨l.toArray⟩).toArray 9)).heap[wr.heap.size]? = some (.cells #[.int .i64 (sideAt k), .string ⟨(textAt k).toArray⟩] 50 (0, 0)) :=
        (Below.heap_alloc _ _ _ (by simp)).trans (World.alloc_heap_new _ _)
      have hfl : ((wr.alloc (.cells #[.int .i64 (sideAt k), .string ⟨(textAt k).toArray⟩] 50)).alloc (.cells (fs.map fun l => Value.string ⟨l.toArray⟩).toArray 9)).heap[wr.heap.size + 1]? = some (.cells (fs.map fun l => Value.string ⟨l.toArray⟩).toArray 9 (0, 0)) := by
        have := World.alloc_heap_new (wr.alloc (.cells #[.int .i64 (sideAt k), .string ⟨(textAt k).toArray⟩] 50)) (.cells (fs.map fun l => Value.string ⟨l.toArray⟩).toArray 9)
        rwa [World.size_alloc] at this
      have hBk : ((wr.alloc (.cells #[.int .i64 (sideAt k), .string ⟨(textAt k).toArray⟩] 50)).alloc (.cells (fs.map fun l => Value.string ⟨l.toArray⟩).toArray 9)).heap[W.heap.size]? = some (.cells rowsCells 50 (0, 0)) :=
        (Below.heap_alloc _ _ _ (by simp; omega)).trans ((Below.heap_alloc _ _ _ hlB).trans hB)
      have hJ2 := hJa _ _ _ (.cells (fs.map fun l => Value.string ⟨l.toArray⟩).toArray 9) (hJa _ _ _ (.cells #[.int .i64 (sideAt k), .string ⟨(textAt k).toArray⟩] 50) hJk)
      have hT2 := (hT.alloc (.cells #[.int .i64 (sideAt k), .string ⟨(textAt k).toArray⟩] 50)).alloc (.cells (fs.map fun l => Value.string ⟨l.toArray⟩).toArray 9)
      obtain ⟨B2, hB2⟩ : ∃ B2, wr.heap.size = B2 := ⟨_, rfl⟩
      rw [hB2] at hbox hfl hlB
      have hOB : ¬ O B2 ∧ ¬ O (B2 + 1) := ⟨fun h => by have := hOs _ h; omega, fun h => by have := hOs _ h; omega⟩
      have hOs2 : ∀ b, O b → b < ((wr.alloc (.cells #[.int .i64 (sideAt k), .string ⟨(textAt k).toArray⟩] 50)).alloc (.cells (fs.map fun l => Value.string ⟨l.toArray⟩).toArray 9)).heap.size := fun b h => by have := hOs _ h; simp; omega
      generalize hWW : ((wr.alloc (.cells #[.int .i64 (sideAt k), .string ⟨(textAt k).toArray⟩] 50)).alloc (.cells (fs.map fun l => Value.string ⟨l.toArray⟩).toArray 9)) = WW at *
      rw [hB2]
      clear hWW hfld hc0 hc1 hTa hT hJk hB hB2 hOs
      gi_loopw [17] (fun i w2 => ∃ (j : Nat) (O : Nat → Prop), j ≤ fs.length ∧ i = .int .i64 j ∧ w2.heap[W.heap.size]? = some (.cells rowsCells 50 (0, 0)) ∧ w2.heap[B2]? = some (.cells #[.int .i64 (sideAt k), .string ⟨(textAt k).toArray⟩] 50 (0, 0)) ∧
          w2.heap[B2 + 1]? = some (.cells (fs.map fun l => Value.string ⟨l.toArray⟩).toArray 9 (0, 0)) ∧ J (upTo k ++ (rowOps k).take j) O w2 ∧ ((¬ O 0 ∧ ¬ O W.heap.size) ∧ (¬ O B2 ∧ ¬ O (B2 + 1)) ∧ ∀ b, O b → b < w2.heap.size) ∧ TabX w2)
        (fun i _ => fs.length - (intOf i).toNat)
      case atStart => exact ⟨0, O, by omega, rfl, hBk, hbox, hfl, by simpa using hJ2, ⟨⟨hO0, hOW⟩, hOB, hOs2⟩, hT2⟩
      case round =>
        clear hBk hbox hfl hJ2 hT2 hO0 hOW hOB hOs2
        obtain ⟨j, O, hj, rfl, hBk, hbox, hfl, hJj, ⟨⟨hO0, hOW⟩, ⟨hOB, hOB1⟩, hOs⟩, hTj⟩ := hrel
        by_cases hjl : j < fs.length
        · have hcj : wr.cell? ⟨B2 + 1, j, none⟩ = some (.string ⟨fs[j].toArray⟩) := cell_of_heap hfl (by simp [hjl])
          have hcb : wr.cell? ⟨B2, 0, none⟩ = some (.int .i64 (sideAt k)) := cell_of_heap hbox rfl
          have hlt24 := row_lt k hlt j (by rw [Hfs.out]; exact hjl)
          have hl1 := heap_lt hfl
          have hl0 := heap_lt hBk
          obtain ⟨fn, tmps, assign, body, hy, hR⟩ := hY _ (⟨fs[j].toArray⟩, (k : Int) + 1, sideAt k) wr O hJj hlt24
          dsimp only [encX] at hy
          have h00 : 0 < wr.heap.size := World.block_lt_of_cell? _ _ (hTj 0 (by omega))
          clear hlt24
          gi_wp2
          refine hR.mono ?_
          rintro e W3 ⟨O2, hk3, hO2, (⟨rfl, hJ3⟩ | ⟨rfl, hJx3⟩)⟩
          · have hB3 := hk3.heap hBk hOW
            have hbox3 := hk3.heap hbox hOB
            have hfl3 := hk3.heap hfl hOB1
            have hT3 := hTj.keeps hk3 hO0
            have hn : ∀ b, ¬ O b → b < wr.heap.size → ¬ O2 b := fun b h1 h2 h => (hO2 b h).1.elim h1 (by omega)
            have hn0 := hn _ hO0 h00
            have hnW := hn _ hOW hl0
            have hnB := hn _ hOB (by omega)
            have hnB1 := hn _ hOB1 hl1
            gi_wp2
            go_roundw
            case rel => exact ⟨j + 1, O2, by omega, by go_num, hB3, hbox3, hfl3, by rw [row_snoc k j (by rw [Hfs.out]; exact hjl)]; simpa [Hfs.out] using hJ3, ⟨⟨hn0, hnW⟩, ⟨hnB, hnB1⟩, fun b h => (hO2 b h).2⟩, hT3⟩
            case measure => simp [intOf]; omega
          · gi_wp2
            refine bodyPost_ret (results_none rfl _ _ _) rfl ?_
            refine ⟨⟨_, rfl⟩, .inr ⟨_, O2, row_prefix k hlt (j + 1), ?_⟩⟩
            rw [row_snoc k j (by rw [Hfs.out]; exact hjl)]; simpa [Hfs.out] using hJx3
        · have hje : j = fs.length := by omega
          have hJe : J (upTo (k + 1)) O wr := by
            rw [upTo_succ]; rwa [List.take_of_length_le (by rw [rowOps_length, Hfs.out]; omega)] at hJj
          gi_wp2
          go_roundw
          case rel => exact ⟨k + 1, O, by omega, by go_num, hBk, hJe, ⟨hO0, hOW, hOs⟩, hTj⟩
          case measure => simp [intOf]; omega
    · have hke : k = 9 := by omega
      subst hke
      gi_wp2
      refine bodyPost_end (results_none rfl _ _ _) rfl ?_
      exact ⟨⟨_, rfl⟩, .inl ⟨_, O, rfl, hJk⟩⟩

set_option maxHeartbeats 400000 in
theorem each_in (n : Nat) (w : World) :
    CallsIn Fence.wide n Tryd.prog 19 #[] w fun e w' => e = .returned (.func (.func 28) #[] #[]) ∧ w' = w := by
  refine callsIn_wide.2 ?_
  go_enter Tryd.func19, Tryd.ntmps19
  go_wp2
  go_ret
  exact ⟨rfl, rfl⟩

theorem TabX.below {w w' : World} (h : TabX w) (hb : Below w.heap.size w w') : TabX w' := h.keeps (O := fun _ => False) (Keeps.of_below' hb) (fun h => h)

theorem each_stops (n : Nat) (hn : 1 ≤ n) (w : World) (hT : TabX w) :
    SeqO Fence.wide n Tryd.prog 28 #[] encX (fun _ => False) (fun b => b = 0) (fun ys _ => ys = opsX) (fun pre _ => pre <+: opsX) 24 w := fun l J Jx W O hW hO hJ hY h0 =>
  each1_in n hn l J Jx W O hO hJ hY (hT.below hW) h0
end Go.Proofs.YtbjhfkaboncpoaaDoor
