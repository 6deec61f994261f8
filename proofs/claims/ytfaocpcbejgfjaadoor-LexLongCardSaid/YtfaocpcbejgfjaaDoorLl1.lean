/- The law LexLong, walked. No condition. -/
import Derived.Test.YtfaocpcbejgfjaaDoorLe2
import Derived.Deep.OwnRows
import Derived.Laws.IdiomStrings
namespace Go.Proofs.YtfaocpcbejgfjaaDoor
open Go.RowKit Go.Sub

theorem run_all (p : UInt8 → Bool) : ∀ l : List UInt8, (∀ b ∈ l, p b = true) → runOf p l = l.length
  | [], _ => rfl
  | b :: r, h => by
    have ih := run_all p r fun x hx => h x (List.mem_cons_of_mem _ hx)
    unfold runOf at ih ⊢
    rw [List.takeWhile_cons, h b (by simp), if_pos rfl, List.length_cons, ih, List.length_cons]
theorem blank_step (k : Nat) : stepN (List.replicate (k + 1) 32) [] false = (1, k + 1, [], false, 0) := by
  rw [← stepF_eq]
  have h := run_all isBlank (List.replicate (k + 1) 32) (fun b hb => by rw [List.eq_of_mem_replicate hb]; rfl)
  rw [List.length_replicate] at h
  unfold stepF
  rw [if_neg (by simp)]
  unfold kindsL outM
  rw [h, List.find?_cons, show decide (0 < ((1, k + 1) : Nat × Nat).2) = true from decide_eq_true (by show 0 < k + 1; omega)]
  rfl
theorem blanks_run (k : Nat) : lexN (k + 1) (List.replicate k 32) 0 [] false = (if k = 0 then [] else [(1, 0, k)], 0, k) := by
  match k with
  | 0 => rfl
  | k + 1 =>
    rw [lexN_step (k := 1) (n := k + 1) (st2 := []) (inn2 := false) (by simp) (by rw [List.drop_zero]; exact blank_step k), lexN, if_pos (by simp)]
    simp
theorem blanks_told (k : Nat) (S : ByteArray) (hS : S.data.toList = List.replicate k 32) : tokensN S = if k ≤ 65536 then (if k = 0 then [] else [(1, 0, k)], 0, 0) else ([], 3, 0) := by
  have hs : S.size = k := by rw [Lib.size_eq, hS, List.length_replicate]
  by_cases h : k ≤ 65536
  · have hr : lexN (S.size + 1) S.data.toList 0 [] false = (if k = 0 then [] else [(1, 0, k)], 0, k) := by rw [hs, hS]; exact blanks_run k
    rw [if_pos h, tokens_at (s := S) (by omega) (utf_ascii fun b hb => by rw [hS] at hb; rw [List.eq_of_mem_replicate hb]; decide) hr, if_pos rfl]
  · rw [if_neg h]
    unfold tokensN
    rw [if_pos (by omega)]
theorem info5 : (Tryd.prog.info? 5).map (fun i => (i.zero, i.size, i.bytes)) = some (some (.int .u8 0), 1, 1) := by kernel_rfl
theorem slice22 : Tryd.prog.underlying 22 = some (.slice 5) := by kernel_rfl
theorem und5 : Tryd.prog.underlying 5 = some (.int .u8) := by kernel_rfl
theorem und9 : Tryd.prog.underlying 9 = some .string := by kernel_rfl

theorem made_size (k : Nat) : (madeCells #[.int .u8 0] k).size = k := by
  unfold madeCells
  simp

set_option maxRecDepth 100000 in
set_option maxHeartbeats 4000000 in
theorem long_core (n : Int) (h0 : 0 ≤ n) (h1 : n ≤ 4294967295) (w : World) :
    Calls Tryd.prog 8 #[.int .u32 n] w fun e w' => e = .returned (.bool true) ∧ Below w.heap.size w w' := by
  obtain ⟨k, hk⟩ : ∃ k : Nat, n % 70000 = (k : Int) := ⟨(n % 70000).toNat, by omega⟩
  have hk1 : k < 70000 := by omega
  have hmk := run_make_row' (P := Tryd.prog) 22 5 (.int .u8 0) 1 slice22 info5 rfl .i64 .i64 k (by omega) (by omega)
  have Hmk := Lib.hid hmk
  go_enter Tryd.func8, Tryd.ntmps8
  go_wp2
  clear hmk
  have hblk0 : (w.alloc (.cells (madeCells #[.int .u8 0] k) 5)).heap[w.heap.size]? = some (.cells (madeCells #[.int .u8 0] k) 5 (0, 0)) := World.alloc_heap_new w _
  have hB0 : Below w.heap.size w (w.alloc (.cells (madeCells #[.int .u8 0] k) 5)) := (Below.refl _ _).alloc (Nat.le_refl _) _
  have hms : (madeCells #[.int .u8 0] k).size = k := made_size k
  go_loopw [5] (fun i wr => ∃ j : Nat, i = .int .i64 j ∧ j ≤ k ∧ ∃ cs : Array Value, wr.heap[w.heap.size]? = some (.cells cs 5 (0, 0)) ∧ cs.size = k ∧ (∀ q, q < j → cs[q]? = some (.int .u8 32)) ∧ Below w.heap.size w wr) (fun i _ => k - (intOf i).toNat)
  case atStart => exact ⟨0, rfl, by omega, _, hblk0, hms, fun q h => by omega, hB0⟩
  case round =>
    clear hblk0 hB0 hms Hmk
    obtain ⟨j, rfl, hj, cs, hblk, hcs, hq, hB⟩ := hrel
    by_cases hlt : j < k
    · obtain ⟨u, hu⟩ : ∃ u, cs[j]? = some u := ⟨_, Array.getElem?_eq_getElem (by omega)⟩
      have hcj : wr.cell? ⟨w.heap.size, j, none⟩ = some u := cell_of_block hblk hu
      have hfj := frozen_of_row wr w.heap.size j _ _ hblk
      have Hq := Lib.hid hq
      have Hblk := Lib.hid hblk
      have Hu := Lib.hid hu
      clear hq hblk hu
      go_wp2
      go_roundw
      case rel =>
        refine ⟨j + 1, by go_num, by omega, _, heap_setCell_same wr w.heap.size j _ _ _ Hblk.out, by simp [hcs], fun q hq' => ?_, hB.trans ((keeps_setCell (O := fun b => b = w.heap.size) wr w.heap.size j _ rfl).below hB.size fun b h => by omega)⟩
        rw [Array.getElem?_setIfInBounds]
        split
        · rw [if_pos (by omega)]
        · exact Hq.out q (by omega)
      case measure => simp only [intOf]; omega
    · have hjk : j = k := by omega
      subst hjk
      have hconv := run_convert_bytes_back (P := Tryd.prog) wr 22 9 5 ⟨w.heap.size, 0, none⟩ j (List.replicate j 32) slice22 und5 und9 (fun q hq' => by
        rw [List.length_replicate] at hq'
        rw [show (⟨w.heap.size, 0, none⟩ : Addr).add q = ⟨w.heap.size, q, none⟩ by unfold Addr.add; split <;> simp_all]
        rw [List.getElem_replicate]
        exact cell_of_block hblk (hq q hq'))
      rw [List.length_replicate] at hconv
      obtain ⟨S, hS⟩ : ∃ S : ByteArray, (⟨(List.replicate j 32).toArray⟩ : ByteArray) = S := ⟨_, rfl⟩
      have hSd : S.data.toList = List.replicate j 32 := by rw [← hS]
      have htold := blanks_told j S hSd
      have hSs : S.size < 4611686018427387904 := by rw [Lib.size_eq, hSd, List.length_replicate]; omega
      rw [hS] at hconv
      clear hblk hq hS hSd
      by_cases h6 : j ≤ 65536
      · rw [if_pos h6] at htold
        have y6 : ((j : Int) ≤ 65536) = True := by apply eq_true; omega
        by_cases h00 : j = 0
        · subst h00
          rw [if_pos rfl] at htold
          have Ht := Lib.hid (tokens_none htold hSs)
          clear htold
          go_wp2_with (first
            | (go_at_call 11; refine (Ht.out _).mono ?_; rintro e w2 ⟨p2, cap2, rfl, hb⟩; replace hB := hB.trans (hb.mono hB.size); clear hb)
            | (go_at_call 12; refine (known_calls _).mono ?_; rintro e w3 ⟨rfl, hb⟩; replace hB := hB.trans (hb.mono hB.size); clear hb))
          go_ret
          exact ⟨rfl, hB⟩
        · rw [if_neg h00] at htold
          have hmin : (if (j : Int) ≤ 1 then (j : Int) else 1) = 1 := by split <;> omega
          have hmin2 : min (j : Int) 1 = 1 := by omega
          have Ht := Lib.hid (tokens_some (n := 0) htold rfl hSs)
          clear htold
          go_wp2_with (first
            | (go_at_call 11; refine (Ht.out _).mono ?_; rintro e w2 ⟨g2, cap2, rfl, _, _, hb⟩; replace hB := hB.trans (hb.mono hB.size); clear hb)
            | (go_at_call 12; refine (known_calls _).mono ?_; rintro e w3 ⟨rfl, hb⟩; replace hB := hB.trans (hb.mono hB.size); clear hb))
          go_ret
          exact ⟨rfl, hB⟩
      · rw [if_neg h6] at htold
        have y6 : ((j : Int) ≤ 65536) = False := by apply eq_false; omega
        have Ht := Lib.hid (tokens_none htold hSs)
        clear htold
        go_wp2_with (first
          | (go_at_call 11; refine (Ht.out _).mono ?_; rintro e w2 ⟨p2, cap2, rfl, hb⟩; replace hB := hB.trans (hb.mono hB.size); clear hb)
          | (go_at_call 12; refine (known_calls _).mono ?_; rintro e w3 ⟨rfl, hb⟩; replace hB := hB.trans (hb.mono hB.size); clear hb))
        go_ret
        exact ⟨rfl, hB⟩
end Go.Proofs.YtfaocpcbejgfjaaDoor
