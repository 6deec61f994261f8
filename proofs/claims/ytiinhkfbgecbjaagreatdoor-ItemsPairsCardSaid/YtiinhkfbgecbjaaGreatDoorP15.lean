/- ItemsPairs, walked. Its condition: two bytes. -/
import Derived.Test.YtiinhkfbgecbjaaGreatDoorC2
import Derived.Deep.RegionHeld3
import Derived.Deep.Cut
namespace Go.Proofs.YtiinhkfbgecbjaaGreatDoor
set_option linter.unusedSimpArgs false
set_option linter.unusedVariables false
open Go.RowKit Go.Sub

def wordC : List Value := [.int .i64 3, .string ⟨#[97]⟩, .int .i64 3, .string ⟨#[97, 110, 100]⟩, .int .i64 6, .string ⟨#[49]⟩, .int .i64 6, .string ⟨#[49, 46, 53]⟩]
def markC : List Value := [.int .i64 13, .string ⟨#[40]⟩, .int .i64 13, .string ⟨#[41]⟩, .int .i64 13, .string ⟨#[91]⟩, .int .i64 13, .string ⟨#[93]⟩]
theorem word_cells : ∀ i < 4, ∃ x, wordsT[i]? = some x ∧ wordC[i * 2]? = some (.int .i64 x.1) ∧ wordC[i * 2 + 1]? = some (.string ⟨x.2.toArray⟩) := by
  intro i hi
  match i, hi with
  | 0, _ => exact ⟨_, rfl, rfl, rfl⟩
  | 1, _ => exact ⟨_, rfl, rfl, rfl⟩
  | 2, _ => exact ⟨_, rfl, rfl, rfl⟩
  | 3, _ => exact ⟨_, rfl, rfl, rfl⟩
theorem mark_cells : ∀ i < 4, ∃ x, marksT[i]? = some x ∧ markC[i * 2]? = some (.int .i64 x.1) ∧ markC[i * 2 + 1]? = some (.string ⟨x.2.toArray⟩) := by
  intro i hi
  match i, hi with
  | 0, _ => exact ⟨_, rfl, rfl, rfl⟩
  | 1, _ => exact ⟨_, rfl, rfl, rfl⟩
  | 2, _ => exact ⟨_, rfl, rfl, rfl⟩
  | 3, _ => exact ⟨_, rfl, rfl, rfl⟩
theorem wordsT_small : ∀ x ∈ wordsT, x.2.length ≤ 3 ∧ WfT (tokOf x) := by decide +kernel
theorem marksT_small : ∀ x ∈ marksT, x.2.length ≤ 3 ∧ WfT (tokOf x) := by decide +kernel
set_option maxRecDepth 100000 in
set_option maxHeartbeats 4000000 in
theorem pairs_core (a b : Nat) (ha : a ≤ 255) (hb : b ≤ 255) (w : World) : Calls Tryz.prog 4 #[.int .u8 (a : Int), .int .u8 (b : Int)] w fun e w' => e = .returned (.bool true) ∧ Below w.heap.size w w' := by
  have hb1 : (w.alloc (.cells wordC.toArray 29)).heap[w.heap.size]? = some (.cells wordC.toArray 29 (0, 0)) := World.alloc_heap_new w _
  have hB1 := (Below.refl w.heap.size w).alloc (Nat.le_refl _) (.cells wordC.toArray 29)
  have hz1 : (w.alloc (.cells wordC.toArray 29)).heap.size = w.heap.size + 1 := World.size_alloc w _
  obtain ⟨W1, hW1⟩ : ∃ W1, w.alloc (.cells wordC.toArray 29) = W1 := ⟨_, rfl⟩
  rw [hW1] at hb1 hB1 hz1
  have hb2 : (W1.alloc (.cells markC.toArray 29)).heap[W1.heap.size]? = some (.cells markC.toArray 29 (0, 0)) := World.alloc_heap_new W1 _
  have hB2 := (Below.refl W1.heap.size W1).alloc (Nat.le_refl _) (.cells markC.toArray 29)
  have hz2 : (W1.alloc (.cells markC.toArray 29)).heap.size = W1.heap.size + 1 := World.size_alloc W1 _
  obtain ⟨W2, hW2⟩ : ∃ W2, W1.alloc (.cells markC.toArray 29) = W2 := ⟨_, rfl⟩
  rw [hW2] at hb2 hB2 hz2
  have hb1' : W2.heap[w.heap.size]? = some (.cells wordC.toArray 29 (0, 0)) := (hB2.block _ (by omega)).trans hb1
  rw [hz1] at hb2
  obtain ⟨x, ex, x0, x1⟩ := word_cells (a % 4) (Nat.mod_lt _ (by decide))
  obtain ⟨y, ey, y0, y1⟩ := word_cells (b % 4) (Nat.mod_lt _ (by decide))
  obtain ⟨z, ez, z0, z1⟩ := mark_cells (b / 4 % 4) (Nat.mod_lt _ (by decide))
  have mx := List.mem_of_getElem? ex
  have my := List.mem_of_getElem? ey
  have mz := List.mem_of_getElem? ez
  have cx0 : W2.cell? ⟨w.heap.size, a % 4 * 2, none⟩ = some (.int .i64 x.1) := cell_of_block hb1' (by rw [List.getElem?_toArray]; exact x0)
  have cx1 : W2.cell? ⟨w.heap.size, a % 4 * 2 + 1, none⟩ = some (.string ⟨x.2.toArray⟩) := cell_of_block hb1' (by rw [List.getElem?_toArray]; exact x1)
  have cy0 : W2.cell? ⟨w.heap.size, b % 4 * 2, none⟩ = some (.int .i64 y.1) := cell_of_block hb1' (by rw [List.getElem?_toArray]; exact y0)
  have cy1 : W2.cell? ⟨w.heap.size, b % 4 * 2 + 1, none⟩ = some (.string ⟨y.2.toArray⟩) := cell_of_block hb1' (by rw [List.getElem?_toArray]; exact y1)
  have cz0 : W2.cell? ⟨w.heap.size + 1, b / 4 % 4 * 2, none⟩ = some (.int .i64 z.1) := cell_of_block hb2 (by rw [List.getElem?_toArray]; exact z0)
  have cz1 : W2.cell? ⟨w.heap.size + 1, b / 4 % 4 * 2 + 1, none⟩ = some (.string ⟨z.2.toArray⟩) := cell_of_block hb2 (by rw [List.getElem?_toArray]; exact z1)
  obtain ⟨t1, t2, t3, t4, t5⟩ := pairs_law mx my mz
  obtain ⟨sx, wx⟩ := wordsT_small x mx
  obtain ⟨sy, wy⟩ := wordsT_small y my
  obtain ⟨sz, wz⟩ := marksT_small z mz
  have hB12 := hB1.trans (hB2.mono (by omega))
  have hz : W2.heap.size = w.heap.size + 1 + 1 := by omega
  obtain ⟨kx, X⟩ := x
  obtain ⟨ky, Y⟩ := y
  obtain ⟨kz, Z⟩ := z
  dsimp only at cx0 cx1 cy0 cy1 cz0 cz1 t5 sx sy sz
  have hcat : (⟨(lineL [tokOf (kx, X), tokOf (ky, Y), tokOf (kz, Z)]).toArray⟩ : ByteArray) = ((⟨X.toArray⟩ ++ ⟨#[32]⟩) ++ ⟨Y.toArray⟩) ++ ⟨Z.toArray⟩ := by
    rw [t5]
    apply ByteArray.ext
    simp [ByteArray.data_append]
  have hsum : sumI [tokOf (kx, X), tokOf (ky, Y), tokOf (kz, Z)] ≤ 400000 := by
    have e : ∀ (k : Int) (l : List UInt8), (tokOf (k, l)).2.size = l.length := fun k l => by show l.toArray.size = _; simp
    simp only [sumI, List.map_cons, List.map_nil, List.sum_cons, List.sum_nil, e]
    omega
  have hx3 : (⟨X.toArray⟩ : ByteArray).size ≤ 3 := by show X.toArray.size ≤ 3; simpa using sx
  have hy3 : (⟨Y.toArray⟩ : ByteArray).size ≤ 3 := by show Y.toArray.size ≤ 3; simpa using sy
  have hz3 : (⟨Z.toArray⟩ : ByteArray).size ≤ 3 := by show Z.toArray.size ≤ 3; simpa using sz
  have T1 := fun W => itight_calls (tokOf (kx, X)) (tokOf (ky, Y)) W (by show (⟨X.toArray⟩ : ByteArray).size + (⟨Y.toArray⟩ : ByteArray).size ≤ _; omega)
  have T2 := fun W => itight_calls (tokOf (kx, X)) (tokOf (kz, Z)) W (by show (⟨X.toArray⟩ : ByteArray).size + (⟨Z.toArray⟩ : ByteArray).size ≤ _; omega)
  have T3 := fun W => itight_calls (tokOf (kz, Z)) (tokOf (kx, X)) W (by show (⟨Z.toArray⟩ : ByteArray).size + (⟨X.toArray⟩ : ByteArray).size ≤ _; omega)
  have T4 := fun W => itight_calls (tokOf (kz, Z)) (tokOf (kz, Z)) W (by show (⟨Z.toArray⟩ : ByteArray).size + (⟨Z.toArray⟩ : ByteArray).size ≤ _; omega)
  rw [t1] at T1
  rw [t2] at T2
  rw [t3] at T3
  rw [t4] at T4
  have TL : ∀ U : World, Calls Tryz.prog 13 #[.slice (some ⟨U.heap.size, 0, none⟩) 3 3] (U.alloc (.cells #[.int .i64 kx, .string ⟨X.toArray⟩, .int .i64 ky, .string ⟨Y.toArray⟩, .int .i64 kz, .string ⟨Z.toArray⟩] 29)) fun e w' => e = .returned (.string (((⟨X.toArray⟩ ++ ⟨#[32]⟩) ++ ⟨Y.toArray⟩) ++ ⟨Z.toArray⟩)) ∧ Below (U.alloc (.cells #[.int .i64 kx, .string ⟨X.toArray⟩, .int .i64 ky, .string ⟨Y.toArray⟩, .int .i64 kz, .string ⟨Z.toArray⟩] 29)).heap.size (U.alloc (.cells #[.int .i64 kx, .string ⟨X.toArray⟩, .int .i64 ky, .string ⟨Y.toArray⟩, .int .i64 kz, .string ⟨Z.toArray⟩] 29)) w' := fun U => by
    rw [← hcat]
    refine iline_calls _ [tokOf (kx, X), tokOf (ky, Y), tokOf (kz, Z)] _ ⟨some ⟨U.heap.size, 0, none⟩, 3, rfl, by simp, fun i t ht => ⟨_, _, rfl, ?_⟩⟩ hsum (by intro t ht; simp only [List.mem_cons, List.not_mem_nil, or_false] at ht; rcases ht with rfl | rfl | rfl <;> assumption)
    have hn := World.alloc_heap_new U (.cells #[.int .i64 kx, .string ⟨X.toArray⟩, .int .i64 ky, .string ⟨Y.toArray⟩, .int .i64 kz, .string ⟨Z.toArray⟩] 29)
    match i, ht with
    | 0, ht => simp at ht; subst ht; exact ⟨cell_of_block hn rfl, cell_of_block hn rfl⟩
    | 1, ht => simp at ht; subst ht; exact ⟨cell_of_block hn rfl, cell_of_block hn rfl⟩
    | 2, ht => simp at ht; subst ht; exact ⟨cell_of_block hn rfl, cell_of_block hn rfl⟩
    | i + 3, ht => simp at ht
  have QK := Lib.hid (fun W => known_calls W)
  unfold tokOf at T1 T2 T3 T4
  dsimp only at T1 T2 T3 T4
  clear t1 t2 t3 t4 t5 hcat hsum wx wy wz sx sy sz
  generalize (⟨X.toArray⟩ : ByteArray) = SX at *
  generalize (⟨Y.toArray⟩ : ByteArray) = SY at *
  generalize (⟨Z.toArray⟩ : ByteArray) = SZ at *
  have z0 : (⟨#[32]⟩ : ByteArray).size = 1 := rfl
  have v1 : (9223372036854775807 < SX.size + 1) = False := eq_false (by omega)
  have v2 : (9223372036854775807 < SX.size + 1 + SY.size) = False := eq_false (by omega)
  have v3 : (9223372036854775807 < SX.size + 1 + SY.size + SZ.size) = False := eq_false (by omega)
  have s1 : SX.size + (⟨#[32]⟩ : ByteArray).size ≤ 9223372036854775807 := by omega
  have s2 : (SX ++ ⟨#[32]⟩).size + SY.size ≤ 9223372036854775807 := by rw [ByteArray.size_append]; omega
  have s3 : ((SX ++ ⟨#[32]⟩) ++ SY).size + SZ.size ≤ 9223372036854775807 := by rw [ByteArray.size_append, ByteArray.size_append]; omega
  have u1 : SX.size + 1 ≤ 9223372036854775807 := by omega
  have u2 : SX.size + 1 + SY.size ≤ 9223372036854775807 := by omega
  have u3 : SX.size + 1 + SY.size + SZ.size ≤ 9223372036854775807 := by omega
  clear z0
  have Q1 := Lib.hid T1
  have Q2 := Lib.hid T2
  have Q3 := Lib.hid T3
  have Q4 := Lib.hid T4
  have QL := Lib.hid TL
  clear T1 T2 T3 T4 TL
  simp only [wordC] at hW1
  simp only [markC] at hW2
  have HB12 := Lib.hid hB12
  clear ex ey ez x0 x1 y0 y1 z0 z1 mx my mz hb1 hb1' hb2 hB1 hB2 hB12
  go_enter Tryz.func4, Tryz.ntmps4
  go_upto_region 6 with (fail)
  clear hW1 hW2 cx0 cx1 cy0 cy1 cz0 cz1
  obtain ⟨W5, hW5⟩ : ∃ W5, ((W2.alloc (.cells #[.int .i64 kx, .string SX] 29)).alloc (.cells #[.int .i64 ky, .string SY] 29)).alloc (.cells #[.int .i64 kz, .string SZ] 29) = W5 := ⟨_, rfl⟩
  have h5 : Below W2.heap.size W2 W5 := by rw [← hW5]; exact (((Below.refl _ W2).alloc (Nat.le_refl _) _).alloc (by simp) _).alloc (by simp; omega) _
  have n7 : W5.heap[w.heap.size + 1 + 1]? = some (.cells #[.int .i64 kx, .string SX] 29 (0, 0)) := by rw [← hW5, ← hz]; exact ((Below.heap_alloc _ _ _ (by simp; omega)).trans (Below.heap_alloc _ _ _ (by simp))).trans (World.alloc_heap_new W2 _)
  have n8 : W5.heap[w.heap.size + 1 + 1 + 1]? = some (.cells #[.int .i64 ky, .string SY] 29 (0, 0)) := by
    have := World.alloc_heap_new (W2.alloc (.cells #[.int .i64 kx, .string SX] 29)) (.cells #[.int .i64 ky, .string SY] 29)
    rw [World.size_alloc, hz] at this
    rw [← hW5]
    exact (Below.heap_alloc _ _ _ (by simp; omega)).trans this
  have n9 : W5.heap[w.heap.size + 1 + 1 + 1 + 1]? = some (.cells #[.int .i64 kz, .string SZ] 29 (0, 0)) := by
    have := World.alloc_heap_new ((W2.alloc (.cells #[.int .i64 kx, .string SX] 29)).alloc (.cells #[.int .i64 ky, .string SY] 29)) (.cells #[.int .i64 kz, .string SZ] 29)
    rw [World.size_alloc, World.size_alloc, hz] at this
    rw [← hW5]
    exact this
  have show1 : ∀ U, Below W5.heap.size W5 U → (U.cell? ⟨w.heap.size + 1 + 1, 0, none⟩ = some (.int .i64 kx) ∧ U.cell? ⟨w.heap.size + 1 + 1, 1, none⟩ = some (.string SX)) ∧ (U.cell? ⟨w.heap.size + 1 + 1 + 1, 0, none⟩ = some (.int .i64 ky) ∧ U.cell? ⟨w.heap.size + 1 + 1 + 1, 1, none⟩ = some (.string SY)) ∧ (U.cell? ⟨w.heap.size + 1 + 1 + 1 + 1, 0, none⟩ = some (.int .i64 kz) ∧ U.cell? ⟨w.heap.size + 1 + 1 + 1 + 1, 1, none⟩ = some (.string SZ)) ∧ Below W5.heap.size W5 U := fun U h => by
    have k : ∀ {b : Nat} {o : Obj}, W5.heap[b]? = some o → U.heap[b]? = some o := fun hb => (h.block _ (Array.getElem?_eq_some_iff.1 hb).1).trans hb
    exact ⟨⟨cell_of_block (k n7) rfl, cell_of_block (k n7) rfl⟩, ⟨cell_of_block (k n8) rfl, cell_of_block (k n8) rfl⟩, ⟨cell_of_block (k n9) rfl, cell_of_block (k n9) rfl⟩, h⟩
  have HB5 := Lib.hid (HB12.out.trans (h5.mono HB12.out.size))
  have SHOW := Lib.hid show1
  have HBel := Lib.hid (Below.refl W5.heap.size W5)
  clear show1 n7 n8 n9 h5
  rw [hW5]
  go_region_held3 (fun w' => (w'.cell? ⟨w.heap.size + 1 + 1, 0, none⟩ = some (.int .i64 kx) ∧ w'.cell? ⟨w.heap.size + 1 + 1, 1, none⟩ = some (.string SX)) ∧ (w'.cell? ⟨w.heap.size + 1 + 1 + 1, 0, none⟩ = some (.int .i64 ky) ∧ w'.cell? ⟨w.heap.size + 1 + 1 + 1, 1, none⟩ = some (.string SY)) ∧ (w'.cell? ⟨w.heap.size + 1 + 1 + 1 + 1, 0, none⟩ = some (.int .i64 kz) ∧ w'.cell? ⟨w.heap.size + 1 + 1 + 1 + 1, 1, none⟩ = some (.string SZ)) ∧ Below W5.heap.size W5 w')
    (first | exact SHOW.out _ HBel.out.drew | assumption | (refine SHOW.out _ ?_; assumption) | (refine SHOW.out _ (Below.alloc (And.right (And.right (And.right (by assumption)))) (Below.size (And.right (And.right (And.right (by assumption))))) _)))
    (first
      | (go_at_call 12; with_reducible refine (Q1.out _).mono ?_; rintro _ U ⟨rfl, bu⟩; have bb := Below.trans (And.right (And.right (And.right (by assumption)))) (bu.mono (Below.size (And.right (And.right (And.right (by assumption)))))); clear bu)
      | (go_at_call 12; with_reducible refine (Q2.out _).mono ?_; rintro _ U ⟨rfl, bu⟩; have bb := Below.trans (And.right (And.right (And.right (by assumption)))) (bu.mono (Below.size (And.right (And.right (And.right (by assumption)))))); clear bu)
      | (go_at_call 12; with_reducible refine (Q3.out _).mono ?_; rintro _ U ⟨rfl, bu⟩; have bb := Below.trans (And.right (And.right (And.right (by assumption)))) (bu.mono (Below.size (And.right (And.right (And.right (by assumption)))))); clear bu)
      | (go_at_call 12; with_reducible refine (Q4.out _).mono ?_; rintro _ U ⟨rfl, bu⟩; have bb := Below.trans (And.right (And.right (And.right (by assumption)))) (bu.mono (Below.size (And.right (And.right (And.right (by assumption)))))); clear bu)
      | (go_at_call 13; with_reducible refine (QL.out _).mono ?_; rintro _ U ⟨rfl, bu⟩; have bb := Below.trans (And.right (And.right (And.right (by assumption)))) (bu.mono (Below.size (And.right (And.right (And.right (by assumption)))))); clear bu)
      | (go_at_call 11; with_reducible refine (QK.out _).mono ?_; rintro _ U ⟨rfl, bu⟩; have bb := Below.trans (And.right (And.right (And.right (by assumption)))) (bu.mono (Below.size (And.right (And.right (And.right (by assumption)))))); clear bu))
  all_goals
    have hbx : Below W5.heap.size W5 _ := And.right (And.right (And.right (by assumption)))
    have HX := Lib.hid (HB5.out.trans (hbx.mono HB5.out.size))
    go_wp2
    go_ret
    exact ⟨rfl, HX.out⟩
theorem pairs_u8 (a b : Int) (ha0 : 0 ≤ a) (ha1 : a ≤ 255) (hb0 : 0 ≤ b) (hb1 : b ≤ 255) (w : World) : Calls Tryz.prog 4 #[.int .u8 a, .int .u8 b] w fun e w' => e = .returned (.bool true) ∧ Below w.heap.size w w' := by
  obtain ⟨n, rfl⟩ := Int.eq_ofNat_of_zero_le ha0
  obtain ⟨m, rfl⟩ := Int.eq_ofNat_of_zero_le hb0
  exact pairs_core n m (by omega) (by omega) w
end Go.Proofs.YtiinhkfbgecbjaaGreatDoor
