/- The law LexText, walked. Its condition: the choices' cells hold bytes. -/
import Derived.Test.YtfaocpcbejgfjaaDoorD1
import Derived.Test.YtfaocpcbejgfjaaDoorLl2
namespace Go.Proofs.YtfaocpcbejgfjaaDoor
open Go.RowKit Go.Sub

def BytesW (w : World) (v : Value) : Prop := ∃ p len cap, v = .slice p len cap ∧ len ≤ 9223372036854775807 ∧ ∀ j, j < len → ∃ a, ∃ x : UInt8, p = some a ∧ w.cell? (a.add j) = some (.int .u8 (x.toNat : Int))
theorem bytesW_of {w : World} {v : Value} (h : BytesV w v) : BytesW w v := by
  rcases h with rfl | ⟨a, len, cap, rfl, hc, hl⟩
  · exact ⟨none, 0, 0, rfl, by omega, fun j h => by omega⟩
  · exact ⟨some a, len, cap, rfl, hl, fun j hj => by obtain ⟨x, hx⟩ := hc j hj; exact ⟨a, x, rfl, hx⟩⟩
def textI : List (List UInt8) := [[97], [32], [35], [40], [41], [124], [92, 110], [92, 117, 48, 48, 101, 57], [46], [36, 120], [195, 169], [10]]
def textC : List Value := textI.map fun x => Value.string ⟨x.toArray⟩
theorem textI_len : ∀ x ∈ textI, x.length ≤ 6 := by decide +kernel
theorem piece_item : ∀ x ∈ textI, ∀ r, pieceN (x ++ r) = x.length + pieceN r := by
  intro x hx r
  simp only [textI, List.mem_cons, List.not_mem_nil, or_false] at hx
  rcases hx with rfl | rfl | rfl | rfl | rfl | rfl | rfl | rfl | rfl | rfl | rfl | rfl
  · exact piece_plain _ _ rfl
  · exact piece_plain _ _ rfl
  · exact piece_plain _ _ rfl
  · exact piece_plain _ _ rfl
  · exact piece_plain _ _ rfl
  · exact piece_plain _ _ rfl
  · exact piece_esc (92 :: 110 :: r) (by show (2 : Nat) ≠ 0; omega)
  · exact piece_esc (92 :: 117 :: 48 :: 48 :: 101 :: 57 :: r) (by show (6 : Nat) ≠ 0; omega)
  · exact piece_plain _ _ rfl
  · show pieceN (36 :: 120 :: r) = _
    rw [piece_plain _ _ rfl, piece_plain _ _ rfl]
    simp only [List.length_cons, List.length_nil]; omega
  · show pieceN (195 :: 169 :: r) = _
    rw [piece_plain _ _ rfl, piece_plain _ _ rfl]
    simp only [List.length_cons, List.length_nil]; omega
  · exact piece_plain _ _ rfl
theorem piece_text : ∀ xs : List (List UInt8), (∀ x ∈ xs, x ∈ textI) → ∀ r, pieceN (xs.flatten ++ r) = xs.flatten.length + pieceN r
  | [], _, r => by simp
  | x :: xs, h, r => by
    rw [List.flatten_cons, List.append_assoc, piece_item x (h x (by simp)), piece_text xs (fun y hy => h y (List.mem_cons_of_mem _ hy)), List.length_append]; omega
theorem utf_item : ∀ x ∈ textI, Utf x := by
  intro x hx
  simp only [textI, List.mem_cons, List.not_mem_nil, or_false] at hx
  rcases hx with rfl | rfl | rfl | rfl | rfl | rfl | rfl | rfl | rfl | rfl | rfl | rfl
  all_goals first | exact utf_e | exact utf_ascii (by decide)
theorem utf_flat {I : List (List UInt8)} (hI : ∀ x ∈ I, Utf x) : ∀ xs : List (List UInt8), (∀ x ∈ xs, x ∈ I) → Utf xs.flatten
  | [], _ => .nil
  | x :: xs, h => by
    rw [List.flatten_cons]
    exact utf_append (hI x (h x (by simp))) (utf_flat hI xs fun y hy => h y (List.mem_cons_of_mem _ hy))
theorem piece_end : pieceN [34] = 0 := piece_stop _ _ rfl rfl
theorem text_told (xs : List (List UInt8)) (hx : ∀ x ∈ xs, x ∈ textI) (R S : ByteArray) (hR : R.data.toList = xs.flatten) (hs : R.size ≤ 240) (hS : S.data.toList = 34 :: (R.data.toList ++ [34])) :
    (R.size = 0 → tokensN S = ([(7, 0, 1), (11, 1, 1)], 0, 0)) ∧ (0 < R.size → tokensN S = ([(7, 0, 1), (8, 1, R.size), (11, 1 + R.size, 1)], 0, 0)) := by
  have hu : Utf S.data.toList := by
    rw [hS, hR]
    exact utf_append (a := [34]) (utf_ascii (by decide)) (utf_append (utf_flat utf_item xs hx) (utf_ascii (by decide)))
  have hsz := Lib.size_eq R
  have hSs : S.size = R.size + 2 := by rw [Lib.size_eq, hS, List.length_cons, List.length_append, ← hsz]; rfl
  have hlen : S.data.toList.length = R.size + 2 := by rw [← Lib.size_eq, hSs]
  have hp : pieceN (R.data.toList ++ [34]) = R.size := by rw [hR, piece_text xs hx, piece_end, ← hR, ← hsz]; omega
  have d0 : S.data.toList.drop 0 = 34 :: (R.data.toList ++ [34]) := hS
  have d1 : S.data.toList.drop (0 + 1) = R.data.toList ++ [34] := drop_next (x := [34]) d0 rfl
  constructor
  · intro h0
    have hn : R.data.toList = [] := List.length_eq_zero_iff.1 (by omega)
    rw [hn] at d1
    have h : Runs S.data.toList 0 [] false [(7, 0, 1), (11, 0 + 1, 1)] (0 + 1 + 1) [] false := .at d0 (step_quote _ _) (.at d1 (step_end _ _) .refl)
    have := runs_end h (by omega) (by simp [hlen])
    rw [hlen, ← hSs] at this
    rw [tokens_at (by omega) hu this]; rfl
  · intro h0
    have hst : stepN (R.data.toList ++ [34]) [] true = (8, R.size, [], true, 0) := by
      show insN _ _ = _
      unfold insN
      rw [hp, if_pos h0]
    have d2 : S.data.toList.drop (0 + 1 + R.size) = [34] := drop_next d1 hsz.symm
    have hlt : 0 + 1 < S.data.toList.length := by omega
    have h : Runs S.data.toList 0 [] false [(7, 0, 1), (8, 0 + 1, R.size), (11, 0 + 1 + R.size, 1)] (0 + 1 + R.size + 1) [] false := .at d0 (step_quote _ _) (.step hlt (by rw [d1]; exact hst) (.at d2 (step_end _ _) .refl))
    have := runs_end h (by omega) (by rw [hlen]; simp only [List.length_cons, List.length_nil]; omega)
    rw [hlen, ← hSs] at this
    rw [tokens_at (by omega) hu this]
    simp
theorem back_str {R : ByteArray} {l : List UInt8} (h : l = R.data.toList) : (⟨l.toArray⟩ : ByteArray) = R := by
  subst h
  cases R; rfl

set_option maxRecDepth 100000 in
set_option maxHeartbeats 4000000 in
theorem text_core (v : Value) (w : World) (hv : BytesV w v) :
    Calls Tryd.prog 7 #[v] w fun e w' => e = .returned (.bool true) ∧ Below w.heap.size w w' := by
  obtain ⟨p, len, cap, rfl, hl, hc⟩ := bytesW_of hv
  clear hv
  go_enter Tryd.func7, Tryd.ntmps7
  go_wp2
  go_loopw [3, 4] (fun v i wr => ∃ (k : Nat) (R : ByteArray) (xs : List (List UInt8)), v = .string R ∧ i = .int .i64 k ∧ k ≤ 40 ∧ R.size ≤ 6 * k ∧ Hid (R.data.toList = xs.flatten ∧ ∀ x ∈ xs, x ∈ textI) ∧ Below w.heap.size w wr) (fun _ i _ => 40 - (intOf i).toNat)
  case atStart => exact ⟨0, _, [], rfl, rfl, by omega, by decide, Lib.hid ⟨rfl, fun x h => by simp at h⟩, Below.refl _ _⟩
  case round =>
    obtain ⟨k, R, xs, rfl, rfl, hk, hR, HR, hB⟩ := hrel
    by_cases hlt : k < len ∧ k < 40
    · obtain ⟨hl1, hl2⟩ := hlt
      obtain ⟨a, x, rfl, hx⟩ := hc k hl1
      have hx' : wr.cell? (a.add k) = some (.int .u8 (x.toNat : Int)) := (hB.cell (World.block_lt_of_cell? _ _ hx)).trans hx
      have hA : Below wr.heap.size wr (wr.alloc (.cells textC.toArray 9)) := (Below.refl _ _).alloc (Nat.le_refl _) _
      have hx2 : (wr.alloc (.cells textC.toArray 9)).cell? (a.add k) = some (.int .u8 (x.toNat : Int)) := (hA.cell (World.block_lt_of_cell? _ _ hx')).trans hx'
      have hxl := x.toNat_lt
      obtain ⟨y, hy⟩ : ∃ y, textI[x.toNat % 12]? = some y := ⟨_, List.getElem?_eq_getElem (show _ < 12 by omega)⟩
      have hym := List.mem_of_getElem? hy
      have hy3 := textI_len y hym
      have hcl : (wr.alloc (.cells textC.toArray 9)).cell? ⟨wr.heap.size, x.toNat % 12, none⟩ = some (.string ⟨y.toArray⟩) := cell_of_block (World.alloc_heap_new _ _) (by simp [textC, hy])
      obtain ⟨Y, hY⟩ : ∃ Y : ByteArray, (⟨y.toArray⟩ : ByteArray) = Y := ⟨_, rfl⟩
      have hYs : Y.size ≤ 6 := by rw [← hY]; exact hy3
      have HY := Lib.hid (show Y.data.toList = y by rw [← hY])
      have Hym := Lib.hid hym
      rw [hY] at hcl
      have HA := Lib.hid (hB.trans (hA.mono hB.size))
      simp only [textC, textI, List.map_cons, List.map_nil] at hcl hx2 HA
      clear hY hy hy3 hx hc hA hB hym
      go_wp2
      go_roundw
      case rel => exact ⟨k + 1, _, xs ++ [y], rfl, by go_num, by omega, by rw [ByteArray.size_append]; omega, Lib.hid ⟨by rw [ByteArray.data_append, Array.toList_append, HR.out.1, HY.out]; simp, fun z hz => by rcases List.mem_append.1 hz with h | h; exact HR.out.2 z h; rw [List.mem_singleton.1 h]; exact Hym.out⟩, by first | exact HA.out | exact below_drew HA.out | exact below_drewN HA.out _⟩
      case measure => simp only [intOf]; omega
    · clear hc
      obtain ⟨S, hS⟩ : ∃ S : ByteArray, (⟨#[34]⟩ : ByteArray) ++ R ++ ⟨#[34]⟩ = S := ⟨_, rfl⟩
      have hSd : S.data.toList = 34 :: (R.data.toList ++ [34]) := by rw [← hS]; simp
      obtain ⟨t1, t2⟩ := text_told xs HR.out.2 R S HR.out.1 (by omega) hSd
      have hSs : S.size = R.size + 2 := by rw [← hS, ByteArray.size_append, ByteArray.size_append]; show 1 + R.size + 1 = _; omega
      have hSb : S.size < 4611686018427387904 := by omega
      have Hsd := Lib.hid hSd
      by_cases h0 : R.size = 0
      · have hem : R.toList.isEmpty = true ∧ ((R.toList = []) = True) := by
          have : R.toList = [] := by rw [Lib.toList_data]; exact List.length_eq_zero_iff.1 (by rw [← Lib.size_eq]; exact h0)
          rw [this]; exact ⟨rfl, eq_true rfl⟩
        obtain ⟨hem1, hem2⟩ := hem
        have Ht := Lib.hid (tokens_some (n := 1) (t1 h0) rfl hSb)
        clear t1 t2 hSd
        go_wp2_with (first
          | (go_at_call 11; refine (Ht.out _).mono ?_; rintro e w2 ⟨g2, cap2, rfl, _, _, hb⟩; replace hB := hB.trans (hb.mono hB.size); clear hb)
          | (go_at_call 12; refine (known_calls _).mono ?_; rintro e w3 ⟨rfl, hb⟩; replace hB := hB.trans (hb.mono hB.size); clear hb))
        all_goals
          go_ret
          exact ⟨rfl, hB⟩
      · obtain ⟨hem1, hem2⟩ := not_empty R (by omega)
        have hcell : tokC S.data.toList [(7, 0, 1), (8, 1, R.size), (11, 1 + R.size, 1)] = [.int .i64 7, .string ⟨#[34]⟩, .int .i64 8, .string R, .int .i64 11, .string ⟨#[34]⟩] := by
          have e1 : ((S.data.toList.drop 1).take R.size) = R.data.toList := by rw [hSd, List.drop_one, List.tail_cons, List.take_left' (Lib.size_eq R).symm]
          have e2 : ((S.data.toList.drop (1 + R.size)).take 1) = [34] := by rw [hSd, Nat.add_comm, List.drop_succ_cons, List.drop_left' (Lib.size_eq R).symm]; rfl
          have e0 : ((S.data.toList.drop 0).take 1) = [34] := by rw [hSd]; rfl
          simp only [tokC, List.flatMap_cons, List.flatMap_nil, e0, e1, e2, back_str (R := R) rfl]
          rfl
        have ht2 : ∀ w, Calls Tryd.prog 11 #[.string S] w fun e w' => ∃ g cap, e = .returned (.tuple #[.slice (some ⟨g, 0, none⟩) 3 cap, .int .u16 0, .int .i64 0]) ∧ w'.cell? ⟨g, 2, none⟩ = some (.int .i64 8) ∧ w'.cell? ⟨g, 3, none⟩ = some (.string R) ∧ Below w.heap.size w w' :=
          fun w => (tokens_some (n := 2) (t2 (by omega)) rfl hSb w).mono fun e w' ⟨g, cap, he, hc, _, hb⟩ => ⟨g, cap, he, hc 2 _ (by rw [hcell]; rfl), hc 3 _ (by rw [hcell]; rfl), hb⟩
        have Ht := Lib.hid ht2
        clear t1 t2 hSd hcell ht2
        go_wp2_with (first
          | (go_at_call 11; refine (Ht.out _).mono ?_; rintro e w2 ⟨g2, cap2, rfl, k2, k3, hb⟩; replace hB := hB.trans (hb.mono hB.size); clear hb)
          | (go_at_call 12; refine (known_calls _).mono ?_; rintro e w3 ⟨rfl, hb⟩; replace hB := hB.trans (hb.mono hB.size); replace k2 := below_cell hb k2; replace k3 := below_cell hb k3; clear hb))
        all_goals
          go_ret
          exact ⟨rfl, hB⟩
end Go.Proofs.YtfaocpcbejgfjaaDoor
