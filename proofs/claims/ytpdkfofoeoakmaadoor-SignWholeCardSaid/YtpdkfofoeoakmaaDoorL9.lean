/- The law SignWhole, walked. The table of blanks being laid, and the choices' cells holding bytes. -/
import Derived.Test.YtpdkfofoeoakmaaDoorL8
import Derived.Test.YtpdkfofoeoakmaaDoorSg11
namespace Go.Proofs.YtpdkfofoeoakmaaDoor
open Go.RowKit Go.Sub

theorem cut_data (R : ByteArray) (n : Nat) : (R.extract 0 n).data.toList = R.data.toList.take n := by
  rw [Lib.extract_data]; simp
theorem cut_blank (R : ByteArray) (n : Nat) : (R.extract 0 n ++ ⟨#[32]⟩ ++ R).data.toList = R.data.toList.take n ++ (32 :: R.data.toList) := by
  have := cut_data R n
  simp only [ByteArray.data_append, Array.toList_append, this]
  simp
theorem cut_small (R : ByteArray) (hR : R.size ≤ 36) (n : Nat) : (R.extract 0 n).size < 4611686018427387904 := ext_lt _ _ _ (by omega)
theorem blank_small (R : ByteArray) (hR : R.size ≤ 36) (n : Nat) : (R.extract 0 n ++ ⟨#[32]⟩ ++ R).size < 4611686018427387904 := by
  have h1 := ext_lt R 0 n (n := 37) (by omega)
  rw [ByteArray.size_append, ByteArray.size_append]
  show _ + 1 + _ < _
  omega
theorem num_at (S : ByteArray) (n : Nat) (h : numberN S.data.toList = n) (hs : S.size < 4611686018427387904) (w : World) : Calls Tryd.prog 18 #[.string S] w fun e w' => e = .returned (.int .i64 n) ∧ w' = w := h ▸ number_calls S w hs
theorem word_at (S : ByteArray) (n : Nat) (h : wordN S.data.toList = n) (hs : S.size < 4611686018427387904) (w : World) : Calls Tryd.prog 19 #[.string S] w fun e w' => e = .returned (.int .i64 n) ∧ w' = w := h ▸ word_calls S w hs
theorem esc_at (S : ByteArray) (n : Nat) (h : escN S.data.toList = n) (hs : S.size < 4611686018427387904) (w : World) : Calls Tryd.prog 20 #[.string S] w fun e w' => e = .returned (.int .i64 n) ∧ w' = w := h ▸ escape_calls S w hs
theorem oper_at (S : ByteArray) (n : Nat) (h : operN S.data.toList = n) (w : World) : Calls Tryd.prog 21 #[.string S] w fun e w' => e = .returned (.int .i64 n) ∧ Below w.heap.size w w' := h ▸ oper_calls S w
theorem whole_facts (R : ByteArray) (hR : R.size ≤ 36) : ∃ n m x o : Nat, n ≤ R.size ∧ m ≤ R.size ∧ x ≤ R.size ∧ o ≤ R.size ∧
    (∀ w, Calls Tryd.prog 18 #[.string R] w fun e w' => e = .returned (.int .i64 n) ∧ w' = w) ∧
    (∀ w, Calls Tryd.prog 18 #[.string (R.extract 0 n)] w fun e w' => e = .returned (.int .i64 n) ∧ w' = w) ∧
    (∀ w, Calls Tryd.prog 18 #[.string (R.extract 0 n ++ ⟨#[32]⟩ ++ R)] w fun e w' => e = .returned (.int .i64 n) ∧ w' = w) ∧
    (∀ w, Calls Tryd.prog 19 #[.string R] w fun e w' => e = .returned (.int .i64 m) ∧ w' = w) ∧
    (∀ w, Calls Tryd.prog 19 #[.string (R.extract 0 m)] w fun e w' => e = .returned (.int .i64 m) ∧ w' = w) ∧
    (∀ w, Calls Tryd.prog 19 #[.string (R.extract 0 m ++ ⟨#[32]⟩ ++ R)] w fun e w' => e = .returned (.int .i64 m) ∧ w' = w) ∧
    (∀ w, Calls Tryd.prog 20 #[.string R] w fun e w' => e = .returned (.int .i64 x) ∧ w' = w) ∧
    (∀ w, Calls Tryd.prog 20 #[.string (R.extract 0 x)] w fun e w' => e = .returned (.int .i64 x) ∧ w' = w) ∧
    (∀ w, Calls Tryd.prog 21 #[.string R] w fun e w' => e = .returned (.int .i64 o) ∧ Below w.heap.size w w') ∧
    (∀ w, Calls Tryd.prog 21 #[.string (R.extract 0 o)] w fun e w' => e = .returned (.int .i64 o) ∧ Below w.heap.size w w') := by
  have hs := Lib.size_eq R
  have l1 := numberN_le R.data.toList
  have l2 := wordN_le R.data.toList
  have l3 := escN_le R.data.toList
  have l4 := oper_le R.data.toList
  have k1 : R.size < 4611686018427387904 := by omega
  refine ⟨numberN R.data.toList, wordN R.data.toList, escN R.data.toList, operN R.data.toList, by omega, by omega, by omega, by omega, num_at R _ rfl k1, num_at _ _ ?_ (cut_small R hR _), num_at _ _ ?_ (blank_small R hR _), word_at R _ rfl k1, word_at _ _ ?_ (cut_small R hR _), word_at _ _ ?_ (blank_small R hR _), esc_at R _ rfl k1, esc_at _ _ ?_ (cut_small R hR _), oper_at R _ rfl, oper_at _ _ ?_⟩
  · have := num_cut R.data.toList [] behind_nil
    rw [cut_data]; rwa [List.append_nil] at this
  · rw [cut_blank]; exact num_cut _ _ (behind_blank _)
  · have := word_cut R.data.toList [] behind_nil
    rw [cut_data]; rwa [List.append_nil] at this
  · rw [cut_blank]; exact word_cut _ _ (behind_blank _)
  · rw [cut_data]; exact esc_cut _
  · rw [cut_data]; exact oper_cut _

set_option maxRecDepth 100000 in
set_option maxHeartbeats 4000000 in
theorem whole_core (v : Value) (w : World) (hv : BytesV w v) (hT : TabX w) :
    Calls Tryd.prog 3 #[v] w fun e w' => e = .returned (.bool true) ∧ Below w.heap.size w w' := by
  have HF := Lib.hid (front_any v w hv)
  clear hv
  go_enter Tryd.func3, Tryd.ntmps3
  go_wp2_with (first
    | (go_at_call 17; refine (HF.out).mono ?_; rintro e w' ⟨R, rfl, hR, hB⟩; replace hT := hT.below hB; clear HF; obtain ⟨n, m, x, o, ln, lm, lx, lo, c1, c2, c3, c4, c5, c6, c7, c8, c9, c10⟩ := whole_facts R hR; have C1 := Lib.hid c1; have C2 := Lib.hid c2; have C3 := Lib.hid c3; have C4 := Lib.hid c4; have C5 := Lib.hid c5; have C6 := Lib.hid c6; have C7 := Lib.hid c7; have C8 := Lib.hid c8; have C9 := Lib.hid c9; have C10 := Lib.hid c10; clear c1 c2 c3 c4 c5 c6 c7 c8 c9 c10)
    | (go_at_call 22; refine (known_calls _ hT).mono ?_; rintro e w' ⟨rfl, hb⟩; replace hT := hT.below hb; replace hB := hB.trans (hb.mono hB.size); clear hb)
    | (go_at_call 18; with_reducible refine (C1.out _).mono ?_; rintro e w' ⟨rfl, rfl⟩)
    | (go_at_call 18; with_reducible refine (C2.out _).mono ?_; rintro e w' ⟨rfl, rfl⟩)
    | (go_at_call 18; with_reducible refine (C3.out _).mono ?_; rintro e w' ⟨rfl, rfl⟩)
    | (go_at_call 19; with_reducible refine (C4.out _).mono ?_; rintro e w' ⟨rfl, rfl⟩)
    | (go_at_call 19; with_reducible refine (C5.out _).mono ?_; rintro e w' ⟨rfl, rfl⟩)
    | (go_at_call 19; with_reducible refine (C6.out _).mono ?_; rintro e w' ⟨rfl, rfl⟩)
    | (go_at_call 20; with_reducible refine (C7.out _).mono ?_; rintro e w' ⟨rfl, rfl⟩)
    | (go_at_call 20; with_reducible refine (C8.out _).mono ?_; rintro e w' ⟨rfl, rfl⟩)
    | (go_at_call 21; (first | with_reducible refine (C9.out _).mono ?_ | with_reducible refine (C10.out _).mono ?_); rintro e w' ⟨rfl, hb⟩; replace hT := hT.below hb; replace hB := hB.trans (hb.mono hB.size); clear hb))
  go_ret
  exact ⟨rfl, hB⟩
end Go.Proofs.YtpdkfofoeoakmaaDoor
