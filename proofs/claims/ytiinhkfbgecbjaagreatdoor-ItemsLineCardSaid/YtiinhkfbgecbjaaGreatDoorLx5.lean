/- A string's piece, as the lexer reads it; and the kinds of tokens outside of strings. Its condition: a text of at most 65536 bytes. -/
import Derived.Test.YtiinhkfbgecbjaaGreatDoorLx4
import Derived.Deep.WholeRow
namespace Go.Proofs.YtiinhkfbgecbjaaGreatDoor
set_option linter.unusedSimpArgs false
set_option linter.unusedVariables false
open Go.RowKit Go.Sub

theorem set_info : (Tryz.prog.info? 121).map (fun i => (i.zero, i.size)) = some (some (.agg (Array.replicate 256 (.bool false))), 256) := by kernel_rfl
theorem qs_ascii : ∀ (j : Nat) b, (⟨#[34, 92]⟩ : ByteArray).data.toList[j]? = some b → b.toNat < 128 := by
  have key : ∀ b ∈ ([34, 92] : List UInt8), b.toNat < 128 := by decide
  exact fun j b hb => key b (List.mem_of_getElem? hb)
theorem iany_calls (s : ByteArray) (hs : s.size < 4294967281) (w : World) :
    Calls Tryz.prog 104 #[.string s, .string ⟨#[34, 92]⟩] w fun e w' => e = .returned (.int .i64 (Lib.indexAny s.data.toList qsChars)) ∧ Below w.heap.size w w' := by
  by_cases h8 : s.size ≤ 8
  · exact iany_short s h8 w
  · refine (Tryz.strings_IndexAny_long (Go.zero_of_info set_info).1 s ⟨#[34, 92]⟩ w (by decide) (by omega) hs (by decide) qs_ascii).mono ?_
    rintro e w' ⟨rfl, rfl⟩
    exact ⟨rfl, ((Below.refl _ _).alloc (Nat.le_refl _) _).alloc (by simp) _⟩
theorem iany_ext (s : ByteArray) (n : Nat) (hs : s.size ≤ 65536) (w : World) :
    Calls Tryz.prog 104 #[.string (s.extract n s.size), .string ⟨#[34, 92]⟩] w fun e w' => e = .returned (.int .i64 (Lib.indexAny (s.data.toList.drop n) qsChars)) ∧ Below w.heap.size w w' := by
  have := iany_calls (s.extract n s.size) (ext_lt _ _ _ (by omega)) w
  rwa [ext_data] at this
theorem esc_ext (s : ByteArray) (n : Nat) (hs : s.size ≤ 65536) (w : World) :
    Calls Tryz.prog 105 #[.string (s.extract n s.size)] w fun e w' => e = .returned (.int .i64 (escN (s.data.toList.drop n) : Nat)) ∧ w' = w := by
  have := escape_calls (s.extract n s.size) w (ext_lt _ _ _ (by omega))
  rwa [ext_data] at this

set_option maxRecDepth 100000 in
set_option maxHeartbeats 2000000 in
theorem piece_calls (s : ByteArray) (hs : s.size ≤ 65536) (w : World) :
    Calls Tryz.prog 89 #[.string s] w fun e w' => e = .returned (.int .i64 (pieceN s.data.toList : Nat)) ∧ Below w.heap.size w w' := by
  have Hsz := Lib.hid (Lib.size_eq s)
  go_enter Tryz.func89, Tryz.ntmps89
  go_wp2
  go_loopw [3] (fun i wr => ∃ n : Nat, n ≤ s.size ∧ i = .int .i64 n ∧ Hid (n + pieceN (s.data.toList.drop n) = pieceN s.data.toList) ∧ Below w.heap.size w wr) (fun i _ => s.size - (intOf i).toNat)
  case atStart => exact ⟨0, by omega, rfl, Lib.hid (by simp), Below.refl _ _⟩
  case round =>
    obtain ⟨n, hn, rfl, Hrun, hB⟩ := hrel
    by_cases hlt : n < s.size
    · have hi := iany_ext s n hs
      obtain ⟨p1, p2⟩ := piece_to (s.data.toList.drop n)
      have hge := Lib.indexAny_ge qsChars (s.data.toList.drop n)
      generalize Lib.indexAny (s.data.toList.drop n) qsChars = z at *
      by_cases hz : z = -1
      · subst hz
        have hp := p1 rfl
        rw [List.length_drop, ← Hsz.out] at hp
        have Hp := Lib.hid hp
        have Hi := Lib.hid hi
        clear hi p1 p2 hp
        go_wp2_with (go_at_call 104; refine (Hi.out _).mono ?_; rintro e w' ⟨rfl, hb⟩; replace hB := hB.trans (hb.mono hB.size); clear hb)
        go_ret
        refine ⟨ret_n ?_, hB⟩
        rw [← Hrun.out, Hp.out]; omega
      · obtain ⟨k, rfl⟩ : ∃ k : Nat, z = (k : Int) := ⟨z.toNat, by omega⟩
        obtain ⟨q1, q2, b, r, q3, q4⟩ := p2 k rfl
        rw [List.length_drop, ← Hsz.out] at q1
        rw [List.drop_drop] at q2 q3
        have he := esc_ext s (n + k) hs
        have hle := escN_le (s.data.toList.drop (n + k))
        rw [List.length_drop, ← Hsz.out] at hle
        have hmore := piece_esc (s.data.toList.drop (n + k))
        rw [List.drop_drop] at hmore
        have hstop : escN (s.data.toList.drop (n + k)) = 0 → pieceN (s.data.toList.drop (n + k)) = 0 := fun h => by
          rw [q3] at h ⊢
          exact piece_stop b r q4 h
        generalize escN (s.data.toList.drop (n + k)) = x at *
        have Hi := Lib.hid hi
        have He := Lib.hid he
        have Q2 := Lib.hid q2
        have Hmore := Lib.hid hmore
        have Hstop := Lib.hid hstop
        clear hi he q2 q3 q4 p1 p2 hmore hstop hz
        have hnk : n + k < s.size := by omega
        by_cases hx : x = 0
        · subst hx
          go_wp2_with (first | (go_at_call 104; refine (Hi.out _).mono ?_; rintro e w' ⟨rfl, hb⟩; replace hB := hB.trans (hb.mono hB.size); clear hb) | (go_at_call 105; refine (He.out _).mono ?_; rintro e w' ⟨rfl, rfl⟩))
          go_ret
          refine ⟨?_, hB⟩
          have e : pieceN s.data.toList = n + k := by rw [← Hrun.out, Q2.out, Hstop.out trivial]; omega
          rw [e]; rfl
        · have hxp : 0 < x := by omega
          go_wp2_with (first | (go_at_call 104; refine (Hi.out _).mono ?_; rintro e w' ⟨rfl, hb⟩; replace hB := hB.trans (hb.mono hB.size); clear hb) | (go_at_call 105; refine (He.out _).mono ?_; rintro e w' ⟨rfl, rfl⟩))
          go_roundw
          case rel => exact ⟨n + k + x, by omega, by go_num, Lib.hid (by rw [← Hrun.out, Q2.out, Hmore.out hx]; omega), hB⟩
          case measure => simp [intOf]; omega
    · obtain rfl : n = s.size := by omega
      go_wp2
      go_ret
      refine ⟨ret_n ?_, hB⟩
      have := Hrun.out
      rw [List.drop_eq_nil_of_le (by rw [← Hsz.out]; exact Nat.le_refl _), piece_nil] at this
      exact this
end Go.Proofs.YtiinhkfbgecbjaaGreatDoor
