/- The law LexNotes, walked. Its condition: the choices' cells hold bytes. -/
import Derived.Test.YtfaocpcbejgfjaaDoorLe3
namespace Go.Proofs.YtfaocpcbejgfjaaDoor
open Go.RowKit Go.Sub

def noteT (i : Nat) (cr : Bool) : List UInt8 := (35 :: List.replicate i 92) ++ ((if cr then [13, 10] else [10]) ++ [49])
def noteR (i : Nat) (cr : Bool) : List Tok3 × Nat × Nat := lexF ((noteT i cr).length + 1) (noteT i cr) 0 [] false
def NoteOk (i : Nat) (cr : Bool) : Prop := (noteR i cr).2.1 = 0 ∧ (noteR i cr).1.length = (if i % 2 = 1 then 1 else 3) ∧ ((noteR i cr).1[0]?).map (·.1) = some 2 ∧ (noteT i cr).length ≤ 20 ∧ ∀ b ∈ noteT i cr, b.toNat < 128
instance (i : Nat) (cr : Bool) : Decidable (NoteOk i cr) := by unfold NoteOk; infer_instance
theorem notes_ok : ∀ i, i < 6 → ∀ cr : Bool, NoteOk i cr := by decide +kernel
theorem note_told (i : Nat) (hi : i < 6) (cr : Bool) (S : ByteArray) (hS : S.data.toList = noteT i cr) (w : World) :
    Calls Tryd.prog 11 #[.string S] w fun e w' => ∃ g cap, e = .returned (.tuple #[.slice (some ⟨g, 0, none⟩) (if i % 2 = 1 then 1 else 3) cap, .int .u16 0, .int .i64 0]) ∧ w'.cell? ⟨g, 0, none⟩ = some (.int .i64 2) ∧ Below w.heap.size w w' := by
  obtain ⟨h1, h2, h3, h4, h5⟩ := notes_ok i hi cr
  have hs : S.size = (noteT i cr).length := by rw [Lib.size_eq, hS]
  have hr : lexN (S.size + 1) S.data.toList 0 [] false = noteR i cr := by rw [← lexF_eq, hs, hS]; rfl
  generalize noteR i cr = r at *
  obtain ⟨ys, er, at'⟩ := r
  dsimp only at h1 h2 h3
  subst h1
  have ht := tokens_at (by omega) (by rw [hS]; exact utf_ascii h5) hr
  rw [if_pos rfl] at ht
  match ys, h2, h3, ht with
  | y :: ys, h2, h3, ht =>
    have hk : y.1 = 2 := by simpa using h3
    refine (tokens_some ht (n := ys.length) rfl (by omega) w).mono fun e w' ⟨g, cap, he, hc, _, hb⟩ => ⟨g, cap, ?_, ?_, hb⟩
    · rw [he, ← h2]; rfl
    · have := hc 0 (.int .i64 (y.1 : Int)) rfl
      rw [hk] at this; exact this
  | [], h2, h3, ht => simp at h3
theorem step_num35 (r : List UInt8) : stepN (49 :: 35 :: r) [] false = (6, 1, [], false, 0) := by
  rw [← stepF_eq]; rfl
theorem step_note (r : List UInt8) (n : Nat) (hn : noteN (35 :: r) = n + 1) : stepN (35 :: r) [] false = (2, n + 1, [], false, 0) := by
  show outN _ _ = _
  rw [outN_some (k := 1) (x := (2, 35, noteN)) rfl (fun y hy => by simp only [triesL, List.take_succ_cons, List.take_zero, List.mem_singleton] at hy; subst hy; rfl) (by show 0 < noteN (35 :: r); omega)]
  show ((brkN [] 2 _).2.1, noteN (35 :: r), (brkN [] 2 _).1, (brkN [] 2 _).2.2 || (2 == 7), 0) = _
  rw [hn]; rfl
theorem one_note_told (R S : ByteArray) (hR : R.size ≤ 300) (hu : Utf R.data.toList) (h10 : ∀ k : Nat, R.data.toList[k]? ≠ some 10) (hS : S.data.toList = 49 :: 35 :: R.data.toList) : tokensN S = ([(6, 0, 1), (2, 1, R.size + 1)], 0, 0) := by
  have hsz := Lib.size_eq R
  have hSs : S.size = R.size + 2 := by rw [Lib.size_eq, hS, List.length_cons, List.length_cons, ← hsz]
  have hlen : S.data.toList.length = R.size + 2 := by rw [← Lib.size_eq, hSs]
  have hn : noteN (35 :: R.data.toList) = R.size + 1 := by
    show linesN (35 :: R.data.toList) = _
    rw [linesN_none, List.length_cons, ← hsz]
    refine nl_none fun k => ?_
    match k with
    | 0 => simp
    | k + 1 => rw [List.getElem?_cons_succ]; exact h10 k
  have d0 : S.data.toList.drop 0 = 49 :: 35 :: R.data.toList := hS
  have d1 : S.data.toList.drop (0 + 1) = 35 :: R.data.toList := drop_next (x := [49]) d0 rfl
  have h : Runs S.data.toList 0 [] false [(6, 0, 1), (2, 0 + 1, R.size + 1)] (0 + 1 + (R.size + 1)) [] false := .at d0 (step_num35 _) (.at d1 (step_note _ _ hn) .refl)
  have := runs_end h (by omega) (by rw [hlen]; simp only [List.length_cons, List.length_nil]; omega)
  rw [hlen, ← hSs] at this
  rw [tokens_at (by omega) (by rw [hS]; exact utf_append (a := [49, 35]) (utf_ascii (by decide)) hu) this]
  simp

theorem note_n (R : ByteArray) (hR : R.size ≤ 300) (S : ByteArray) (hS : S.data.toList = 49 :: 35 :: R.data.toList) (hu : Utf R.data.toList) (h10 : ∀ k : Nat, R.data.toList[k]? ≠ some 10) (w : World) :
    Calls Tryd.prog 11 #[.string S] w fun e w' => ∃ g cap, e = .returned (.tuple #[.slice (some ⟨g, 0, none⟩) 2 cap, .int .u16 0, .int .i64 0]) ∧ w'.cell? ⟨g, 3, none⟩ = some (.string ((⟨#[35]⟩ : ByteArray) ++ R)) ∧ Below w.heap.size w w' := by
  have ht := one_note_told R S hR hu h10 hS
  have hSs : S.size = R.size + 2 := by rw [Lib.size_eq, hS, List.length_cons, List.length_cons, ← Lib.size_eq]
  refine (tokens_some ht (n := 1) rfl (by omega) w).mono fun e w' ⟨g, cap, he, hc, _, hb⟩ => ⟨g, cap, he, hc 3 _ ?_, hb⟩
  have e1 : ((S.data.toList.drop 1).take (R.size + 1)) = ((⟨#[35]⟩ : ByteArray) ++ R).data.toList := by
    rw [hS, List.drop_one, List.tail_cons, List.take_succ_cons, List.take_of_length_le (by rw [← Lib.size_eq]; omega)]
    simp
  show some (Value.string ⟨((S.data.toList.drop 1).take (R.size + 1)).toArray⟩) = _
  rw [back_str e1]

set_option maxRecDepth 100000 in
set_option maxHeartbeats 4000000 in
theorem notes_core (n : Int) (cr : Bool) (v : Value) (h0 : 0 ≤ n) (h1 : n ≤ 255) (w : World) (hv : BytesV w v) :
    Calls Tryd.prog 4 #[.int .u8 n, .bool cr, v] w fun e w' => e = .returned (.bool true) ∧ Below w.heap.size w w' := by
  obtain ⟨k, hk⟩ : ∃ k : Nat, n % 6 = (k : Int) := ⟨(n % 6).toNat, by omega⟩
  have hk1 : k < 6 := by omega
  have Hv := Lib.hid hv
  clear hv
  go_enter Tryd.func4, Tryd.ntmps4
  go_wp2
  go_loopw [7, 8] (fun v i wr => ∃ (j : Nat) (R : ByteArray), v = .string R ∧ i = .int .i64 j ∧ j ≤ k ∧ Hid (R.data.toList = 35 :: List.replicate j 92) ∧ wr = w) (fun _ i _ => k - (intOf i).toNat)
  case atStart => exact ⟨0, _, rfl, rfl, by omega, Lib.hid rfl, rfl⟩
  case round =>
    obtain ⟨j, R, rfl, rfl, hj, HR, rfl⟩ := hrel
    have hRs : R.size = j + 1 := by rw [Lib.size_eq, HR.out, List.length_cons, List.length_replicate]
    by_cases hlt : j < k
    · go_wp2
      go_roundw
      case rel => exact ⟨j + 1, _, rfl, by go_num, by omega, Lib.hid (by rw [ByteArray.data_append, Array.toList_append, HR.out, List.replicate_succ']; rfl), trivial⟩
      case measure => simp only [intOf]; omega
    · obtain rfl : j = k := by omega
      have hodd : j % 2 = 1 ∨ j % 2 = 0 := by omega
      have hS1 : (R ++ ⟨#[10]⟩ ++ ⟨#[49]⟩ : ByteArray).data.toList = noteT j false := by unfold noteT; rw [ByteArray.data_append, ByteArray.data_append, Array.toList_append, Array.toList_append, HR.out, List.append_assoc]; rfl
      have hS2 : (R ++ ⟨#[13, 10]⟩ ++ ⟨#[49]⟩ : ByteArray).data.toList = noteT j true := by unfold noteT; rw [ByteArray.data_append, ByteArray.data_append, Array.toList_append, Array.toList_append, HR.out, List.append_assoc]; rfl
      have t1 := note_told j hk1 false _ hS1
      have t2 := note_told j hk1 true _ hS2
      clear hS1 hS2
      rcases hodd with ho | ho
      · rw [if_pos ho] at t1 t2
        have y1 : (((j : Int) % 2) == 1) = true := by rw [beq_iff_eq]; omega
        have T1 := Lib.hid t1
        have T2 := Lib.hid t2
        clear t1 t2
        cases cr
        · go_wp2_with (first 
            | (go_at_call 11; with_reducible refine ((T1).out _).mono ?_; rintro e w2 ⟨g1, cap1, rfl, k0, hB⟩) 
            | (go_at_call 10; refine (source_calls v _ (Hv.out.below hB)).mono ?_; rintro e w3 ⟨R2, rfl, hR2, hu2, hb⟩; replace hB := hB.trans (hb.mono hB.size); clear hb k0; have Hu2 := Lib.hid hu2; clear hu2)) 
          obtain ⟨W2, hW2⟩ : ∃ W2, W2 = wr.heap.size := ⟨_, rfl⟩ 
          go_loopw [15] (fun i wr' => ∃ q : Nat, i = .int .i64 q ∧ q ≤ R2.size ∧ Hid (∀ z : Nat, z < q → R2.data.toList[z]? ≠ some 10) ∧ Below wr.heap.size wr wr') (fun i _ => R2.size - (intOf i).toNat) 
          case atStart => exact ⟨0, rfl, by omega, Lib.hid (fun z h => by omega), hB⟩ 
          case round => 
            clear hB hW2 
            obtain ⟨q, rfl, hq, Hq, hB⟩ := hrel 
            by_cases hlt2 : q < R2.size 
            · have hbq : R2.data.toList[q]? = some R2[q] := by rw [List.getElem?_eq_getElem (by rw [← Lib.size_eq]; omega)]; rfl 
              have Hbq := Lib.hid hbq 
              clear hbq 
              cases h10 : ((R2[q].toNat : Int) == 10) 
              · have Hne : Hid (R2[q] ≠ 10) := Lib.hid (fun e => by rw [e] at h10; simp at h10) 
                cases h92 : ((R2[q].toNat : Int) == 92) 
                · by_cases h128 : (128 : Int) ≤ (R2[q].toNat : Int) 
                  · go_wp2_with (go_at_call 12; refine (known_calls _).mono ?_; rintro e w5 ⟨rfl, hb⟩; replace hB := hB.trans (hb.mono hB.size); clear hb) 
                    go_ret 
                    exact ⟨rfl, hB⟩ 
                  · go_wp2 
                    go_roundw 
                    case rel => exact ⟨q + 1, by go_num, by omega, Lib.hid (fun z hz => by 
                      by_cases hzq : z = q 
                      · rw [hzq, Hbq.out]; intro e; exact Hne.out (Option.some.inj e) 
                      · exact Hq.out z (by omega)), hB⟩ 
                    case measure => simp only [intOf]; omega 
                · go_wp2_with (go_at_call 12; refine (known_calls _).mono ?_; rintro e w5 ⟨rfl, hb⟩; replace hB := hB.trans (hb.mono hB.size); clear hb) 
                  go_ret 
                  exact ⟨rfl, hB⟩ 
              · go_wp2_with (go_at_call 12; refine (known_calls _).mono ?_; rintro e w5 ⟨rfl, hb⟩; replace hB := hB.trans (hb.mono hB.size); clear hb) 
                go_ret 
                exact ⟨rfl, hB⟩ 
            · have hS3 : ((⟨#[49, 35]⟩ : ByteArray) ++ R2).data.toList = 49 :: 35 :: R2.data.toList := by simp 
              have T3 := Lib.hid (note_n R2 hR2 _ hS3 Hu2.out (fun z => by 
                by_cases hz : z < q 
                · exact Hq.out z hz 
                · rw [List.getElem?_eq_none (by rw [← Lib.size_eq]; omega)]; simp)) 
              clear hS3 Hq 
              go_wp2_with (first 
                | (go_at_call 11; with_reducible refine (T3.out _).mono ?_; rintro e w4 ⟨g4, cap4, rfl, k3, hb⟩; replace hB := hB.trans (hb.mono hB.size); clear hb) 
                | (go_at_call 12; refine (known_calls _).mono ?_; rintro e w5 ⟨rfl, hb⟩; replace hB := hB.trans (hb.mono hB.size); replace k3 := below_cell hb k3; clear hb)) 
              go_ret 
              exact ⟨rfl, hB⟩
        · go_wp2_with (first 
            | (go_at_call 11; with_reducible refine ((T2).out _).mono ?_; rintro e w2 ⟨g1, cap1, rfl, k0, hB⟩) 
            | (go_at_call 10; refine (source_calls v _ (Hv.out.below hB)).mono ?_; rintro e w3 ⟨R2, rfl, hR2, hu2, hb⟩; replace hB := hB.trans (hb.mono hB.size); clear hb k0; have Hu2 := Lib.hid hu2; clear hu2)) 
          obtain ⟨W2, hW2⟩ : ∃ W2, W2 = wr.heap.size := ⟨_, rfl⟩ 
          go_loopw [15] (fun i wr' => ∃ q : Nat, i = .int .i64 q ∧ q ≤ R2.size ∧ Hid (∀ z : Nat, z < q → R2.data.toList[z]? ≠ some 10) ∧ Below wr.heap.size wr wr') (fun i _ => R2.size - (intOf i).toNat) 
          case atStart => exact ⟨0, rfl, by omega, Lib.hid (fun z h => by omega), hB⟩ 
          case round => 
            clear hB hW2 
            obtain ⟨q, rfl, hq, Hq, hB⟩ := hrel 
            by_cases hlt2 : q < R2.size 
            · have hbq : R2.data.toList[q]? = some R2[q] := by rw [List.getElem?_eq_getElem (by rw [← Lib.size_eq]; omega)]; rfl 
              have Hbq := Lib.hid hbq 
              clear hbq 
              cases h10 : ((R2[q].toNat : Int) == 10) 
              · have Hne : Hid (R2[q] ≠ 10) := Lib.hid (fun e => by rw [e] at h10; simp at h10) 
                cases h92 : ((R2[q].toNat : Int) == 92) 
                · by_cases h128 : (128 : Int) ≤ (R2[q].toNat : Int) 
                  · go_wp2_with (go_at_call 12; refine (known_calls _).mono ?_; rintro e w5 ⟨rfl, hb⟩; replace hB := hB.trans (hb.mono hB.size); clear hb) 
                    go_ret 
                    exact ⟨rfl, hB⟩ 
                  · go_wp2 
                    go_roundw 
                    case rel => exact ⟨q + 1, by go_num, by omega, Lib.hid (fun z hz => by 
                      by_cases hzq : z = q 
                      · rw [hzq, Hbq.out]; intro e; exact Hne.out (Option.some.inj e) 
                      · exact Hq.out z (by omega)), hB⟩ 
                    case measure => simp only [intOf]; omega 
                · go_wp2_with (go_at_call 12; refine (known_calls _).mono ?_; rintro e w5 ⟨rfl, hb⟩; replace hB := hB.trans (hb.mono hB.size); clear hb) 
                  go_ret 
                  exact ⟨rfl, hB⟩ 
              · go_wp2_with (go_at_call 12; refine (known_calls _).mono ?_; rintro e w5 ⟨rfl, hb⟩; replace hB := hB.trans (hb.mono hB.size); clear hb) 
                go_ret 
                exact ⟨rfl, hB⟩ 
            · have hS3 : ((⟨#[49, 35]⟩ : ByteArray) ++ R2).data.toList = 49 :: 35 :: R2.data.toList := by simp 
              have T3 := Lib.hid (note_n R2 hR2 _ hS3 Hu2.out (fun z => by 
                by_cases hz : z < q 
                · exact Hq.out z hz 
                · rw [List.getElem?_eq_none (by rw [← Lib.size_eq]; omega)]; simp)) 
              clear hS3 Hq 
              go_wp2_with (first 
                | (go_at_call 11; with_reducible refine (T3.out _).mono ?_; rintro e w4 ⟨g4, cap4, rfl, k3, hb⟩; replace hB := hB.trans (hb.mono hB.size); clear hb) 
                | (go_at_call 12; refine (known_calls _).mono ?_; rintro e w5 ⟨rfl, hb⟩; replace hB := hB.trans (hb.mono hB.size); replace k3 := below_cell hb k3; clear hb)) 
              go_ret 
              exact ⟨rfl, hB⟩
      · rw [if_neg (by omega)] at t1 t2
        have y1 : (((j : Int) % 2) == 1) = false := by rw [beq_eq_false_iff_ne]; omega
        have T1 := Lib.hid t1
        have T2 := Lib.hid t2
        clear t1 t2
        cases cr
        · go_wp2_with (first 
            | (go_at_call 11; with_reducible refine ((T1).out _).mono ?_; rintro e w2 ⟨g1, cap1, rfl, k0, hB⟩) 
            | (go_at_call 10; refine (source_calls v _ (Hv.out.below hB)).mono ?_; rintro e w3 ⟨R2, rfl, hR2, hu2, hb⟩; replace hB := hB.trans (hb.mono hB.size); clear hb k0; have Hu2 := Lib.hid hu2; clear hu2)) 
          obtain ⟨W2, hW2⟩ : ∃ W2, W2 = wr.heap.size := ⟨_, rfl⟩ 
          go_loopw [15] (fun i wr' => ∃ q : Nat, i = .int .i64 q ∧ q ≤ R2.size ∧ Hid (∀ z : Nat, z < q → R2.data.toList[z]? ≠ some 10) ∧ Below wr.heap.size wr wr') (fun i _ => R2.size - (intOf i).toNat) 
          case atStart => exact ⟨0, rfl, by omega, Lib.hid (fun z h => by omega), hB⟩ 
          case round => 
            clear hB hW2 
            obtain ⟨q, rfl, hq, Hq, hB⟩ := hrel 
            by_cases hlt2 : q < R2.size 
            · have hbq : R2.data.toList[q]? = some R2[q] := by rw [List.getElem?_eq_getElem (by rw [← Lib.size_eq]; omega)]; rfl 
              have Hbq := Lib.hid hbq 
              clear hbq 
              cases h10 : ((R2[q].toNat : Int) == 10) 
              · have Hne : Hid (R2[q] ≠ 10) := Lib.hid (fun e => by rw [e] at h10; simp at h10) 
                cases h92 : ((R2[q].toNat : Int) == 92) 
                · by_cases h128 : (128 : Int) ≤ (R2[q].toNat : Int) 
                  · go_wp2_with (go_at_call 12; refine (known_calls _).mono ?_; rintro e w5 ⟨rfl, hb⟩; replace hB := hB.trans (hb.mono hB.size); clear hb) 
                    go_ret 
                    exact ⟨rfl, hB⟩ 
                  · go_wp2 
                    go_roundw 
                    case rel => exact ⟨q + 1, by go_num, by omega, Lib.hid (fun z hz => by 
                      by_cases hzq : z = q 
                      · rw [hzq, Hbq.out]; intro e; exact Hne.out (Option.some.inj e) 
                      · exact Hq.out z (by omega)), hB⟩ 
                    case measure => simp only [intOf]; omega 
                · go_wp2_with (go_at_call 12; refine (known_calls _).mono ?_; rintro e w5 ⟨rfl, hb⟩; replace hB := hB.trans (hb.mono hB.size); clear hb) 
                  go_ret 
                  exact ⟨rfl, hB⟩ 
              · go_wp2_with (go_at_call 12; refine (known_calls _).mono ?_; rintro e w5 ⟨rfl, hb⟩; replace hB := hB.trans (hb.mono hB.size); clear hb) 
                go_ret 
                exact ⟨rfl, hB⟩ 
            · have hS3 : ((⟨#[49, 35]⟩ : ByteArray) ++ R2).data.toList = 49 :: 35 :: R2.data.toList := by simp 
              have T3 := Lib.hid (note_n R2 hR2 _ hS3 Hu2.out (fun z => by 
                by_cases hz : z < q 
                · exact Hq.out z hz 
                · rw [List.getElem?_eq_none (by rw [← Lib.size_eq]; omega)]; simp)) 
              clear hS3 Hq 
              go_wp2_with (first 
                | (go_at_call 11; with_reducible refine (T3.out _).mono ?_; rintro e w4 ⟨g4, cap4, rfl, k3, hb⟩; replace hB := hB.trans (hb.mono hB.size); clear hb) 
                | (go_at_call 12; refine (known_calls _).mono ?_; rintro e w5 ⟨rfl, hb⟩; replace hB := hB.trans (hb.mono hB.size); replace k3 := below_cell hb k3; clear hb)) 
              go_ret 
              exact ⟨rfl, hB⟩
        · go_wp2_with (first 
            | (go_at_call 11; with_reducible refine ((T2).out _).mono ?_; rintro e w2 ⟨g1, cap1, rfl, k0, hB⟩) 
            | (go_at_call 10; refine (source_calls v _ (Hv.out.below hB)).mono ?_; rintro e w3 ⟨R2, rfl, hR2, hu2, hb⟩; replace hB := hB.trans (hb.mono hB.size); clear hb k0; have Hu2 := Lib.hid hu2; clear hu2)) 
          obtain ⟨W2, hW2⟩ : ∃ W2, W2 = wr.heap.size := ⟨_, rfl⟩ 
          go_loopw [15] (fun i wr' => ∃ q : Nat, i = .int .i64 q ∧ q ≤ R2.size ∧ Hid (∀ z : Nat, z < q → R2.data.toList[z]? ≠ some 10) ∧ Below wr.heap.size wr wr') (fun i _ => R2.size - (intOf i).toNat) 
          case atStart => exact ⟨0, rfl, by omega, Lib.hid (fun z h => by omega), hB⟩ 
          case round => 
            clear hB hW2 
            obtain ⟨q, rfl, hq, Hq, hB⟩ := hrel 
            by_cases hlt2 : q < R2.size 
            · have hbq : R2.data.toList[q]? = some R2[q] := by rw [List.getElem?_eq_getElem (by rw [← Lib.size_eq]; omega)]; rfl 
              have Hbq := Lib.hid hbq 
              clear hbq 
              cases h10 : ((R2[q].toNat : Int) == 10) 
              · have Hne : Hid (R2[q] ≠ 10) := Lib.hid (fun e => by rw [e] at h10; simp at h10) 
                cases h92 : ((R2[q].toNat : Int) == 92) 
                · by_cases h128 : (128 : Int) ≤ (R2[q].toNat : Int) 
                  · go_wp2_with (go_at_call 12; refine (known_calls _).mono ?_; rintro e w5 ⟨rfl, hb⟩; replace hB := hB.trans (hb.mono hB.size); clear hb) 
                    go_ret 
                    exact ⟨rfl, hB⟩ 
                  · go_wp2 
                    go_roundw 
                    case rel => exact ⟨q + 1, by go_num, by omega, Lib.hid (fun z hz => by 
                      by_cases hzq : z = q 
                      · rw [hzq, Hbq.out]; intro e; exact Hne.out (Option.some.inj e) 
                      · exact Hq.out z (by omega)), hB⟩ 
                    case measure => simp only [intOf]; omega 
                · go_wp2_with (go_at_call 12; refine (known_calls _).mono ?_; rintro e w5 ⟨rfl, hb⟩; replace hB := hB.trans (hb.mono hB.size); clear hb) 
                  go_ret 
                  exact ⟨rfl, hB⟩ 
              · go_wp2_with (go_at_call 12; refine (known_calls _).mono ?_; rintro e w5 ⟨rfl, hb⟩; replace hB := hB.trans (hb.mono hB.size); clear hb) 
                go_ret 
                exact ⟨rfl, hB⟩ 
            · have hS3 : ((⟨#[49, 35]⟩ : ByteArray) ++ R2).data.toList = 49 :: 35 :: R2.data.toList := by simp 
              have T3 := Lib.hid (note_n R2 hR2 _ hS3 Hu2.out (fun z => by 
                by_cases hz : z < q 
                · exact Hq.out z hz 
                · rw [List.getElem?_eq_none (by rw [← Lib.size_eq]; omega)]; simp)) 
              clear hS3 Hq 
              go_wp2_with (first 
                | (go_at_call 11; with_reducible refine (T3.out _).mono ?_; rintro e w4 ⟨g4, cap4, rfl, k3, hb⟩; replace hB := hB.trans (hb.mono hB.size); clear hb) 
                | (go_at_call 12; refine (known_calls _).mono ?_; rintro e w5 ⟨rfl, hb⟩; replace hB := hB.trans (hb.mono hB.size); replace k3 := below_cell hb k3; clear hb)) 
              go_ret 
              exact ⟨rfl, hB⟩
end Go.Proofs.YtfaocpcbejgfjaaDoor
