/- The law LexDeep, walked. No condition. -/
import Derived.Test.YtfaocpcbejgfjaaDoorLe2
namespace Go.Proofs.YtfaocpcbejgfjaaDoor
open Go.RowKit Go.Sub

/-- steps from one place to another -/
inductive Runs (l : List UInt8) : Nat → List Nat → Bool → List Tok3 → Nat → List Nat → Bool → Prop
  | refl {a st inn} : Runs l a st inn [] a st inn
  | step {a st inn k n st2 inn2 ys b st3 inn3} : a < l.length → stepN (l.drop a) st inn = (k, n, st2, inn2, 0) → Runs l (a + n) st2 inn2 ys b st3 inn3 → Runs l a st inn ((k, a, n) :: ys) b st3 inn3
theorem runs_lex {l : List UInt8} {a st inn ys b st3 inn3} (h : Runs l a st inn ys b st3 inn3) (F : Nat) : lexN (ys.length + F) l a st inn = (ys ++ (lexN F l b st3 inn3).1, (lexN F l b st3 inn3).2) := by
  induction h with
  | refl => simp
  | @step a st inn k n st2 inn2 ys b st3 inn3 hlt hs _ ih =>
    rw [List.length_cons, show ys.length + 1 + F = (ys.length + F) + 1 by omega, lexN_step hlt hs, ih]
    rfl
theorem Runs.trans {l : List UInt8} {a st inn ys b st2 inn2 zs c st3 inn3} (h : Runs l a st inn ys b st2 inn2) (k : Runs l b st2 inn2 zs c st3 inn3) : Runs l a st inn (ys ++ zs) c st3 inn3 := by
  induction h with
  | refl => exact k
  | step hlt hs _ ih => exact .step hlt hs (ih k)
theorem runs_end {l : List UInt8} {ys b st inn} (h : Runs l 0 [] false ys b st inn) (hb : l.length ≤ b) (hn : ys.length ≤ l.length) : lexN (l.length + 1) l 0 [] false = (ys, (if inn || !st.isEmpty then 13 else 0), b) := by
  have := runs_lex h (l.length - ys.length + 1)
  rw [show ys.length + (l.length - ys.length + 1) = l.length + 1 by omega] at this
  rw [this, lexN, if_pos hb]
  simp
theorem runs_err {l : List UInt8} {ys b st inn k n st2 inn2 e} (h : Runs l 0 [] false ys b st inn) (hb : b < l.length) (hs : stepN (l.drop b) st inn = (k, n, st2, inn2, e + 1)) (hn : ys.length ≤ l.length) : lexN (l.length + 1) l 0 [] false = (ys, e + 1, b) := by
  have := runs_lex h (l.length - ys.length + 1)
  rw [show ys.length + (l.length - ys.length + 1) = l.length + 1 by omega] at this
  rw [this, lexN, if_neg (by omega), hs]
  simp
theorem step_quote (r : List UInt8) (st : List Nat) : stepN (34 :: r) st false = (7, 1, st, true, 0) := by
  rw [← stepF_eq]
  match st with
  | [] => rfl
  | t :: rest => rfl
theorem step_open (r : List UInt8) (st : List Nat) (h : st.length < 256) : stepN (92 :: 40 :: r) st true = (9, 2, 0 :: st, false, 0) := by
  have hp : pieceN (92 :: 40 :: r) = 0 := piece_stop _ _ rfl rfl
  show insN _ _ = _
  unfold insN
  rw [hp, if_neg (by omega), if_neg (by simp), if_neg (by simp [Lib.hasPrefix]), if_neg (by omega)]
theorem step_deep (r : List UInt8) (st : List Nat) (h : 256 ≤ st.length) : stepN (92 :: 40 :: r) st true = (0, 0, st, true, 20 + 1) := by
  have hp : pieceN (92 :: 40 :: r) = 0 := piece_stop _ _ rfl rfl
  show insN _ _ = _
  unfold insN
  rw [hp, if_neg (by omega), if_neg (by simp), if_neg (by simp [Lib.hasPrefix]), if_pos h]
theorem step_end (r : List UInt8) (st : List Nat) : stepN (34 :: r) st true = (11, 1, st, false, 0) := by
  have hp : pieceN (34 :: r) = 0 := piece_stop _ _ rfl (by cases r <;> rfl)
  show insN _ _ = _
  unfold insN
  rw [hp, if_neg (by omega), if_pos (by simp)]
theorem step_one_nil (st : List Nat) : stepN [49] st false = (6, 1, st, false, 0) := by
  rw [← stepF_eq]
  match st with
  | [] => rfl
  | t :: rest => rfl
theorem step_one (r : List UInt8) (st : List Nat) : stepN (49 :: 41 :: r) st false = (6, 1, st, false, 0) := by
  rw [← stepF_eq]
  match st with
  | [] => rfl
  | t :: rest => rfl
theorem step_close (r : List UInt8) (st : List Nat) : stepN (41 :: r) (0 :: st) false = (10, 1, st, true, 0) := by
  rw [← stepF_eq]
  rfl
def opensL (k : Nat) : List UInt8 := (List.replicate k [34, 92, 40]).flatten
def closesL (k : Nat) : List UInt8 := (List.replicate k [41, 34]).flatten
def deepL (k : Nat) : List UInt8 := opensL k ++ 49 :: closesL k
theorem opensL_succ (k : Nat) : opensL (k + 1) = 34 :: 92 :: 40 :: opensL k := by unfold opensL; rw [List.replicate_succ]; rfl
theorem closesL_succ (k : Nat) : closesL (k + 1) = 41 :: 34 :: closesL k := by unfold closesL; rw [List.replicate_succ]; rfl
theorem opensL_len : ∀ k, (opensL k).length = 3 * k
  | 0 => rfl
  | k + 1 => by rw [opensL_succ]; simp only [List.length_cons, opensL_len k]; omega
theorem closesL_len : ∀ k, (closesL k).length = 2 * k
  | 0 => rfl
  | k + 1 => by rw [closesL_succ]; simp only [List.length_cons, closesL_len k]; omega
theorem deepL_len (k : Nat) : (deepL k).length = 5 * k + 1 := by unfold deepL; rw [List.length_append, List.length_cons, opensL_len, closesL_len]; omega
/-- a step, by what stands at the place -/
theorem Runs.at {l : List UInt8} {a st inn k n st2 inn2 ys b st3 inn3} {x : UInt8} {r : List UInt8} (hd : l.drop a = x :: r) (hs : stepN (x :: r) st inn = (k, n, st2, inn2, 0)) (h : Runs l (a + n) st2 inn2 ys b st3 inn3) : Runs l a st inn ((k, a, n) :: ys) b st3 inn3 := by
  refine .step ?_ (by rw [hd]; exact hs) h
  have := congrArg List.length hd
  rw [List.length_drop, List.length_cons] at this
  omega
theorem drop_next {l : List UInt8} {a n : Nat} {x : List UInt8} {r : List UInt8} (hd : l.drop a = x ++ r) (hn : x.length = n) : l.drop (a + n) = r := by
  rw [← List.drop_drop, hd, ← hn, List.drop_left]
theorem opens_run (l r : List UInt8) : ∀ (i a : Nat) (st : List Nat), st.length + i ≤ 256 → l.drop a = opensL i ++ r → ∃ ys, Runs l a st false ys (a + 3 * i) (List.replicate i 0 ++ st) false ∧ ys.length = 2 * i
  | 0, a, st, _, _ => ⟨[], .refl, rfl⟩
  | i + 1, a, st, h, hd => by
    rw [opensL_succ] at hd
    have d1 : l.drop (a + 1) = 92 :: 40 :: (opensL i ++ r) := drop_next (x := [34]) hd rfl
    have d2 : l.drop (a + 1 + 2) = opensL i ++ r := drop_next (x := [92, 40]) d1 rfl
    obtain ⟨ys, hr, hl⟩ := opens_run l r i (a + 1 + 2) (0 :: st) (by simp only [List.length_cons]; omega) d2
    refine ⟨(7, a, 1) :: (9, a + 1, 2) :: ys, .at hd (step_quote _ _) (.at d1 (step_open _ _ (by omega)) ?_), ?_⟩
    · rw [show a + 3 * (i + 1) = a + 1 + 2 + 3 * i by omega, List.replicate_succ', List.append_assoc]
      exact hr
    · simp only [List.length_cons, hl]; omega
theorem closes_run (l r : List UInt8) : ∀ (i a : Nat), l.drop a = closesL i ++ r → ∃ ys, Runs l a (List.replicate i 0) false ys (a + 2 * i) [] false ∧ ys.length = 2 * i
  | 0, a, _ => ⟨[], .refl, rfl⟩
  | i + 1, a, hd => by
    rw [closesL_succ] at hd
    have d1 : l.drop (a + 1) = 34 :: (closesL i ++ r) := drop_next (x := [41]) hd rfl
    have d2 : l.drop (a + 1 + 1) = closesL i ++ r := drop_next (x := [34]) d1 rfl
    obtain ⟨ys, hr, hl⟩ := closes_run l r i (a + 1 + 1) d2
    refine ⟨(10, a, 1) :: (11, a + 1, 1) :: ys, .at hd (step_close _ _) (.at d1 (step_end _ _) ?_), ?_⟩
    · rw [show a + 2 * (i + 1) = a + 1 + 1 + 2 * i by omega]
      exact hr
    · simp only [List.length_cons, hl]; omega
theorem deep_ok (k : Nat) (hk : k ≤ 256) : ∃ ys, lexN ((deepL k).length + 1) (deepL k) 0 [] false = (ys, 0, 5 * k + 1) ∧ ys.length = 4 * k + 1 := by
  have hlen := deepL_len k
  obtain ⟨ys, h1, l1⟩ := opens_run (deepL k) (49 :: closesL k) k 0 [] (by simp only [List.length_nil]; omega) rfl
  have d1 : (deepL k).drop (0 + 3 * k) = 49 :: closesL k := drop_next (x := opensL k) rfl (opensL_len k)
  have d2 : (deepL k).drop (0 + 3 * k + 1) = closesL k ++ [] := by rw [List.append_nil]; exact drop_next (x := [49]) d1 rfl
  obtain ⟨zs, h2, l2⟩ := closes_run (deepL k) [] k (0 + 3 * k + 1) d2
  have hone : stepN (49 :: closesL k) (List.replicate k 0) false = (6, 1, List.replicate k 0, false, 0) := by
    match k with
    | 0 => exact step_one_nil _
    | k + 1 => rw [closesL_succ]; exact step_one _ _
  rw [List.append_nil] at h1
  have h := h1.trans (.at d1 hone h2)
  have hl : (ys ++ (6, 0 + 3 * k, 1) :: zs).length = 4 * k + 1 := by rw [List.length_append, List.length_cons, l1, l2]; omega
  refine ⟨_, ?_, hl⟩
  have := runs_end h (by omega) (by omega)
  rw [this]
  simp only [List.isEmpty_nil, Bool.not_true, Bool.or_false, Bool.false_eq_true, if_false, Prod.mk.injEq, true_and]
  omega
theorem deep_bad (k : Nat) (hk : 256 < k) : ∃ ys at', lexN ((deepL k).length + 1) (deepL k) 0 [] false = (ys, 21, at') := by
  have hlen := deepL_len k
  have hsplit : opensL k = opensL 256 ++ opensL (k - 256) := by
    unfold opensL
    rw [← List.flatten_append, List.replicate_append_replicate, show 256 + (k - 256) = k by omega]
  obtain ⟨j, hj⟩ : ∃ j, k - 256 = j + 1 := ⟨k - 257, by omega⟩
  have hd : deepL k = opensL 256 ++ (34 :: 92 :: 40 :: (opensL j ++ 49 :: closesL k)) := by
    show opensL k ++ 49 :: closesL k = _
    rw [hsplit, hj, opensL_succ, List.append_assoc]; rfl
  obtain ⟨ys, h1, l1⟩ := opens_run (deepL k) (34 :: 92 :: 40 :: (opensL j ++ 49 :: closesL k)) 256 0 [] (by simp) hd
  have d1 : (deepL k).drop (0 + 3 * 256) = 34 :: 92 :: 40 :: (opensL j ++ 49 :: closesL k) := by rw [hd]; exact drop_next (a := 0) (x := opensL 256) rfl (opensL_len 256)
  have d2 : (deepL k).drop (0 + 3 * 256 + 1) = 92 :: 40 :: (opensL j ++ 49 :: closesL k) := drop_next (x := [34]) d1 rfl
  rw [List.append_nil] at h1
  have h := h1.trans (.at d1 (step_quote _ _) .refl)
  refine ⟨_, _, runs_err h (by omega) (by rw [d2]; exact step_deep _ _ (by rw [List.length_replicate]; exact Nat.le_refl _)) ?_⟩
  rw [List.length_append, l1, List.length_singleton]; omega
theorem deep_utf (k : Nat) : Utf (deepL k) := utf_ascii fun b hb => by
  unfold deepL opensL closesL at hb
  rw [List.mem_append, List.mem_cons] at hb
  rcases hb with hb | rfl | hb
  · obtain ⟨x, hx, hb⟩ := List.mem_flatten.1 hb
    rw [List.eq_of_mem_replicate hx] at hb
    exact (show ∀ b ∈ ([34, 92, 40] : List UInt8), b.toNat < 128 by decide) b hb
  · decide
  · obtain ⟨x, hx, hb⟩ := List.mem_flatten.1 hb
    rw [List.eq_of_mem_replicate hx] at hb
    exact (show ∀ b ∈ ([41, 34] : List UInt8), b.toNat < 128 by decide) b hb
theorem deep_told (k : Nat) (hk : k ≤ 300) (S : ByteArray) (hS : S.data.toList = deepL k) : (k ≤ 256 → ∃ ys, tokensN S = (ys, 0, 0) ∧ ys.length = 4 * k + 1) ∧ (256 < k → ∃ at', tokensN S = ([], 21, at')) := by
  have hs : S.size = 5 * k + 1 := by rw [Lib.size_eq, hS, deepL_len]
  have hu : Utf S.data.toList := by rw [hS]; exact deep_utf k
  constructor
  · intro h
    obtain ⟨ys, hr, hl⟩ := deep_ok k h
    rw [deepL_len, ← hs, ← hS] at hr
    exact ⟨ys, by rw [tokens_at (by omega) hu hr, if_pos rfl], hl⟩
  · intro h
    obtain ⟨ys, at', hr⟩ := deep_bad k h
    rw [deepL_len, ← hs, ← hS] at hr
    exact ⟨at', by rw [tokens_at (by omega) hu hr, if_neg (by omega)]⟩

set_option maxRecDepth 100000 in
set_option maxHeartbeats 4000000 in
theorem deep_core (n : Int) (h0 : 0 ≤ n) (h1 : n ≤ 65535) (w : World) :
    Calls Tryd.prog 5 #[.int .u16 n] w fun e w' => e = .returned (.bool true) ∧ Below w.heap.size w w' := by
  obtain ⟨k, hk⟩ : ∃ k : Nat, n % 300 = (k : Int) := ⟨(n % 300).toNat, by omega⟩
  have hk1 : k < 300 := by omega
  go_enter Tryd.func5, Tryd.ntmps5
  go_wp2
  go_loopw [4, 5] (fun v i wr => ∃ (j : Nat) (R : ByteArray), v = .string R ∧ i = .int .i64 j ∧ j ≤ k ∧ Hid (R.data.toList = opensL j) ∧ wr = w) (fun _ i _ => k - (intOf i).toNat)
  case atStart => exact ⟨0, _, rfl, rfl, by omega, Lib.hid rfl, rfl⟩
  case round =>
    obtain ⟨j, R, rfl, rfl, hj, HR, rfl⟩ := hrel
    have hRs : R.size = 3 * j := by rw [Lib.size_eq, HR.out, opensL_len]
    by_cases hlt : j < k
    · go_wp2
      go_roundw
      case rel => exact ⟨j + 1, _, rfl, by go_num, by omega, Lib.hid (by rw [ByteArray.data_append, Array.toList_append, HR.out]; unfold opensL; rw [List.replicate_succ', List.flatten_append]; rfl), trivial⟩
      case measure => simp only [intOf]; omega
    · have hjk : j = k := by omega
      subst hjk
      go_wp2
      go_loopw [4, 6] (fun v i wr' => ∃ (q : Nat) (T : ByteArray), v = .string T ∧ i = .int .i64 q ∧ q ≤ j ∧ Hid (T.data.toList = opensL j ++ 49 :: closesL q) ∧ wr' = wr) (fun _ i _ => j - (intOf i).toNat)
      case atStart => exact ⟨0, _, rfl, rfl, by omega, Lib.hid (by rw [ByteArray.data_append, Array.toList_append, HR.out]; rfl), rfl⟩
      case round =>
        obtain ⟨q, T, rfl, rfl, hq, HT, rfl⟩ := hrel
        have hTs : T.size = 3 * j + 1 + 2 * q := by rw [Lib.size_eq, HT.out, List.length_append, List.length_cons, opensL_len, closesL_len]; omega
        by_cases hlt : q < j
        · go_wp2
          go_roundw
          case rel => exact ⟨q + 1, _, rfl, by go_num, by omega, Lib.hid (by rw [ByteArray.data_append, Array.toList_append, HT.out]; unfold closesL; rw [List.replicate_succ', List.flatten_append, List.append_assoc]; rfl), trivial⟩
          case measure => simp only [intOf]; omega
        · have hqj : q = j := by omega
          subst hqj
          obtain ⟨f1, f2⟩ := deep_told q (by omega) T HT.out
          have hTs2 : T.size < 4611686018427387904 := by omega
          by_cases h6 : q ≤ 256
          · have y6 : ((q : Int) ≤ 256) = True := by apply eq_true; omega
            obtain ⟨ys, ht, hl⟩ := f1 h6
            have Ht := Lib.hid (tokens_some ht hl hTs2)
            clear f1 f2 ht hl
            go_wp2_with (first
              | (go_at_call 11; refine (Ht.out _).mono ?_; rintro e w2 ⟨g2, cap2, rfl, _, _, hb⟩; have hB := hb; clear hb)
              | (go_at_call 12; refine (known_calls _).mono ?_; rintro e w3 ⟨rfl, hb⟩; replace hB := hB.trans (hb.mono hB.size); clear hb))
            go_ret
            exact ⟨rfl, hB⟩
          · have y6 : ((q : Int) ≤ 256) = False := by apply eq_false; omega
            obtain ⟨at', ht⟩ := f2 (by omega)
            have Ht := Lib.hid (tokens_none ht hTs2)
            clear f1 f2 ht
            go_wp2_with (first
              | (go_at_call 11; refine (Ht.out _).mono ?_; rintro e w2 ⟨p2, cap2, rfl, hb⟩; have hB := hb; clear hb)
              | (go_at_call 12; refine (known_calls _).mono ?_; rintro e w3 ⟨rfl, hb⟩; replace hB := hB.trans (hb.mono hB.size); clear hb))
            go_ret
            exact ⟨rfl, hB⟩
end Go.Proofs.YtfaocpcbejgfjaaDoor
