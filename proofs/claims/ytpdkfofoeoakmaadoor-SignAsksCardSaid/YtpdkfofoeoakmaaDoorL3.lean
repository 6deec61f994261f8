/- The law SignNumbers: the plain part, and the digits of a number as the program writes them. No condition. -/
import Derived.Test.YtpdkfofoeoakmaaDoorSg10
namespace Go.Proofs.YtpdkfofoeoakmaaDoor
open Go.RowKit Go.Sub

def AllD (l : List UInt8) : Prop := ∀ b ∈ l, isDigit b = true
theorem run_app (l r : List UInt8) (h : AllD l) : runOf isDigit (l ++ r) = l.length + runOf isDigit r := by
  induction l with
  | nil => simp
  | cons b t ih =>
    have h1 : isDigit b = true := h b List.mem_cons_self
    have h2 := ih (fun x hx => h x (List.mem_cons_of_mem _ hx))
    unfold runOf at h2 ⊢
    rw [List.cons_append, List.takeWhile_cons, if_pos h1]
    simp only [List.length_cons]; omega
theorem run_no (b : UInt8) (r : List UInt8) (h : isDigit b = false) : runOf isDigit (b :: r) = 0 := by
  unfold runOf; rw [List.takeWhile_cons, if_neg (by rw [h]; simp)]; rfl
theorem run_all (l : List UInt8) (h : AllD l) : runOf isDigit l = l.length := by
  have := run_app l [] h; simpa [runOf] using this
theorem run_stop (l : List UInt8) (b : UInt8) (r : List UInt8) (h : AllD l) (hb : isDigit b = false) : runOf isDigit (l ++ b :: r) = l.length := by
  rw [run_app l _ h, run_no b r hb]; rfl
/-- a whole number ahead of what is neither digit nor dot -/
theorem num_whole (A T : List UInt8) (hA : AllD A) (h0 : A ≠ []) (hT : ∀ b, T[0]? = some b → isDigit b = false ∧ b ≠ 46) : numberN (A ++ T) = A.length + powerN T := by
  have hr : runOf isDigit (A ++ T) = A.length := by
    match T with
    | [] => rw [List.append_nil]; exact run_all A hA
    | b :: r => exact run_stop A b r hA (hT b rfl).1
  have hm : mantN (A ++ T) = A.length := by
    unfold mantN
    rw [hr, if_neg, ]
    rw [List.getElem?_append_right (Nat.le_refl _), Nat.sub_self]
    intro h; exact (hT 46 h).2 rfl
  have h1 : A.length ≠ 0 := fun h => h0 (List.length_eq_zero_iff.1 h)
  unfold numberN
  rw [hm, if_neg h1, List.drop_left]
/-- a whole number and its broken part ahead of what is no digit -/
theorem num_dot (A B T : List UInt8) (hA : AllD A) (h0 : A ≠ []) (hB : AllD B) (hT : ∀ b, T[0]? = some b → isDigit b = false) : numberN (A ++ 46 :: (B ++ T)) = A.length + 1 + B.length + powerN T := by
  have hr : runOf isDigit (A ++ 46 :: (B ++ T)) = A.length := run_stop A 46 _ hA (by decide)
  have hb : runOf isDigit (B ++ T) = B.length := by
    match T with
    | [] => rw [List.append_nil]; exact run_all B hB
    | b :: r => exact run_stop B b r hB (hT b rfl)
  have hd : (A ++ 46 :: (B ++ T)).drop (A.length + 1) = B ++ T := by
    rw [← List.drop_drop, List.drop_left]; rfl
  have h1 : A.length ≠ 0 := fun h => h0 (List.length_eq_zero_iff.1 h)
  have hm : mantN (A ++ 46 :: (B ++ T)) = A.length + (1 + B.length) := by
    unfold mantN
    rw [hr, if_pos (by rw [List.getElem?_append_right (Nat.le_refl _), Nat.sub_self]; rfl), hd, hb, if_neg (by omega)]
  have hd2 : (A ++ 46 :: (B ++ T)).drop (A.length + (1 + B.length)) = T := by
    rw [← Nat.add_assoc, ← List.drop_drop, hd, List.drop_left]
  unfold numberN
  rw [hm, if_neg (by omega), hd2]; omega
theorem pow_plain (P T : List UInt8) (hP : AllD P) (h0 : P ≠ []) (hT : ∀ b, T[0]? = some b → isDigit b = false) : powerN (101 :: (P ++ T)) = 1 + P.length := by
  match P with
  | [] => exact absurd rfl h0
  | p :: q =>
    have hp : isDigit p = true := hP p List.mem_cons_self
    have hs : signOff (p :: q ++ T) = p :: q ++ T := by
      show (if p == 43 || p == 45 then q ++ T else p :: (q ++ T)) = _
      rw [if_neg]; · rfl
      intro h
      rcases Bool.or_eq_true _ _ ▸ h with h | h
      · rw [eq_of_beq h] at hp; exact absurd hp (by decide)
      · rw [eq_of_beq h] at hp; exact absurd hp (by decide)
    have hr : runOf isDigit (p :: q ++ T) = (p :: q).length := by
      match T with
      | [] => rw [List.append_nil]; exact run_all _ hP
      | b :: r => exact run_stop _ b r hP (hT b rfl)
    show (if (101 : UInt8) == 101 || (101 : UInt8) == 69 then (if runOf isDigit (signOff (p :: q ++ T)) = 0 then 0 else (101 :: (p :: q ++ T)).length - (signOff (p :: q ++ T)).length + runOf isDigit (signOff (p :: q ++ T))) else 0) = _
    rw [if_pos (by decide), hs, hr, if_neg (by simp)]
    simp only [List.length_cons, List.length_append]; omega
theorem pow_minus (P T : List UInt8) (hP : AllD P) (h0 : P ≠ []) (hT : ∀ b, T[0]? = some b → isDigit b = false) : powerN (101 :: 45 :: (P ++ T)) = 2 + P.length := by
  have hr : runOf isDigit (P ++ T) = P.length := by
    match T with
    | [] => rw [List.append_nil]; exact run_all _ hP
    | b :: r => exact run_stop _ b r hP (hT b rfl)
  have h1 : P.length ≠ 0 := fun h => h0 (List.length_eq_zero_iff.1 h)
  show (if (101 : UInt8) == 101 || (101 : UInt8) == 69 then (if runOf isDigit (signOff (45 :: (P ++ T))) = 0 then 0 else (101 :: 45 :: (P ++ T)).length - (signOff (45 :: (P ++ T))).length + runOf isDigit (signOff (45 :: (P ++ T)))) else 0) = _
  rw [if_pos (by decide), show signOff (45 :: (P ++ T)) = P ++ T from rfl, hr, if_neg h1]
  simp only [List.length_cons, List.length_append]; omega

theorem conv_one (d : UInt8) (w : World) : (convert 22 9 (.slice (some ⟨w.heap.size, 0, none⟩) 1 1)).run Tryd.prog (w.alloc (.cells #[.int .u8 (d.toNat : Int)] 5)) = .ok (.string ⟨#[d]⟩) (w.alloc (.cells #[.int .u8 (d.toNat : Int)] 5)) :=
  run_convert_bytes_back _ 22 9 5 ⟨w.heap.size, 0, none⟩ 1 [d] Tryd.underlying22 Tryd.underlying5 Tryd.underlying9 (fun j hj => by
    obtain rfl : j = 0 := by simp at hj; exact hj
    have e : (⟨w.heap.size, 0, none⟩ : Addr).add 0 = ⟨w.heap.size, 0, none⟩ := by unfold Addr.add; split <;> simp_all
    rw [e]; exact (Boxed.new w 5 (.int .u8 (d.toNat : Int))).cell)
theorem digit_nat (B : UInt8) : isDigit B = decide (48 ≤ B.toNat ∧ B.toNat ≤ 57) :=
  beq_iff_eq.1 (u8_all (p := fun B => isDigit B == decide (48 ≤ B.toNat ∧ B.toNat ≤ 57)) (by decide +kernel) B)
theorem byte_of (x : Int) (h0 : 48 ≤ x) (h1 : x ≤ 57) : ∃ d : UInt8, x = (d.toNat : Int) ∧ isDigit d = true :=
  ⟨UInt8.ofNat x.toNat, by rw [UInt8.toNat_ofNat_of_lt' (by show x.toNat < 256; omega)]; omega, by
    rw [digit_nat, UInt8.toNat_ofNat_of_lt' (by show x.toNat < 256; omega)]; rw [decide_eq_true_iff]; omega⟩
theorem allD_cons {d : UInt8} {l : List UInt8} (hd : isDigit d = true) (h : AllD l) : AllD (d :: l) := fun b hb => by
  rcases List.mem_cons.1 hb with rfl | hb
  · exact hd
  · exact h b hb

set_option maxRecDepth 20000 in
set_option maxHeartbeats 1000000 in
theorem digits_calls (n : Int) (h0 : 0 ≤ n) (h1 : n ≤ 65535) (w : World) :
    Calls Tryd.prog 25 #[.int .i64 n] w fun e w' => ∃ R : ByteArray, e = .returned (.string R) ∧ Below w.heap.size w w' ∧ AllD R.data.toList ∧ 1 ≤ R.size ∧ R.size ≤ 6 := by
  go_enter Tryd.func25, Tryd.ntmps25
  go_wp2
  go_loopw [0, 3] (fun i v wr => ∃ (m : Int) (R : ByteArray) (k : Nat), i = .int .i64 m ∧ (0 ≤ m ∧ m ≤ 65535) ∧ v = .string R ∧ AllD R.data.toList ∧ (R.size + k = 5 ∧ m < (10 : Int) ^ k) ∧ Below w.heap.size w wr) (fun i _ _ => (intOf i).toNat)
  case atStart => exact ⟨n, ByteArray.empty, 5, rfl, ⟨h0, h1⟩, rfl, fun b hb => by simp at hb, ⟨rfl, by omega⟩, Below.refl _ _⟩
  case round =>
    obtain ⟨m, R, k, rfl, ⟨m0, m1⟩, rfl, hR, ⟨hk, hmk⟩, hB⟩ := hrel
    have HR := Lib.hid hR
    have Hk := Lib.hid (And.intro hk hmk)
    have hRs : R.size ≤ 5 := by omega
    clear hR hk hmk
    by_cases h9 : 9 < m
    · obtain ⟨d, hd, hdd⟩ := byte_of (48 + m % 10) (by omega) (by omega)
      have Hdd := Lib.hid hdd
      clear hdd
      have hw1 : IntKind.i64.wrap (48 + m % 10) = (d.toNat : Int) := by rw [IntWalk.i64_in _ (by omega)]; exact hd
      have hcv := conv_one d wr
      go_wp2
      go_roundw
      case rel =>
        obtain ⟨hk, hmk⟩ := Hk.out
        match k, hmk, hk with
        | 0, hmk, _ => simp at hmk; omega
        | k + 1, hmk, hk =>
          refine ⟨m / 10, _, k, by first | rfl | go_num, ⟨by omega, by omega⟩, rfl, ?_, ⟨?_, ?_⟩, hB.alloc hB.size _⟩
          · rw [show (({ data := #[d] } : ByteArray) ++ R).data.toList = d :: R.data.toList by simp]; exact allD_cons Hdd.out HR.out
          · rw [ByteArray.size_append, show ({ data := #[d] } : ByteArray).size = 1 from rfl]; omega
          · rw [Int.pow_succ] at hmk; omega
      case measure => simp only [intOf]; omega
    · obtain ⟨d, hd, hdd⟩ := byte_of (48 + m) (by omega) (by omega)
      have Hdd := Lib.hid hdd
      clear hdd
      have hw1 : IntKind.i64.wrap (48 + m) = (d.toNat : Int) := by rw [IntWalk.i64_in _ (by omega)]; exact hd
      have hcv := conv_one d wr
      go_wp2
      go_ret
      refine ⟨_, rfl, hB.alloc hB.size _, ?_, ?_, ?_⟩
      · rw [show (({ data := #[d] } : ByteArray) ++ R).data.toList = d :: R.data.toList by simp]; exact allD_cons Hdd.out HR.out
      · rw [ByteArray.size_append, show ({ data := #[d] } : ByteArray).size = 1 from rfl]; omega
      · rw [ByteArray.size_append, show ({ data := #[d] } : ByteArray).size = 1 from rfl]; have := Hk.out.1; omega

theorem dots_calls (b : Bool) (w : World) : Calls Tryd.prog 26 #[.bool b] w fun e w' => e = .returned (.int .i64 (if b then 0 else 1)) ∧ w' = w := by
  cases b
  all_goals
    go_enter Tryd.func26, Tryd.ntmps26
    go_wp2
    go_ret
    exact ⟨rfl, rfl⟩
end Go.Proofs.YtpdkfofoeoakmaaDoor
