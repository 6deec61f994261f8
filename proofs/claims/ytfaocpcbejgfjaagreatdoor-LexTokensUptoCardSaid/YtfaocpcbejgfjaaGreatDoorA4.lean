/- Facts on numbers. No condition. · Facts on signs. No condition. · The document's own classes of bytes, names and digits, as the program reads them. No condition. · Facts on escapes. No condition. · Facts on the operators. No condition. · The document's own operators, keys, names and escapes, as the program reads them. No condition. · The document's own escapes, as the program reads them. No condition. · What is told stays when the text is cut there, and when a blank follows. No condition. · The document's own words and numbers, as the program reads them. No condition. · The document's own numbers, as the program reads them. No condition. -/
import Derived.Test.YtfaocpcbejgfjaaGreatDoorA1
import Derived.Deep.RegionWith
import Derived.WalkSmall
import Derived.Outline
import Derived.Lib.VarintBits
import Derived.Lib.EndianBits
import Derived.Deep.QuietTactic
import Derived.BigQuiet
import Derived.Deep.DeepCutAuto
namespace Go.Proofs.YtfaocpcbejgfjaaGreatDoor
open Go.RowKit Go.Sub

def AllD (l : List UInt8) : Prop := ∀ b ∈ l, isDigit b = true
theorem run_app (l r : List UInt8) (h : AllD l) : runOf isDigit (l ++ r) = l.length + runOf isDigit r := by
  induction l with
  | nil => simp
  | cons b t ih =>
    have h1 : isDigit b = true := h b List.mem_cons_self
    have h2 := ih (fun x hx => h x (List.mem_cons_of_mem _ hx))
    unfold runOf at h2 ⊢
    rw [List.cons_append, List.takeWhile_cons, if_pos h1]
    simp only [List.length_cons]; omega
theorem run_no (b : UInt8) (r : List UInt8) (h : isDigit b = false) : runOf isDigit (b :: r) = 0 := by
  unfold runOf; rw [List.takeWhile_cons, if_neg (by rw [h]; simp)]; rfl
theorem run_all (l : List UInt8) (h : AllD l) : runOf isDigit l = l.length := by
  have := run_app l [] h; simpa [runOf] using this
theorem run_stop (l : List UInt8) (b : UInt8) (r : List UInt8) (h : AllD l) (hb : isDigit b = false) : runOf isDigit (l ++ b :: r) = l.length := by
  rw [run_app l _ h, run_no b r hb]; rfl
/-- a whole number ahead of what is neither digit nor dot -/
theorem num_whole (A T : List UInt8) (hA : AllD A) (h0 : A ≠ []) (hT : ∀ b, T[0]? = some b → isDigit b = false ∧ b ≠ 46) : numberN (A ++ T) = A.length + powerN T := by
  have hr : runOf isDigit (A ++ T) = A.length := by
    match T with
    | [] => rw [List.append_nil]; exact run_all A hA
    | b :: r => exact run_stop A b r hA (hT b rfl).1
  have hm : mantN (A ++ T) = A.length := by
    unfold mantN
    rw [hr, if_neg, ]
    rw [List.getElem?_append_right (Nat.le_refl _), Nat.sub_self]
    intro h; exact (hT 46 h).2 rfl
  have h1 : A.length ≠ 0 := fun h => h0 (List.length_eq_zero_iff.1 h)
  unfold numberN
  rw [hm, if_neg h1, List.drop_left]
/-- a whole number and its broken part ahead of what is no digit -/
theorem num_dot (A B T : List UInt8) (hA : AllD A) (h0 : A ≠ []) (hB : AllD B) (hT : ∀ b, T[0]? = some b → isDigit b = false) : numberN (A ++ 46 :: (B ++ T)) = A.length + 1 + B.length + powerN T := by
  have hr : runOf isDigit (A ++ 46 :: (B ++ T)) = A.length := run_stop A 46 _ hA (by decide)
  have hb : runOf isDigit (B ++ T) = B.length := by
    match T with
    | [] => rw [List.append_nil]; exact run_all B hB
    | b :: r => exact run_stop B b r hB (hT b rfl)
  have hd : (A ++ 46 :: (B ++ T)).drop (A.length + 1) = B ++ T := by
    rw [← List.drop_drop, List.drop_left]; rfl
  have h1 : A.length ≠ 0 := fun h => h0 (List.length_eq_zero_iff.1 h)
  have hm : mantN (A ++ 46 :: (B ++ T)) = A.length + (1 + B.length) := by
    unfold mantN
    rw [hr, if_pos (by rw [List.getElem?_append_right (Nat.le_refl _), Nat.sub_self]; rfl), hd, hb, if_neg (by omega)]
  have hd2 : (A ++ 46 :: (B ++ T)).drop (A.length + (1 + B.length)) = T := by
    rw [← Nat.add_assoc, ← List.drop_drop, hd, List.drop_left]
  unfold numberN
  rw [hm, if_neg (by omega), hd2]; omega
theorem pow_plain (P T : List UInt8) (hP : AllD P) (h0 : P ≠ []) (hT : ∀ b, T[0]? = some b → isDigit b = false) : powerN (101 :: (P ++ T)) = 1 + P.length := by
  match P with
  | [] => exact absurd rfl h0
  | p :: q =>
    have hp : isDigit p = true := hP p List.mem_cons_self
    have hs : signOff (p :: q ++ T) = p :: q ++ T := by
      show (if p == 43 || p == 45 then q ++ T else p :: (q ++ T)) = _
      rw [if_neg]; · rfl
      intro h
      rcases Bool.or_eq_true _ _ ▸ h with h | h
      · rw [eq_of_beq h] at hp; exact absurd hp (by decide)
      · rw [eq_of_beq h] at hp; exact absurd hp (by decide)
    have hr : runOf isDigit (p :: q ++ T) = (p :: q).length := by
      match T with
      | [] => rw [List.append_nil]; exact run_all _ hP
      | b :: r => exact run_stop _ b r hP (hT b rfl)
    show (if (101 : UInt8) == 101 || (101 : UInt8) == 69 then (if runOf isDigit (signOff (p :: q ++ T)) = 0 then 0 else (101 :: (p :: q ++ T)).length - (signOff (p :: q ++ T)).length + runOf isDigit (signOff (p :: q ++ T))) else 0) = _
    rw [if_pos (by decide), hs, hr, if_neg (by simp)]
    simp only [List.length_cons, List.length_append]; omega
theorem pow_minus (P T : List UInt8) (hP : AllD P) (h0 : P ≠ []) (hT : ∀ b, T[0]? = some b → isDigit b = false) : powerN (101 :: 45 :: (P ++ T)) = 2 + P.length := by
  have hr : runOf isDigit (P ++ T) = P.length := by
    match T with
    | [] => rw [List.append_nil]; exact run_all _ hP
    | b :: r => exact run_stop _ b r hP (hT b rfl)
  have h1 : P.length ≠ 0 := fun h => h0 (List.length_eq_zero_iff.1 h)
  show (if (101 : UInt8) == 101 || (101 : UInt8) == 69 then (if runOf isDigit (signOff (45 :: (P ++ T))) = 0 then 0 else (101 :: 45 :: (P ++ T)).length - (signOff (45 :: (P ++ T))).length + runOf isDigit (signOff (45 :: (P ++ T)))) else 0) = _
  rw [if_pos (by decide), show signOff (45 :: (P ++ T)) = P ++ T from rfl, hr, if_neg h1]
  simp only [List.length_cons, List.length_append]; omega

theorem digit_nat (B : UInt8) : isDigit B = decide (48 ≤ B.toNat ∧ B.toNat ≤ 57) :=
  beq_iff_eq.1 (u8_all (p := fun B => isDigit B == decide (48 ≤ B.toNat ∧ B.toNat ≤ 57)) (by decide +kernel) B)
theorem byte_of (x : Int) (h0 : 48 ≤ x) (h1 : x ≤ 57) : ∃ d : UInt8, x = (d.toNat : Int) ∧ isDigit d = true :=
  ⟨UInt8.ofNat x.toNat, by rw [UInt8.toNat_ofNat_of_lt' (by show x.toNat < 256; omega)]; omega, by
    rw [digit_nat, UInt8.toNat_ofNat_of_lt' (by show x.toNat < 256; omega)]; rw [decide_eq_true_iff]; omega⟩
theorem allD_cons {d : UInt8} {l : List UInt8} (hd : isDigit d = true) (h : AllD l) : AllD (d :: l) := fun b hb => by
  rcases List.mem_cons.1 hb with rfl | hb
  · exact hd
  · exact h b hb
end Go.Proofs.YtfaocpcbejgfjaaGreatDoor
namespace Go.Proofs.YtfaocpcbejgfjaaGreatDoor
open Go.RowKit Go.Sub

theorem run_one (p : UInt8 → Bool) (b : UInt8) (r : List UInt8) (h : p b = true) : 1 ≤ runOf p (b :: r) := by
  unfold runOf; rw [List.takeWhile_cons, if_pos h]; simp
theorem run_none (p : UInt8 → Bool) (b : UInt8) (r : List UInt8) (h : p b = false) : runOf p (b :: r) = 0 := by
  unfold runOf; rw [List.takeWhile_cons, if_neg (by rw [h]; simp)]; rfl
theorem word_letter (b : UInt8) (r : List UInt8) (h : isLetter b = true) : 1 ≤ wordN (b :: r) := by
  have h1 : 1 ≤ simpleN (b :: r) := by
    show 1 ≤ (if isLetter b then runOf isPart (b :: r) else 0)
    rw [if_pos h]; exact run_one _ b r (by unfold isPart; rw [h]; rfl)
  unfold wordN; rw [if_neg (by omega)]; omega
theorem word_other (b : UInt8) (r : List UInt8) (h : isLetter b = false) : wordN (b :: r) = 0 := by
  have h1 : simpleN (b :: r) = 0 := by
    show (if isLetter b then runOf isPart (b :: r) else 0) = 0
    rw [if_neg (by rw [h]; simp)]
  unfold wordN; rw [if_pos h1]
theorem num_digit (b : UInt8) (r : List UInt8) (h : isDigit b = true) : 1 ≤ numberN (b :: r) := by
  have h1 := run_one isDigit b r h
  have h2 : 1 ≤ mantN (b :: r) := by unfold mantN; split; · rw [if_neg (by omega)]; omega
                                     · exact h1
  unfold numberN; rw [if_neg (by omega)]; omega
theorem num_other (b : UInt8) (r : List UInt8) (h : isDigit b = false) (h2 : b ≠ 46) : numberN (b :: r) = 0 := by
  have h1 := run_none isDigit b r h
  have hm : mantN (b :: r) = 0 := by
    unfold mantN; rw [h1, if_neg]; intro e; exact h2 (Option.some.inj e)
  unfold numberN; rw [if_pos hm]
theorem esc_other (b : UInt8) (r : List UInt8) (h : b ≠ 92) : escN (b :: r) = 0 := by
  match r with
  | [] => rfl
  | c :: t =>
    show (if b == 92 then _ else 0) = 0
    rw [if_neg (by simpa using h)]
theorem apart (b : UInt8) : (isLetter b = true → isDigit b = false) ∧ (isLetter b = true → isBlank b = false) ∧ (isDigit b = true → isBlank b = false) := by
  have := u8_all (p := fun b => (!isLetter b || !isDigit b) && ((!isLetter b || !isBlank b) && (!isDigit b || !isBlank b))) (by decide +kernel) b
  cases h1 : isLetter b <;> cases h2 : isDigit b <;> cases h3 : isBlank b <;> simp_all
end Go.Proofs.YtfaocpcbejgfjaaGreatDoor
namespace Go.Proofs.YtfaocpcbejgfjaaGreatDoor
open Go.RowKit Go.Sub

theorem letter_nat (B : UInt8) : isLetter B = (decide (97 ≤ B.toNat ∧ B.toNat ≤ 122) || (decide (65 ≤ B.toNat ∧ B.toNat ≤ 90) || decide (B.toNat = 95))) :=
  beq_iff_eq.1 (u8_all (p := fun B => isLetter B == (decide (97 ≤ B.toNat ∧ B.toNat ≤ 122) || (decide (65 ≤ B.toNat ∧ B.toNat ≤ 90) || decide (B.toNat = 95)))) (by decide +kernel) B)
theorem blank_nat (B : UInt8) : isBlank B = (decide (B.toNat = 32) || (decide (B.toNat = 9) || (decide (B.toNat = 10) || decide (B.toNat = 13)))) :=
  beq_iff_eq.1 (u8_all (p := fun B => isBlank B == (decide (B.toNat = 32) || (decide (B.toNat = 9) || (decide (B.toNat = 10) || decide (B.toNat = 13))))) (by decide +kernel) B)
theorem hexa_nat (B : UInt8) : isHex B = (decide (48 ≤ B.toNat ∧ B.toNat ≤ 57) || (decide (97 ≤ B.toNat ∧ B.toNat ≤ 102) || decide (65 ≤ B.toNat ∧ B.toNat ≤ 70))) :=
  beq_iff_eq.1 (u8_all (p := fun B => isHex B == (decide (48 ≤ B.toNat ∧ B.toNat ≤ 57) || (decide (97 ≤ B.toNat ∧ B.toNat ≤ 102) || decide (65 ≤ B.toNat ∧ B.toNat ≤ 70)))) (by decide +kernel) B)
theorem ret_bool {a b : Bool} (h : a = b) : Ending.returned (.bool a) = .returned (.bool b) := by rw [h]
theorem ret_nat {a b : Nat} (h : a = b) : Ending.returned (.int .i64 (a : Int)) = .returned (.int .i64 (b : Int)) := by rw [h]
set_option maxHeartbeats 400000 in
theorem rletter_calls (b : UInt8) (w : World) :
    Calls Tryz.prog 44 #[.int .u8 b.toNat] w fun e w' => e = .returned (.bool (isLetter b)) ∧ w' = w := by
  have Hs := Lib.hid (letter_nat b)
  go_enter Tryz.func44, Tryz.ntmps44
  go_wp2
  all_goals
    go_ret 
    refine ⟨ret_bool ?_, rfl⟩ 
    rw [Hs.out, Bool.eq_iff_iff] 
    simp only [Bool.or_eq_true, decide_eq_true_eq, beq_iff_eq, Bool.false_eq_true, true_iff, false_iff] 
    omega
set_option maxHeartbeats 400000 in
theorem rdigit_calls (b : UInt8) (w : World) :
    Calls Tryz.prog 71 #[.int .u8 b.toNat] w fun e w' => e = .returned (.bool (isDigit b)) ∧ w' = w := by
  have Hs := Lib.hid (digit_nat b)
  go_enter Tryz.func71, Tryz.ntmps71
  go_wp2
  all_goals
    go_ret 
    refine ⟨ret_bool ?_, rfl⟩ 
    rw [Hs.out, Bool.eq_iff_iff] 
    simp only [Bool.or_eq_true, decide_eq_true_eq, beq_iff_eq, Bool.false_eq_true, true_iff, false_iff] 
    omega
set_option maxHeartbeats 400000 in
theorem rblank_calls (b : UInt8) (w : World) :
    Calls Tryz.prog 40 #[.int .u8 b.toNat] w fun e w' => e = .returned (.bool (isBlank b)) ∧ w' = w := by
  have Hs := Lib.hid (blank_nat b)
  go_enter Tryz.func40, Tryz.ntmps40
  go_wp2
  all_goals
    go_ret 
    refine ⟨ret_bool ?_, rfl⟩ 
    rw [Hs.out, Bool.eq_iff_iff] 
    simp only [Bool.or_eq_true, decide_eq_true_eq, beq_iff_eq, Bool.false_eq_true, true_iff, false_iff] 
    omega
set_option maxHeartbeats 400000 in
theorem rhex_calls (b : UInt8) (w : World) :
    Calls Tryz.prog 69 #[.int .u8 b.toNat] w fun e w' => e = .returned (.bool (isHex b)) ∧ w' = w := by
  have Hs := Lib.hid (hexa_nat b)
  have hn := digit_nat b
  cases hd : isDigit b
  all_goals
    rw [hd] at hn
    have Hd := Lib.hid hd
    have hn' := hn.symm
    simp only [decide_eq_true_eq, decide_eq_false_iff_not] at hn'
    clear hd hn
    go_enter Tryz.func69, Tryz.ntmps69
    go_wp2_with (go_at_call 71; refine (rdigit_calls b _).mono ?_; rw [Hd.out]; rintro e w' ⟨rfl, rfl⟩)
    all_goals
      go_ret 
      refine ⟨ret_bool ?_, rfl⟩ 
      rw [Hs.out, Bool.eq_iff_iff] 
      simp only [Bool.or_eq_true, decide_eq_true_eq, beq_iff_eq, Bool.false_eq_true, true_iff, false_iff] 
      omega

set_option maxHeartbeats 400000 in
set_option maxRecDepth 20000 in
theorem rdigits_calls (s : ByteArray) (w : World) (hs : s.size < 4611686018427387904) :
    Calls Tryz.prog 72 #[.string s] w fun e w' => e = .returned (.int .i64 (runOf isDigit s.data.toList : Nat)) ∧ w' = w := by
  have hsz := Lib.size_eq s
  go_enter Tryz.func72, Tryz.ntmps72
  go_wp2
  go_loopw [3] (fun i wr => ∃ n : Nat, n ≤ s.size ∧ i = .int .i64 n ∧ n + runOf isDigit (s.data.toList.drop n) = runOf isDigit s.data.toList ∧ wr = w) (fun i _ => s.size - (intOf i).toNat)
  case atStart => exact ⟨0, by omega, rfl, by simp, rfl⟩
  case round =>
    obtain ⟨n, hn, rfl, hrun, rfl⟩ := hrel
    by_cases hlt : n < s.size
    · have hb : s.data.toList[n]? = some s[n] := by rw [List.getElem?_eq_getElem (by omega)]; rfl
      have Hrun := Lib.hid hrun
      have Hsz := Lib.hid hsz
      have Hb := Lib.hid hb
      clear hrun hsz hb
      cases hpb : isDigit s[n]
      all_goals
        have Hpb := Lib.hid hpb
        clear hpb
        go_wp2_with (go_at_call 71; refine (rdigit_calls _ _).mono ?_; rw [Hpb.out]; rintro e w' ⟨rfl, rfl⟩)
      · go_ret
        refine ⟨ret_nat ?_, rfl⟩
        have h1 := Hrun.out
        rw [runOf_drop_miss _ _ n _ Hb.out Hpb.out] at h1
        exact h1
      · go_roundw
        case rel =>
          have h1 := Hrun.out
          rw [runOf_drop_hit _ _ n _ Hb.out Hpb.out] at h1
          exact ⟨n + 1, by omega, by go_num, by omega, trivial⟩
        case measure => simp [intOf]; omega
    · obtain rfl : n = s.size := by omega
      have Hrun := Lib.hid hrun
      have Hsz := Lib.hid hsz
      clear hrun hsz
      go_wp2
      go_ret
      refine ⟨ret_nat ?_, rfl⟩
      have h1 := Hrun.out
      rw [runOf_drop_end _ _ _ (Nat.le_of_eq Hsz.out.symm)] at h1
      exact h1

set_option maxHeartbeats 1000000 in
set_option maxRecDepth 20000 in
theorem rsimple_calls (s : ByteArray) (w : World) (hs : s.size < 4611686018427387904) :
    Calls Tryz.prog 70 #[.string s] w fun e w' => e = .returned (.int .i64 (simpleN s.data.toList : Nat)) ∧ w' = w := by
  by_cases h0 : s.size = 0
  · obtain rfl : s = ByteArray.empty := ByteArray.size_eq_zero_iff.1 h0
    go_enter Tryz.func70, Tryz.ntmps70
    go_wp2
    go_ret
    exact ⟨rfl, rfl⟩
  · have hlt : 0 < s.size := by omega
    have hsz := Lib.size_eq s
    have hl := cons_of s hlt
    have hsp : simpleN s.data.toList = if isLetter s[0] then runOf isPart s.data.toList else 0 := by rw [hl]; rfl
    obtain ⟨he, he2⟩ := not_empty s hlt
    have Hsp := Lib.hid hsp
    clear hsp
    cases hL : isLetter s[0]
    all_goals
      have HL := Lib.hid hL
      rw [hL] at Hsp
    · clear hL hl hsz
      go_enter Tryz.func70, Tryz.ntmps70
      go_wp2_with (go_at_call 44; refine (rletter_calls _ _).mono ?_; rw [HL.out]; rintro e w' ⟨rfl, rfl⟩)
      go_ret
      exact ⟨by rw [Hsp.out]; rfl, rfl⟩
    · have h1 : 1 + runOf isPart (s.data.toList.drop 1) = runOf isPart s.data.toList := by
        have := runOf_drop_hit isPart s.data.toList 0 s[0] (by rw [List.getElem?_eq_getElem (by omega)]; rfl) (by unfold isPart; rw [hL]; rfl)
        rw [List.drop_zero, Nat.zero_add] at this; omega
      have H1 := Lib.hid h1
      have Hsz := Lib.hid hsz
      clear hL hl h1 hsz
      go_enter Tryz.func70, Tryz.ntmps70
      go_wp2_with (go_at_call 44; refine (rletter_calls _ _).mono ?_; rw [HL.out]; rintro e w' ⟨rfl, rfl⟩)
      go_loopw [3] (fun i wr => ∃ n : Nat, 1 ≤ n ∧ n ≤ s.size ∧ i = .int .i64 n ∧ Hid (n + runOf isPart (s.data.toList.drop n) = runOf isPart s.data.toList) ∧ wr = w') (fun i _ => s.size - (intOf i).toNat)
      case atStart => exact ⟨1, by omega, by omega, rfl, H1, rfl⟩
      case round =>
        obtain ⟨n, hn1, hn, rfl, Hrun, rfl⟩ := hrel
        clear H1
        by_cases hlt : n < s.size
        · have Hb := Lib.hid (show s.data.toList[n]? = some s[n] from by rw [List.getElem?_eq_getElem (by have := Hsz.out; omega)]; rfl)
          cases hpl : isLetter s[n]
          · cases hpd : isDigit s[n]
            all_goals
              have Hpp := Lib.hid (show isPart s[n] = _ from by unfold isPart; rw [hpl, hpd])
              have Hpl := Lib.hid hpl
              have Hpd := Lib.hid hpd
              clear hpl hpd
              go_wp2_with (first | (go_at_call 44; refine (rletter_calls _ _).mono ?_; rw [Hpl.out]; rintro e w' ⟨rfl, rfl⟩) | (go_at_call 71; refine (rdigit_calls _ _).mono ?_; rw [Hpd.out]; rintro e w' ⟨rfl, rfl⟩))
            · go_ret
              refine ⟨?_, rfl⟩
              have h1 := Hrun.out
              rw [runOf_drop_miss _ _ n _ Hb.out Hpp.out] at h1
              rw [Hsp.out]
              exact ret_nat h1
            · go_roundw
              case rel =>
                have h1 := Hrun.out
                rw [runOf_drop_hit _ _ n _ Hb.out Hpp.out] at h1
                exact ⟨n + 1, by omega, by omega, by go_num, Lib.hid (by omega), trivial⟩
              case measure => simp [intOf]; omega
          · have Hpp := Lib.hid (show isPart s[n] = true from by unfold isPart; rw [hpl]; rfl)
            have Hpl := Lib.hid hpl
            clear hpl
            go_wp2_with (go_at_call 44; refine (rletter_calls _ _).mono ?_; rw [Hpl.out]; rintro e w' ⟨rfl, rfl⟩)
            go_roundw
            case rel =>
              have h1 := Hrun.out
              rw [runOf_drop_hit _ _ n _ Hb.out Hpp.out] at h1
              exact ⟨n + 1, by omega, by omega, by go_num, Lib.hid (by omega), trivial⟩
            case measure => simp [intOf]; omega
        · obtain rfl : n = s.size := by omega
          go_wp2
          go_ret
          refine ⟨?_, rfl⟩
          have h1 := Hrun.out
          rw [runOf_drop_end _ _ _ (Nat.le_of_eq Hsz.out.symm)] at h1
          rw [Hsp.out]
          exact ret_nat h1
end Go.Proofs.YtfaocpcbejgfjaaGreatDoor
namespace Go.Proofs.YtfaocpcbejgfjaaGreatDoor
open Go.RowKit Go.Sub

theorem ext_one (D : ByteArray) (q : Nat) (h : q < D.size) : (D.extract q (q + 1)).data.toList = [D.data.toList.getD q 0] := by
  have hs := Lib.size_eq D
  rw [Lib.extract_data, Nat.add_sub_cancel_left, List.drop_eq_getElem_cons (by omega)]
  simp [List.getD_eq_getElem?_getD, List.getElem?_eq_getElem (show q < D.data.toList.length by omega)]
theorem esc_four (a b c d : UInt8) (r : List UInt8) : escN (92 :: 117 :: a :: b :: c :: d :: r) = if isHex a && (isHex b && (isHex c && isHex d)) then 6 else 0 := by
  show (if (92 : UInt8) == 92 then (if escPlain 117 then 2 else if (117 : UInt8) == 117 && runOf isHex [a, b, c, d] == 4 then 6 else 0) else 0) = _
  rw [if_pos (by decide), if_neg (by decide)]
  unfold runOf
  cases ha : isHex a <;> cases hb : isHex b <;> cases hc : isHex c <;> cases hd : isHex d <;> simp [ha, hb, hc, hd]
theorem esc_three (a b c : UInt8) : escN [92, 117, a, b, c] = 0 := by
  show (if (92 : UInt8) == 92 then (if escPlain 117 then 2 else if (117 : UInt8) == 117 && runOf isHex [a, b, c] == 4 then 6 else 0) else 0) = _
  have h := runOf_le isHex [a, b, c]
  simp only [List.length_cons, List.length_nil] at h
  rw [if_pos (by decide), if_neg (by decide), if_neg]
  rw [Bool.and_eq_true, beq_iff_eq, beq_iff_eq]
  omega
theorem hex_low (q : Nat) (h : q ≤ 15) : isHex (([48, 49, 50, 51, 52, 53, 54, 55, 56, 57, 97, 98, 99, 100, 101, 102] : List UInt8).getD q 0) = true := by
  have : ∀ q < 16, isHex (([48, 49, 50, 51, 52, 53, 54, 55, 56, 57, 97, 98, 99, 100, 101, 102] : List UInt8).getD q 0) = true := by decide +kernel
  exact this q (by omega)
theorem hex_up (q : Nat) (h : q ≤ 15) : isHex (([48, 49, 50, 51, 52, 53, 54, 55, 56, 57, 65, 66, 67, 68, 69, 70] : List UInt8).getD q 0) = true := by
  have : ∀ q < 16, isHex (([48, 49, 50, 51, 52, 53, 54, 55, 56, 57, 65, 66, 67, 68, 69, 70] : List UInt8).getD q 0) = true := by decide +kernel
  exact this q (by omega)
theorem hex_nat (B : UInt8) : isHex B = (decide (48 ≤ B.toNat ∧ B.toNat ≤ 57) || (decide (97 ≤ B.toNat ∧ B.toNat ≤ 102) || decide (65 ≤ B.toNat ∧ B.toNat ≤ 70))) :=
  beq_iff_eq.1 (u8_all (p := fun B => isHex B == (decide (48 ≤ B.toNat ∧ B.toNat ≤ 57) || (decide (97 ≤ B.toNat ∧ B.toNat ≤ 102) || decide (65 ≤ B.toNat ∧ B.toNat ≤ 70)))) (by decide +kernel) B)
/-- what the law asks of its text -/
structure EscText (S : ByteArray) : Prop where
  size : S.size = 6
  one : escN S.data.toList = 6
  two : escN (S ++ ⟨#[48]⟩).data.toList = 6
  three : escN (S.extract 0 5).data.toList = 0
  four : ∀ (i : Nat) (B : UInt8), 2 ≤ i → i ≤ 5 → escN (S.extract 0 i ++ ⟨#[B]⟩ ++ S.extract (i + 1) 6).data.toList = if isHex B then 6 else 0
theorem escText (S : ByteArray) (a b c d : UInt8) (hS : S.data.toList = [92, 117, a, b, c, d]) (ha : isHex a = true) (hb : isHex b = true) (hc : isHex c = true) (hd : isHex d = true) : EscText S where
  size := by rw [Lib.size_eq, hS]; rfl
  one := by rw [hS, esc_four]; simp [ha, hb, hc, hd]
  two := by
    have : (S ++ ⟨#[48]⟩).data.toList = [92, 117, a, b, c, d, 48] := by simp [hS]
    rw [this, esc_four]; simp [ha, hb, hc, hd]
  three := by rw [Lib.extract_data, hS]; exact esc_three a b c
  four := fun i B h2 h5 => by
    have e : (S.extract 0 i ++ ⟨#[B]⟩ ++ S.extract (i + 1) 6).data.toList = (S.data.toList.take i) ++ B :: ((S.data.toList.drop (i + 1)).take (6 - (i + 1))) := by
      have h1 := Lib.extract_data S 0 i
      have h2 := Lib.extract_data S (i + 1) 6
      simp only [ByteArray.data_append, Array.toList_append, h1, h2]
      simp
    rw [e, hS]
    have hi : i = 2 ∨ i = 3 ∨ i = 4 ∨ i = 5 := by omega
    rcases hi with rfl | rfl | rfl | rfl
    · show escN (92 :: 117 :: B :: b :: c :: d :: []) = _
      rw [esc_four]; simp [hb, hc, hd]
    · show escN (92 :: 117 :: a :: B :: c :: d :: []) = _
      rw [esc_four]; simp [ha, hc, hd]
    · show escN (92 :: 117 :: a :: b :: B :: d :: []) = _
      rw [esc_four]; simp [ha, hb, hd]
    · show escN (92 :: 117 :: a :: b :: c :: B :: []) = _
      rw [esc_four]; simp [ha, hb, hc]
end Go.Proofs.YtfaocpcbejgfjaaGreatDoor
namespace Go.Proofs.YtfaocpcbejgfjaaGreatDoor
open Go.RowKit Go.Sub

def OpFacts (x : List UInt8) : Prop := 0 < x.length ∧ x.length ≤ 3 ∧ operN x = x.length ∧ operN (x ++ [32]) = x.length ∧ operN (x ++ [97]) = x.length ∧ (operN (x.take 1) = 1 ∨ x = [33, 61]) ∧ operN (97 :: x) = 0
instance (x : List UInt8) : Decidable (OpFacts x) := by unfold OpFacts; infer_instance
theorem op_facts : ∀ x ∈ opsL, OpFacts x := by decide +kernel

end Go.Proofs.YtfaocpcbejgfjaaGreatDoor
namespace Go.Proofs.YtfaocpcbejgfjaaGreatDoor
open Go.RowKit Go.Sub

def opsC : List Value := opsL.map fun x => Value.string ⟨x.toArray⟩
theorem ropers_calls (w : World) :
    Calls Tryz.prog 73 #[] w fun e w' => e = .returned (.slice (some ⟨w.heap.size, 0, none⟩) 34 34) ∧ w' = w.alloc (.cells opsC.toArray 9) := by
  go_enter Tryz.func73, Tryz.ntmps73
  go_wp2
  go_ret
  exact ⟨rfl, rfl⟩
theorem ops_len : ∀ x ∈ opsL, x.length ≤ 3 := by decide +kernel
theorem pre_test (s X : ByteArray) (h : X.size ≤ s.size) : ((s.extract 0 X.size).toList == X.toList) = Lib.hasPrefix s.data.toList X.data.toList := by
  rw [Lib.toList_data, Lib.toList_data, Lib.extract_data, List.drop_zero, Nat.sub_zero, Bool.eq_iff_iff, beq_iff_eq]
  unfold Lib.hasPrefix
  rw [List.isPrefixOf_iff_prefix]
  constructor
  · intro e; rw [← e]; exact List.take_prefix _ _
  · intro e; rw [List.prefix_iff_eq_take] at e; rw [Lib.size_eq X]; exact e.symm
theorem pre_long {l x : List UInt8} (h : l.length < x.length) : Lib.hasPrefix l x = false := by
  cases hp : Lib.hasPrefix l x
  · rfl
  · have := Lib.hasPrefix_le hp; omega

set_option maxHeartbeats 1000000 in
set_option maxRecDepth 100000 in
theorem roper_calls (s : ByteArray) (w : World) (hs : s.size < 4611686018427387904) :
    Calls Tryz.prog 47 #[.string s] w fun e w' => e = .returned (.int .i64 (operN s.data.toList : Nat)) ∧ Below w.heap.size w w' := by
  have hsz := Lib.size_eq s
  have Hsz := Lib.hid hsz
  have hop := ropers_calls w
  have hb1 : (w.alloc (.cells opsC.toArray 9)).heap[w.heap.size]? = some (.cells opsC.toArray 9 (0, 0)) := World.alloc_heap_new w _
  have hB1 := (Below.refl w.heap.size w).alloc (Nat.le_refl _) (.cells opsC.toArray 9)
  generalize w.alloc (.cells opsC.toArray 9) = W1 at *
  clear hsz
  have Hop := Lib.hid hop
  have Hb := Lib.hid hb1
  clear hop hb1
  go_enter Tryz.func47, Tryz.ntmps47
  go_wp2_with (go_at_call 73; refine Hop.out.mono ?_; rintro e w' ⟨rfl, rfl⟩)
  clear Hop
  go_loopw [4] (fun i wr => ∃ k : Nat, k ≤ 34 ∧ i = .int .i64 k ∧ Hid (∀ y ∈ opsL.take k, Lib.hasPrefix s.data.toList y = false) ∧ ∃ n, wr = w'.drewN n) (fun i _ => 34 - (intOf i).toNat)
  case atStart => exact ⟨0, by omega, rfl, Lib.hid (by intro y hy; simp at hy), 0, rfl⟩
  case round =>
    obtain ⟨k, hk, rfl, Hno, n, rfl⟩ := hrel
    by_cases hlt : k < 34
    · obtain ⟨x, hx⟩ : ∃ x, opsL[k]? = some x := ⟨_, List.getElem?_eq_getElem (show k < opsL.length from hlt)⟩
      have hxl := ops_len x (List.mem_of_getElem? hx)
      obtain ⟨X, hX⟩ : ∃ X : ByteArray, (⟨x.toArray⟩ : ByteArray) = X := ⟨_, rfl⟩
      have hcell : w'.cell? ⟨w.heap.size, k, none⟩ = some (.string X) := cell_of_block Hb.out (by simp [opsC, hx, hX])
      have hXd : X.data.toList = x := by rw [← hX]
      have hXs : X.size = x.length := by rw [Lib.size_eq, hXd]
      have htake : opsL.take (k + 1) = opsL.take k ++ [x] := by rw [List.take_add_one, hx]; rfl
      have Htake := Lib.hid htake
      have HXd := Lib.hid hXd
      have HXs := Lib.hid hXs
      have hX3 : X.size ≤ 3 := by omega
      clear htake hXd hXs hX hx
      by_cases hlen : X.size ≤ s.size
      · have ht := pre_test s X hlen
        rw [HXd.out] at ht
        have hd : decide (X.size ≤ s.size) = true := decide_eq_true hlen
        cases hp : Lib.hasPrefix s.data.toList x
        · rw [hp] at ht
          have Hp := Lib.hid hp
          clear hp
          go_wp2
          go_quiet (fail)
          go_wp2
          go_roundw
          case rel => exact ⟨k + 1, by omega, by go_num, Lib.hid (by
            intro y hy
            rw [Htake.out] at hy
            rcases List.mem_append.1 hy with hy | hy
            · exact Hno.out y hy
            · simp only [List.mem_singleton] at hy; subst hy; exact Hp.out), _, rfl⟩
          case measure => simp [intOf]; omega
        · rw [hp] at ht
          have hop := operN_some s.data.toList (opsL.take k) x (by rw [← Htake.out]; exact List.take_prefix _ _) Hno.out hp
          have Hop := Lib.hid hop
          clear hp hop
          go_wp2
          go_quiet (fail)
          go_wp2
          go_ret
          exact ⟨by rw [Hop.out, ← HXs.out]; rfl, below_drewN hB1 _⟩
      · have hd : decide (X.size ≤ s.size) = false := decide_eq_false hlen
        have hp : Lib.hasPrefix s.data.toList x = false := pre_long (by rw [← Hsz.out, ← HXs.out]; omega)
        have Hp := Lib.hid hp
        clear hp
        go_wp2
        go_quiet (fail)
        go_wp2
        go_roundw
        case rel => exact ⟨k + 1, by omega, by go_num, Lib.hid (by
            intro y hy
            rw [Htake.out] at hy
            rcases List.mem_append.1 hy with hy | hy
            · exact Hno.out y hy
            · simp only [List.mem_singleton] at hy; subst hy; exact Hp.out), _, rfl⟩
        case measure => simp [intOf]; omega
    · obtain rfl : k = 34 := by omega
      have hop := operN_none s.data.toList (fun x hx => Hno.out x (by rw [List.take_of_length_le (by decide)]; exact hx))
      have Hop := Lib.hid hop
      clear hop Hno
      go_wp2
      go_ret
      exact ⟨by rw [Hop.out]; rfl, below_drewN hB1 _⟩
end Go.Proofs.YtfaocpcbejgfjaaGreatDoor
namespace Go.Proofs.YtfaocpcbejgfjaaGreatDoor
open Go.RowKit Go.Sub

def escL : List UInt8 := [34, 92, 47, 98, 102, 110, 114, 116]
theorem escPlain_nat (c : UInt8) : escPlain c = decide (c.toNat = 34 ∨ c.toNat = 92 ∨ c.toNat = 47 ∨ c.toNat = 98 ∨ c.toNat = 102 ∨ c.toNat = 110 ∨ c.toNat = 114 ∨ c.toNat = 116) :=
  beq_iff_eq.1 (u8_all (p := fun c => escPlain c == decide (c.toNat = 34 ∨ c.toNat = 92 ∨ c.toNat = 47 ∨ c.toNat = 98 ∨ c.toNat = 102 ∨ c.toNat = 110 ∨ c.toNat = 114 ∨ c.toNat = 116)) (by decide +kernel) c)
/-- none of the first k of these signs -/
def NotYet (k n : Nat) : Prop := (0 < k → n ≠ 34) ∧ (1 < k → n ≠ 92) ∧ (2 < k → n ≠ 47) ∧ (3 < k → n ≠ 98) ∧ (4 < k → n ≠ 102) ∧ (5 < k → n ≠ 110) ∧ (6 < k → n ≠ 114) ∧ (7 < k → n ≠ 116)
def escS : ByteArray := ⟨#[34, 92, 47, 98, 102, 110, 114, 116]⟩
theorem lit_cases (k : Nat) (h : k < escS.size) : (k = 0 ∧ escS[k].toNat = 34) ∨ (k = 1 ∧ escS[k].toNat = 92) ∨ (k = 2 ∧ escS[k].toNat = 47) ∨ (k = 3 ∧ escS[k].toNat = 98) ∨ (k = 4 ∧ escS[k].toNat = 102) ∨ (k = 5 ∧ escS[k].toNat = 110) ∨ (k = 6 ∧ escS[k].toNat = 114) ∨ (k = 7 ∧ escS[k].toNat = 116) := by
  have h8 : k < 8 := h
  have hks : k = 0 ∨ k = 1 ∨ k = 2 ∨ k = 3 ∨ k = 4 ∨ k = 5 ∨ k = 6 ∨ k = 7 := by omega
  rcases hks with rfl | rfl | rfl | rfl | rfl | rfl | rfl | rfl <;> decide +revert
theorem lit_hit {k : Nat} (h : k < escS.size) {b : UInt8} (e : ((escS[k].toNat : Int) == (b.toNat : Int)) = true) : escPlain b = true := by
  rw [beq_iff_eq] at e
  rw [escPlain_nat, decide_eq_true_eq]
  have := lit_cases k h
  omega
theorem lit_miss {k n : Nat} (h : k < escS.size) (e : ((escS[k].toNat : Int) == (n : Int)) = false) (hn : NotYet k n) : NotYet (k + 1) n := by
  rw [beq_eq_false_iff_ne] at e
  have := lit_cases k h
  unfold NotYet at *
  omega
theorem esc_not {s : ByteArray} (h : 2 ≤ s.size) (h0 : (s[0] == 92) = false) : escN s.data.toList = 0 := by
  rw [cons2_of s h]
  show (if s[0] == 92 then _ else 0) = 0
  rw [if_neg (by rw [h0]; simp)]
theorem esc_short {s : ByteArray} (h : ¬ 2 ≤ s.size) : escN s.data.toList = 0 := by
  rw [Lib.size_eq] at h
  match s.data.toList, h with
  | [], _ => rfl
  | [_], _ => rfl
  | _ :: _ :: _, h => simp at h
theorem esc_plain {s : ByteArray} (h : 2 ≤ s.size) (h0 : (s[0] == 92) = true) (h1 : escPlain s[1] = true) : escN s.data.toList = 2 := by
  rw [cons2_of s h]
  show (if s[0] == 92 then (if escPlain s[1] then 2 else _) else 0) = 2
  rw [if_pos h0, if_pos h1]
theorem esc_rest {s : ByteArray} (h : 2 ≤ s.size) (h0 : (s[0] == 92) = true) (h1 : escPlain s[1] = false) : escN s.data.toList = if s[1] == 117 && runOf isHex ((s.data.toList.drop 2).take 4) == 4 then 6 else 0 := by
  rw [cons2_of s h]
  show (if s[0] == 92 then (if escPlain s[1] then 2 else if s[1] == 117 && runOf isHex ((s.data.toList.drop 2).take 4) == 4 then 6 else 0) else 0) = _
  rw [if_pos h0, if_neg (by rw [h1]; simp)]
  rfl
theorem hex_four {s : ByteArray} (h : 6 ≤ s.size) : (runOf isHex ((s.data.toList.drop 2).take 4) == 4) = (isHex s[2] && (isHex s[3] && (isHex s[4] && isHex s[5]))) := by
  have e : (s.data.toList.drop 2).take 4 = [s[2], s[3], s[4], s[5]] := by
    have hl : 6 ≤ s.data.toList.length := by rw [← Lib.size_eq]; exact h
    rw [List.drop_eq_getElem_cons (by omega), List.drop_eq_getElem_cons (by omega), List.drop_eq_getElem_cons (by omega), List.drop_eq_getElem_cons (by omega)]
    rfl
  rw [e]
  unfold runOf
  cases ha : isHex s[2] <;> cases hb : isHex s[3] <;> cases hc : isHex s[4] <;> cases hd : isHex s[5] <;> simp [ha, hb, hc, hd]
theorem hex_less {s : ByteArray} (h : ¬ 6 ≤ s.size) : (runOf isHex ((s.data.toList.drop 2).take 4) == 4) = false := by
  have h1 := runOf_le isHex ((s.data.toList.drop 2).take 4)
  rw [List.length_take, List.length_drop, ← Lib.size_eq] at h1
  rw [beq_eq_false_iff_ne]; omega

set_option maxHeartbeats 2000000 in
set_option maxRecDepth 20000 in
theorem rescape_calls (s : ByteArray) (w : World) (hs : s.size < 4611686018427387904) :
    Calls Tryz.prog 39 #[.string s] w fun e w' => e = .returned (.int .i64 (escN s.data.toList : Nat)) ∧ Below w.heap.size w w' := by
  by_cases hlt : 2 ≤ s.size
  · cases h0 : (s[0] == 92)
    · have He := Lib.hid (esc_not hlt h0)
      have y1 : ((s[0].toNat : Int) != 92) = true := byte_bne 92 h0
      have y2 : ((s[0].toNat : Int) = 92) = False := byte_ne 92 h0
      clear h0
      go_enter Tryz.func39, Tryz.ntmps39
      go_wp2
      go_ret
      exact ⟨by rw [He.out]; rfl, Below.refl _ _⟩
    · have H0 := Lib.hid h0
      have y1 : ((s[0].toNat : Int) != 92) = false := by rw [eq_of_beq h0]; rfl
      clear h0
      go_enter Tryz.func39, Tryz.ntmps39
      go_wp2
      go_loopw [3] (fun i wr => ∃ k : Nat, k ≤ 8 ∧ i = .int .i64 k ∧ Hid (NotYet k s[1].toNat) ∧ ∃ n, wr = w.drewN n) (fun i _ => 8 - (intOf i).toNat)
      case atStart => exact ⟨0, by omega, rfl, Lib.hid (by unfold NotYet; omega), 0, rfl⟩
      case round =>
        obtain ⟨k, hk, rfl, Hno, n, rfl⟩ := hrel
        clear y1
        have hB := below_drewN (Below.refl w.heap.size w) n
        have l1 : 1 < s.size := by omega
        have l2 : (1 : Int) < (s.size : Int) := by omega
        by_cases hk8 : k < 8
        · go_wp2
          go_quiet (fail)
          go_wp2
          · have hc : ((escS[k].toNat : Int) == (s[1].toNat : Int)) = true := by assumption
            have He := esc_plain hlt H0.out (lit_hit hk8 hc)
            go_ret
            exact ⟨by rw [He]; rfl, below_drewN hB _⟩
          · have hc : ((escS[k].toNat : Int) == (s[1].toNat : Int)) = false := by assumption
            go_roundw
            case rel => exact ⟨k + 1, by omega, by go_num, Lib.hid (lit_miss hk8 hc Hno.out), _, rfl⟩
            case measure => simp [intOf]; omega
        · obtain rfl : k = 8 := by omega
          have hp : escPlain s[1] = false := by rw [escPlain_nat, decide_eq_false_iff_not]; have := Hno.out; unfold NotYet at this; omega
          have he := esc_rest hlt H0.out hp
          clear hp Hno
          by_cases h6 : 6 ≤ s.size
          · rw [hex_four h6] at he
            cases hu : (s[1] == 117)
            · have y1 : ((s[1].toNat : Int) != 117) = true := byte_bne 117 hu
              have y2 : ((s[1].toNat : Int) = 117) = False := byte_ne 117 hu
              rw [hu] at he
              have He := Lib.hid he
              clear hu he
              go_wp2
              go_ret
              exact ⟨by rw [He.out]; rfl, hB⟩
            · have y1 : ((s[1].toNat : Int) != 117) = false := by rw [eq_of_beq hu]; rfl
              rw [hu] at he
              clear hu
              have H2 := rhex_calls s[2]
              have H3 := rhex_calls s[3]
              have H4 := rhex_calls s[4]
              have H5 := rhex_calls s[5]
              generalize isHex s[2] = x2 at *
              generalize isHex s[3] = x3 at *
              generalize isHex s[4] = x4 at *
              generalize isHex s[5] = x5 at *
              replace H2 := Lib.hid H2
              replace H3 := Lib.hid H3
              replace H4 := Lib.hid H4
              replace H5 := Lib.hid H5
              replace he := Lib.hid he
              cases x2
              · go_wp2_with (go_at_call 69; (first | with_reducible refine (H2.out _).mono ?_ | with_reducible refine (H3.out _).mono ?_ | with_reducible refine (H4.out _).mono ?_ | with_reducible refine (H5.out _).mono ?_); rintro e w' ⟨rfl, hw⟩; subst hw) 
                go_ret 
                exact ⟨by rw [he.out]; rfl, hB⟩
              · cases x3
                · go_wp2_with (go_at_call 69; (first | with_reducible refine (H2.out _).mono ?_ | with_reducible refine (H3.out _).mono ?_ | with_reducible refine (H4.out _).mono ?_ | with_reducible refine (H5.out _).mono ?_); rintro e w' ⟨rfl, hw⟩; subst hw) 
                  go_ret 
                  exact ⟨by rw [he.out]; rfl, hB⟩
                · cases x4
                  · go_wp2_with (go_at_call 69; (first | with_reducible refine (H2.out _).mono ?_ | with_reducible refine (H3.out _).mono ?_ | with_reducible refine (H4.out _).mono ?_ | with_reducible refine (H5.out _).mono ?_); rintro e w' ⟨rfl, hw⟩; subst hw) 
                    go_ret 
                    exact ⟨by rw [he.out]; rfl, hB⟩
                  · cases x5
                    · go_wp2_with (go_at_call 69; (first | with_reducible refine (H2.out _).mono ?_ | with_reducible refine (H3.out _).mono ?_ | with_reducible refine (H4.out _).mono ?_ | with_reducible refine (H5.out _).mono ?_); rintro e w' ⟨rfl, hw⟩; subst hw) 
                      go_ret 
                      exact ⟨by rw [he.out]; rfl, hB⟩
                    · go_wp2_with (go_at_call 69; (first | with_reducible refine (H2.out _).mono ?_ | with_reducible refine (H3.out _).mono ?_ | with_reducible refine (H4.out _).mono ?_ | with_reducible refine (H5.out _).mono ?_); rintro e w' ⟨rfl, hw⟩; subst hw) 
                      go_ret 
                      exact ⟨by rw [he.out]; rfl, hB⟩
          · rw [hex_less h6] at he
            rw [Bool.and_false] at he
            have He := Lib.hid he
            clear he
            cases hu : (s[1] == 117)
            · have y1 : ((s[1].toNat : Int) != 117) = true := byte_bne 117 hu
              have y2 : ((s[1].toNat : Int) = 117) = False := byte_ne 117 hu
              clear hu
              go_wp2
              go_ret
              exact ⟨by rw [He.out]; rfl, hB⟩
            · have y1 : ((s[1].toNat : Int) != 117) = false := by rw [eq_of_beq hu]; rfl
              clear hu
              go_wp2
              go_ret
              exact ⟨by rw [He.out]; rfl, hB⟩
  · have He := Lib.hid (esc_short hlt)
    go_enter Tryz.func39, Tryz.ntmps39
    go_wp2
    go_ret
    exact ⟨by rw [He.out]; rfl, Below.refl _ _⟩
end Go.Proofs.YtfaocpcbejgfjaaGreatDoor
namespace Go.Proofs.YtfaocpcbejgfjaaGreatDoor
open Go.RowKit Go.Sub

/-- nothing follows, or a blank -/
def Behind (T : List UInt8) : Prop := ∀ b, T[0]? = some b → b = 32
theorem behind_nil : Behind [] := fun b h => by simp at h
theorem behind_blank (r : List UInt8) : Behind (32 :: r) := fun b h => by simp at h; exact h.symm
def HeadNot (p : UInt8 → Bool) (T : List UInt8) : Prop := ∀ b, T[0]? = some b → p b = false
theorem head_cut {p : UInt8 → Bool} {U T : List UInt8} (k : Nat) (hU : HeadNot p U) (hT : Behind T) (hp : p 32 = false) : HeadNot p (U.take k ++ T) := by
  intro b hb
  match k, U with
  | 0, _ => rw [List.take_zero, List.nil_append] at hb; rw [hT b hb]; exact hp
  | k + 1, [] => rw [List.take_nil, List.nil_append] at hb; rw [hT b hb]; exact hp
  | k + 1, u :: r => exact hU b (by simpa using hb)
theorem run_apps {p : UInt8 → Bool} {A : List UInt8} (R : List UInt8) (hA : ∀ b ∈ A, p b = true) : runOf p (A ++ R) = A.length + runOf p R := by
  induction A with
  | nil => simp
  | cons b t ih =>
    have h1 : p b = true := hA b List.mem_cons_self
    have h2 := ih (fun x hx => hA x (List.mem_cons_of_mem _ hx))
    unfold runOf at h2 ⊢
    rw [List.cons_append, List.takeWhile_cons, if_pos h1]
    simp only [List.length_cons]; omega
theorem run_head {p : UInt8 → Bool} {R : List UInt8} (h : HeadNot p R) : runOf p R = 0 := by
  match R with
  | [] => rfl
  | b :: r => unfold runOf; rw [List.takeWhile_cons, if_neg (by rw [h b rfl]; simp)]; rfl
theorem run_ends {p : UInt8 → Bool} {A R : List UInt8} (hA : ∀ b ∈ A, p b = true) (hR : HeadNot p R) : runOf p (A ++ R) = A.length := by
  rw [run_apps R hA, run_head hR]; rfl
theorem split_run (p : UInt8 → Bool) : ∀ l : List UInt8, ∃ A R, l = A ++ R ∧ (∀ b ∈ A, p b = true) ∧ HeadNot p R
  | [] => ⟨[], [], rfl, fun b h => by simp at h, fun b h => by simp at h⟩
  | b :: r => by
    cases h : p b
    · exact ⟨[], b :: r, rfl, fun x h => by simp at h, fun x hx => by simp at hx; rw [← hx]; exact h⟩
    · obtain ⟨A, R, rfl, hA, hR⟩ := split_run p r
      exact ⟨b :: A, R, rfl, fun x hx => by
        rcases List.mem_cons.1 hx with rfl | hx
        · exact h
        · exact hA x hx, hR⟩
theorem take_app {A R : List UInt8} (k : Nat) : (A ++ R).take (A.length + k) = A ++ R.take k := by
  rw [List.take_append, List.take_of_length_le (by omega)]; congr 2; omega

/- numbers -/
theorem power_behind {T : List UInt8} (hT : Behind T) : powerN T = 0 := by
  match T with
  | [] => rfl
  | b :: r =>
    have := hT b rfl
    subst this
    rfl
theorem num_behind {T : List UInt8} (hT : Behind T) : numberN T = 0 := by
  match T with
  | [] => rfl
  | b :: r =>
    have := hT b rfl
    subst this
    exact num_other 32 r (by decide) (by decide)
theorem sign_split (r : List UInt8) : ∃ g, r = g ++ signOff r ∧ (g = [] ∨ g = [43] ∨ g = [45]) := by
  match r with
  | [] => exact ⟨[], rfl, .inl rfl⟩
  | b :: t =>
    by_cases h : b = 43
    · subst h; exact ⟨[43], rfl, .inr (.inl rfl)⟩
    · by_cases h5 : b = 45
      · subst h5; exact ⟨[45], rfl, .inr (.inr rfl)⟩
      · refine ⟨[], ?_, .inl rfl⟩
        show _ = if b == 43 || b == 45 then t else b :: t
        rw [if_neg (by simp [h, h5])]
theorem sign_off {g P U : List UInt8} (hg : g = [] ∨ g = [43] ∨ g = [45]) (hP : ∀ b ∈ P, isDigit b = true) (h0 : P ≠ []) : signOff (g ++ (P ++ U)) = P ++ U := by
  rcases hg with rfl | rfl | rfl
  · match P with
    | [] => exact absurd rfl h0
    | p :: q =>
      have hp : isDigit p = true := hP p List.mem_cons_self
      show (if p == 43 || p == 45 then q ++ U else p :: (q ++ U)) = _
      rw [if_neg]; · rfl
      intro h
      rcases Bool.or_eq_true _ _ ▸ h with h | h
      · rw [eq_of_beq h] at hp; exact absurd hp (by decide)
      · rw [eq_of_beq h] at hp; exact absurd hp (by decide)
  · rfl
  · rfl
theorem pow_of {b : UInt8} {g P U : List UInt8} (hb : (b == 101 || b == 69) = true) (hg : g = [] ∨ g = [43] ∨ g = [45]) (hP : ∀ b ∈ P, isDigit b = true) (h0 : P ≠ []) (hU : HeadNot isDigit U) : powerN (b :: (g ++ (P ++ U))) = 1 + (g.length + P.length) := by
  have h1 : P.length ≠ 0 := fun h => h0 (List.length_eq_zero_iff.1 h)
  show (if b == 101 || b == 69 then (if runOf isDigit (signOff (g ++ (P ++ U))) = 0 then 0 else (b :: (g ++ (P ++ U))).length - (signOff (g ++ (P ++ U))).length + runOf isDigit (signOff (g ++ (P ++ U)))) else 0) = _
  rw [if_pos hb, sign_off hg hP h0, run_ends hP hU, if_neg h1]
  simp only [List.length_cons, List.length_append]; omega
theorem pow_cut (C T : List UInt8) (hT : Behind T) : powerN (C.take (powerN C) ++ T) = powerN C := by
  match C with
  | [] => rw [List.take_nil]; exact power_behind hT
  | b :: r =>
    cases hb : (b == 101 || b == 69)
    · have h0 : powerN (b :: r) = 0 := by
        show (if b == 101 || b == 69 then _ else 0) = 0
        rw [if_neg (by rw [hb]; simp)]
      rw [h0]; exact power_behind hT
    · obtain ⟨g, hg, hgs⟩ := sign_split r
      obtain ⟨P, U, hPU, hP, hU⟩ := split_run isDigit (signOff r)
      by_cases h0 : P = []
      · have h1 : powerN (b :: r) = 0 := by
          show (if b == 101 || b == 69 then (if runOf isDigit (signOff r) = 0 then 0 else _) else 0) = 0
          rw [if_pos hb, if_pos (by rw [hPU, h0]; exact run_head hU)]
        rw [h1]; exact power_behind hT
      · rw [hPU] at hg
        have e := pow_of hb hgs hP h0 hU
        rw [hg, e]
        have e2 : (b :: (g ++ (P ++ U))).take (1 + (g.length + P.length)) ++ T = b :: (g ++ (P ++ T)) := by
          rw [Nat.add_comm 1, List.take_succ_cons, take_app, show P.length = P.length + 0 from rfl, take_app]; simp
        rw [e2]
        exact pow_of hb hgs hP h0 (fun x hx => by rw [hT x hx]; rfl)
theorem num_dots {A B C : List UInt8} (hA : ∀ b ∈ A, isDigit b = true) (hB : ∀ b ∈ B, isDigit b = true) (h0 : A.length + B.length ≠ 0) (hC : HeadNot isDigit C) : numberN (A ++ 46 :: (B ++ C)) = A.length + (1 + (B.length + powerN C)) := by
  have hr : runOf isDigit (A ++ 46 :: (B ++ C)) = A.length := run_ends hA (fun b h => by simp at h; subst h; rfl)
  have hd : (A ++ 46 :: (B ++ C)).drop (A.length + 1) = B ++ C := by
    rw [← List.drop_drop, List.drop_left]; rfl
  have hm : mantN (A ++ 46 :: (B ++ C)) = A.length + (1 + B.length) := by
    unfold mantN
    rw [hr, if_pos (by rw [List.getElem?_append_right (Nat.le_refl _), Nat.sub_self]; rfl), hd, run_ends hB hC, if_neg h0]
  have hd2 : (A ++ 46 :: (B ++ C)).drop (A.length + (1 + B.length)) = C := by
    rw [← Nat.add_assoc, ← List.drop_drop, hd, List.drop_left]
  unfold numberN
  rw [hm, if_neg (by omega), hd2]; omega
theorem num_cut (s T : List UInt8) (hT : Behind T) : numberN (s.take (numberN s) ++ T) = numberN s := by
  obtain ⟨A, R, rfl, hA, hR⟩ := split_run isDigit s
  by_cases h46 : R[0]? = some 46
  · obtain ⟨R', rfl⟩ : ∃ R', R = 46 :: R' := by
      match R with
      | [] => simp at h46
      | b :: r => simp at h46; exact ⟨r, by rw [h46]⟩
    obtain ⟨B, C, rfl, hB, hC⟩ := split_run isDigit R'
    by_cases h0 : A.length + B.length = 0
    · obtain rfl := List.length_eq_zero_iff.1 (show A.length = 0 by omega)
      obtain rfl := List.length_eq_zero_iff.1 (show B.length = 0 by omega)
      have h1 : numberN ([] ++ 46 :: ([] ++ C)) = 0 := by
        have hr : runOf isDigit (46 :: C) = 0 := run_head (fun b h => by simp at h; subst h; rfl)
        have hm : mantN (46 :: C) = 0 := by
          unfold mantN
          rw [hr, if_pos (show (46 :: C)[0]? = some 46 from rfl), if_pos]
          rw [show (46 :: C).drop (0 + 1) = C from rfl, run_head hC]
        show numberN (46 :: C) = 0
        unfold numberN; rw [if_pos hm]
      rw [h1]; exact num_behind hT
    · rw [num_dots hA hB h0 hC]
      have e2 : (A ++ 46 :: (B ++ C)).take (A.length + (1 + (B.length + powerN C))) ++ T = A ++ 46 :: (B ++ (C.take (powerN C) ++ T)) := by
        rw [take_app, Nat.add_comm 1, List.take_succ_cons, take_app]; simp
      rw [e2, num_dots hA hB h0 (head_cut _ hC hT rfl), pow_cut C T hT]
  · by_cases h0 : A = []
    · subst h0
      have h1 : numberN ([] ++ R) = 0 := by
        have hm : mantN R = 0 := by unfold mantN; rw [run_head hR, if_neg h46]
        show numberN R = 0
        unfold numberN; rw [if_pos hm]
      rw [h1]; exact num_behind hT
    · have hR2 : ∀ b, R[0]? = some b → isDigit b = false ∧ b ≠ 46 := fun b h => ⟨hR b h, fun e => h46 (e ▸ h)⟩
      rw [num_whole A R hA h0 hR2, take_app, List.append_assoc, num_whole A _ hA h0, pow_cut R T hT]
      intro b hb
      refine ⟨head_cut _ hR hT rfl b hb, ?_⟩
      have h2 : (fun x : UInt8 => x == 46) b = false := head_cut (p := fun x => x == 46) _ (fun x hx => by simpa using (hR2 x hx).2) hT rfl b hb
      simpa using h2
/- words -/
theorem simple_behind {T : List UInt8} (hT : Behind T) : simpleN T = 0 := by
  match T with
  | [] => rfl
  | b :: r =>
    have := hT b rfl
    subst this
    rfl
theorem simple_of {A R : List UInt8} (hA : ∀ b ∈ A, isPart b = true) (hR : HeadNot isPart R) (hl : ∀ b, A[0]? = some b → isLetter b = true) : simpleN (A ++ R) = A.length := by
  match A with
  | [] =>
    match R with
    | [] => rfl
    | b :: r =>
      show (if isLetter b then _ else 0) = 0
      have h := hR b rfl
      rw [if_neg]
      intro h2
      unfold isPart at h; rw [h2] at h; simp at h
  | a :: A =>
    show (if isLetter a then runOf isPart (a :: A ++ R) else 0) = _
    rw [if_pos (hl a rfl), run_ends hA hR]
/-- how a text begins with a simple name -/
theorem simple_split (l : List UInt8) : simpleN l = 0 ∨ ∃ A R, l = A ++ R ∧ A ≠ [] ∧ (∀ b ∈ A, isPart b = true) ∧ HeadNot isPart R ∧ (∀ b, A[0]? = some b → isLetter b = true) := by
  match l with
  | [] => exact .inl rfl
  | a :: r =>
    cases ha : isLetter a
    · refine .inl ?_
      show (if isLetter a then _ else 0) = 0
      rw [if_neg (by rw [ha]; simp)]
    · obtain ⟨A, R, rfl, hA, hR⟩ := split_run isPart r
      refine .inr ⟨a :: A, R, rfl, by simp, fun x hx => ?_, hR, fun b hb => by simp at hb; rw [← hb]; exact ha⟩
      rcases List.mem_cons.1 hx with rfl | hx
      · unfold isPart; rw [ha]; rfl
      · exact hA x hx
theorem more_behind {T : List UInt8} (hT : Behind T) : moreN T = 0 := by
  refine moreN_miss T ?_
  match T with
  | [] => rfl
  | b :: r =>
    have := hT b rfl
    subst this
    rfl
theorem more_of {A X : List UInt8} (hA : ∀ b ∈ A, isPart b = true) (h0 : A ≠ []) (hX : HeadNot isPart X) (hl : ∀ b, A[0]? = some b → isLetter b = true) : moreN (58 :: 58 :: (A ++ X)) = 2 + A.length + moreN X := by
  have hs := simple_of hA hX hl
  rw [moreN_hit (58 :: 58 :: (A ++ X)) A.length (by simp [Lib.hasPrefix, List.isPrefixOf]) hs (fun h => h0 (List.length_eq_zero_iff.1 h))]
  congr 2
  show (58 :: 58 :: (A ++ X)).drop (2 + A.length) = X
  rw [← List.drop_drop]
  exact List.drop_left
theorem more_cut (T : List UInt8) (hT : Behind T) : ∀ k (l : List UInt8), l.length ≤ k → moreN (l.take (moreN l) ++ T) = moreN l := by
  intro k
  induction k with
  | zero =>
    intro l h
    obtain rfl := List.length_eq_zero_iff.1 (show l.length = 0 by omega)
    rw [List.take_nil, List.nil_append, more_behind hT, more_behind behind_nil]
  | succ k ih =>
    intro l hk
    cases hp : Lib.hasPrefix l [58, 58]
    · rw [moreN_miss l hp]; exact more_behind hT
    · obtain ⟨r, rfl⟩ : ∃ r, l = 58 :: 58 :: r := by
        unfold Lib.hasPrefix at hp
        obtain ⟨r, hr⟩ := List.isPrefixOf_iff_prefix.1 hp
        exact ⟨r, hr.symm⟩
      rcases simple_split r with h0 | ⟨A, R, rfl, h0, hA, hR, hl⟩
      · rw [moreN_none _ hp h0]; exact more_behind hT
      · rw [more_of hA h0 hR hl]
        have e2 : (58 :: 58 :: (A ++ R)).take (2 + A.length + moreN R) ++ T = 58 :: 58 :: (A ++ (R.take (moreN R) ++ T)) := by
          rw [show 2 + A.length + moreN R = (A.length + moreN R) + 1 + 1 by omega, List.take_succ_cons, List.take_succ_cons, take_app]; simp
        rw [e2, more_of hA h0 (head_cut _ hR hT (by decide)) hl, ih R (by simp only [List.length_cons, List.length_append] at hk; omega)]
theorem word_cut (s T : List UInt8) (hT : Behind T) : wordN (s.take (wordN s) ++ T) = wordN s := by
  rcases simple_split s with h0 | ⟨A, R, rfl, h0, hA, hR, hl⟩
  · have h1 : wordN s = 0 := by unfold wordN; rw [if_pos h0]
    rw [h1]
    show wordN T = 0
    unfold wordN; rw [if_pos (simple_behind hT)]
  · have key : ∀ X, HeadNot isPart X → wordN (A ++ X) = A.length + moreN X := fun X hX => by
      have hs := simple_of hA hX hl
      unfold wordN
      rw [hs, if_neg (fun h => h0 (List.length_eq_zero_iff.1 h)), List.drop_left]
    rw [key R hR, take_app, List.append_assoc, key _ (head_cut _ hR hT (by decide)), more_cut T hT _ R (Nat.le_refl _)]
/- escapes, operators -/
theorem esc_cut (s : List UInt8) : escN (s.take (escN s)) = escN s := by
  match s with
  | [] => rfl
  | [a] => rfl
  | a :: c :: r =>
    have e : ∀ r, escN (a :: c :: r) = if a == 92 then (if escPlain c then 2 else if c == 117 && runOf isHex (r.take 4) == 4 then 6 else 0) else 0 := fun _ => rfl
    cases ha : a == 92
    · rw [e, if_neg (by rw [ha]; simp)]; rfl
    · cases hc : escPlain c
      · cases hu : (c == 117 && runOf isHex (r.take 4) == 4)
        · rw [e, if_pos ha, if_neg (by rw [hc]; simp), if_neg (by rw [hu]; simp)]; rfl
        · rw [e r, if_pos ha, if_neg (by rw [hc]; simp), if_pos hu]
          show escN (a :: c :: r.take 4) = 6
          rw [e, if_pos ha, if_neg (by rw [hc]; simp), List.take_take, Nat.min_self, if_pos hu]
      · rw [e r, if_pos ha, if_pos hc]
        show escN (a :: c :: []) = 2
        rw [e, if_pos ha, if_pos hc]
theorem oper_split (s : List UInt8) : operN s = 0 ∨ ∃ x ∈ opsL, operN s = x.length ∧ s.take x.length = x ∧ x.length ≤ s.length := by
  unfold operN
  cases h : opsL.find? fun o => Lib.hasPrefix s o with
  | none => exact .inl rfl
  | some x =>
    have h1 := List.find?_some h
    have h2 := List.mem_of_find?_eq_some h
    unfold Lib.hasPrefix at h1
    obtain ⟨r, hr⟩ := List.isPrefixOf_iff_prefix.1 h1
    refine .inr ⟨x, h2, rfl, ?_, ?_⟩
    · rw [← hr, List.take_left]
    · rw [← hr, List.length_append]; omega
theorem oper_cut (s : List UInt8) : operN (s.take (operN s)) = operN s := by
  rcases oper_split s with h | ⟨x, hx, h, ht, _⟩
  · rw [h]; rfl
  · rw [h, ht]; exact (op_facts x hx).2.2.1
theorem oper_le (s : List UInt8) : operN s ≤ s.length := by
  rcases oper_split s with h | ⟨x, hx, h, ht, hl⟩ <;> omega
end Go.Proofs.YtfaocpcbejgfjaaGreatDoor
namespace Go.Proofs.YtfaocpcbejgfjaaGreatDoor
open Go.RowKit Go.Sub

theorem rsimple_ext (s : ByteArray) (k : Nat) (hs : s.size < 4611686018427387904) (w : World) :
    Calls Tryz.prog 70 #[.string (s.extract k s.size)] w fun e w' => e = .returned (.int .i64 (simpleN (s.data.toList.drop k) : Nat)) ∧ w' = w := by
  have := rsimple_calls (s.extract k s.size) w (ext_lt _ _ _ hs)
  rwa [ext_data] at this
theorem rdigits_ext (s : ByteArray) (k : Nat) (hs : s.size < 4611686018427387904) (w : World) :
    Calls Tryz.prog 72 #[.string (s.extract k s.size)] w fun e w' => e = .returned (.int .i64 (runOf isDigit (s.data.toList.drop k) : Nat)) ∧ w' = w := by
  have := rdigits_calls (s.extract k s.size) w (ext_lt _ _ _ hs)
  rwa [ext_data] at this
theorem colons_spec (s : ByteArray) (n : Nat) (h : n + 2 < s.size) : ((s.extract n (n + 2)).toList == [58, 58]) = Lib.hasPrefix (s.data.toList.drop n) [58, 58] := by
  rw [Lib.toList_data, Lib.extract_data, Nat.add_sub_cancel_left]
  have hl : 2 < (s.data.toList.drop n).length := by rw [List.length_drop, ← Lib.size_eq]; omega
  generalize s.data.toList.drop n = l at hl
  match l, hl with
  | a :: b :: r, _ =>
    show ([a, b] == [58, 58]) = _
    unfold Lib.hasPrefix
    rw [Bool.eq_iff_iff, beq_iff_eq, List.isPrefixOf_iff_prefix]
    constructor
    · intro h
      injection h with h1 h
      injection h with h2 _
      subst h1; subst h2
      exact ⟨r, rfl⟩
    · rintro ⟨t, ht⟩
      injection ht with h1 ht
      injection ht with h2 _
      subst h1; subst h2
      rfl
theorem more_short (l : List UInt8) (h : l.length ≤ 2) : moreN l = 0 := by
  cases hp : Lib.hasPrefix l [58, 58]
  · exact moreN_miss l hp
  · refine moreN_none l hp ?_
    rw [List.drop_eq_nil_of_le h]; rfl

set_option maxHeartbeats 1000000 in
set_option maxRecDepth 20000 in
theorem rword_calls (s : ByteArray) (w : World) (hs : s.size < 4611686018427387904) :
    Calls Tryz.prog 43 #[.string s] w fun e w' => e = .returned (.int .i64 (wordN s.data.toList : Nat)) ∧ w' = w := by
  have hsz := Lib.size_eq s
  have hle := simpleN_le s.data.toList
  have h1 : (simpleN s.data.toList = 0 ∧ wordN s.data.toList = 0) ∨ (0 < simpleN s.data.toList ∧ simpleN s.data.toList + moreN (s.data.toList.drop (simpleN s.data.toList)) = wordN s.data.toList) := by
    unfold wordN
    by_cases h : simpleN s.data.toList = 0
    · left; rw [if_pos h]; exact ⟨h, rfl⟩
    · right; rw [if_neg h]; exact ⟨by omega, rfl⟩
  have hsim := rsimple_calls s w hs
  rw [← hsz] at hle
  generalize simpleN s.data.toList = k0 at *
  have Hsim := Lib.hid hsim
  have H1 := Lib.hid h1
  have Hsz := Lib.hid hsz
  clear hsim h1 hsz
  go_enter Tryz.func43, Tryz.ntmps43
  go_wp2_with (go_at_call 70; refine Hsim.out.mono ?_; rintro e w' ⟨rfl, rfl⟩)
  clear Hsim
  go_loopw [3] (fun i wr => ∃ n : Nat, n ≤ s.size ∧ i = .int .i64 n ∧ Hid ((n = 0 ∧ wordN s.data.toList = 0) ∨ (0 < n ∧ n + moreN (s.data.toList.drop n) = wordN s.data.toList)) ∧ wr = w') (fun i _ => s.size - (intOf i).toNat)
  case atStart => exact ⟨k0, hle, rfl, H1, rfl⟩
  case round =>
    clear H1
    obtain ⟨n, hn, rfl, Hrun, rfl⟩ := hrel
    by_cases h0 : n = 0
    · have he : wordN s.data.toList = 0 := (Hrun.out.elim (fun h => h.2) fun h => absurd h0 (by have := h.1; omega))
      subst h0
      have He := Lib.hid he
      clear he
      go_wp2
      go_ret
      exact ⟨by rw [He.out]; rfl, rfl⟩
    · have hpos : 0 < n := by omega
      have hrun : n + moreN (s.data.toList.drop n) = wordN s.data.toList := (Hrun.out.resolve_left fun h => h0 h.1).2
      have Hr := Lib.hid hrun
      clear hrun Hrun h0
      by_cases h2 : n + 2 < s.size
      · have hcs := colons_spec s n h2
        cases hp : Lib.hasPrefix (s.data.toList.drop n) [58, 58]
        · rw [hp] at hcs
          have hm := moreN_miss _ hp
          have Hm := Lib.hid hm
          clear hm hp
          go_wp2
          go_ret
          refine ⟨ret_nat ?_, rfl⟩
          have := Hr.out; rw [Hm.out] at this; exact this
        · rw [hp] at hcs
          have hk := rsimple_ext s (n + 2) hs
          have hkl := simpleN_le (s.data.toList.drop (n + 2))
          rw [List.length_drop, ← Lib.size_eq] at hkl
          have hm0 : simpleN (s.data.toList.drop (n + 2)) = 0 → moreN (s.data.toList.drop n) = 0 := fun h => moreN_none _ hp (by rw [List.drop_drop]; exact h)
          have hm1 : simpleN (s.data.toList.drop (n + 2)) ≠ 0 → moreN (s.data.toList.drop n) = 2 + simpleN (s.data.toList.drop (n + 2)) + moreN (s.data.toList.drop (n + (2 + simpleN (s.data.toList.drop (n + 2))))) := fun h => by
            rw [moreN_hit (s.data.toList.drop n) _ hp (by rw [List.drop_drop]) h, List.drop_drop]
          generalize simpleN (s.data.toList.drop (n + 2)) = k at *
          have Hk := Lib.hid hk
          have Hm0 := Lib.hid hm0
          have Hm1 := Lib.hid hm1
          clear hk hm0 hm1 hp
          by_cases hk0 : k = 0
          · subst hk0
            go_wp2_with (go_at_call 70; refine (Hk.out _).mono ?_; rintro e w' ⟨rfl, rfl⟩)
            go_ret
            refine ⟨ret_nat ?_, rfl⟩
            have := Hr.out; rw [Hm0.out trivial] at this; exact this
          · have hkp : 0 < k := by omega
            go_wp2_with (go_at_call 70; refine (Hk.out _).mono ?_; rintro e w' ⟨rfl, rfl⟩)
            go_roundw
            case rel => exact ⟨n + (2 + k), by omega, by go_num, Lib.hid (.inr ⟨by omega, by have := Hr.out; rw [Hm1.out hk0] at this; omega⟩), trivial⟩
            case measure => simp [intOf]; omega
      · have hm := more_short (s.data.toList.drop n) (by rw [List.length_drop, ← Hsz.out]; omega)
        have Hm := Lib.hid hm
        clear hm
        go_wp2
        go_ret
        refine ⟨ret_nat ?_, rfl⟩
        have := Hr.out; rw [Hm.out] at this; exact this
end Go.Proofs.YtfaocpcbejgfjaaGreatDoor
namespace Go.Proofs.YtfaocpcbejgfjaaGreatDoor
open Go.RowKit Go.Sub

theorem drop_get (l : List UInt8) (m : Nat) (b : UInt8) (h : l[m]? = some b) : l.drop m = b :: l.drop (m + 1) := by
  obtain ⟨hn, rfl⟩ := List.getElem?_eq_some_iff.1 h
  exact List.drop_eq_getElem_cons hn
theorem pow_tail (l : List UInt8) (m k q : Nat) (b : UInt8) (hb : l[m]? = some b) (he : (b == 101 || b == 69) = true) (hk : signOff (l.drop (m + 1)) = l.drop k) (hmk : m < k) (hkl : k ≤ l.length) (hq : runOf isDigit (l.drop k) = q) : m + powerN (l.drop m) = if q = 0 then m else k + q := by
  have hl := List.getElem?_eq_some_iff.1 hb
  obtain ⟨hl, _⟩ := hl
  have e : powerN (l.drop m) = if q = 0 then 0 else (l.length - m) - (l.length - k) + q := by
    have h1 : (b :: l.drop (m + 1)).length = l.length - m := by simp only [List.length_cons, List.length_drop]; omega
    rw [drop_get l m b hb]
    show (if b == 101 || b == 69 then (if runOf isDigit (signOff (l.drop (m + 1))) = 0 then 0 else (b :: l.drop (m + 1)).length - (signOff (l.drop (m + 1))).length + runOf isDigit (signOff (l.drop (m + 1)))) else 0) = _
    rw [if_pos he, hk, hq, h1, List.length_drop]
  rw [e]
  split <;> omega
theorem pow_no (l : List UInt8) (m : Nat) (b : UInt8) (hb : l[m]? = some b) (he : (b == 101 || b == 69) = false) : powerN (l.drop m) = 0 := by
  rw [drop_get l m b hb]
  show (if b == 101 || b == 69 then _ else 0) = 0
  rw [if_neg (by rw [he]; simp)]
theorem pow_end (l : List UInt8) (m : Nat) (h : l.length ≤ m) : powerN (l.drop m) = 0 := by rw [List.drop_eq_nil_of_le h]; rfl
theorem sign_hit (l : List UInt8) (m : Nat) (b : UInt8) (hb : l[m]? = some b) (he : (b == 43 || b == 45) = true) : signOff (l.drop m) = l.drop (m + 1) := by
  rw [drop_get l m b hb]
  show (if b == 43 || b == 45 then _ else _) = _
  rw [if_pos he]
theorem sign_no (l : List UInt8) (m : Nat) (b : UInt8) (hb : l[m]? = some b) (he : (b == 43 || b == 45) = false) : signOff (l.drop m) = l.drop m := by
  rw [drop_get l m b hb]
  show (if b == 43 || b == 45 then _ else _) = _
  rw [if_neg (by rw [he]; simp)]
theorem sign_end (l : List UInt8) (m : Nat) (h : l.length ≤ m) : signOff (l.drop m) = l.drop m := by rw [List.drop_eq_nil_of_le h]; rfl
theorem num_of {l : List UInt8} {m : Nat} (hm : mantN l = m) (h0 : m ≠ 0) : numberN l = m + powerN (l.drop m) := by
  unfold numberN; rw [hm, if_neg h0]
theorem num_zero {l : List UInt8} (hm : mantN l = 0) : numberN l = 0 := by unfold numberN; rw [if_pos hm]
theorem at_of (s : ByteArray) (n : Nat) (h : n < s.size) : s.data.toList[n]? = some s[n] := by
  rw [List.getElem?_eq_getElem (by rw [← Lib.size_eq]; exact h)]; rfl
def NumTail (s : ByteArray) (v : Value) : Prop := ∃ m : Nat, v = .int .i64 m ∧ m ≤ s.size ∧ Hid (numberN s.data.toList = m + powerN (s.data.toList.drop m))
/-- the mantissa, by the signs that stand there -/
theorem mant_dot {s : ByteArray} {d r : Nat} (hd : runOf isDigit s.data.toList = d) (h : d < s.size) (hb : s[d] = 46) (hr : runOf isDigit (s.data.toList.drop (d + 1)) = r) : mantN s.data.toList = if d + r = 0 then 0 else d + (1 + r) := by
  unfold mantN
  rw [hd, at_of s d h, hb, if_pos rfl, hr]
theorem mant_plain {s : ByteArray} {d : Nat} (hd : runOf isDigit s.data.toList = d) (h : ∀ h : d < s.size, s[d] ≠ 46) : mantN s.data.toList = d := by
  unfold mantN
  rw [hd, if_neg]
  intro e
  obtain ⟨h1, h2⟩ := List.getElem?_eq_some_iff.1 e
  rw [← Lib.size_eq] at h1
  have := at_of s d h1
  rw [e] at this
  exact h h1 (Option.some.inj this).symm

set_option maxHeartbeats 4000000 in
set_option maxRecDepth 100000 in
theorem rnumber_calls (s : ByteArray) (w : World) (hs : s.size < 4611686018427387904) :
    Calls Tryz.prog 46 #[.string s] w fun e w' => e = .returned (.int .i64 (numberN s.data.toList : Nat)) ∧ w' = w := by
  have hsz := Lib.size_eq s
  have hdl := runOf_le isDigit s.data.toList
  rw [← hsz] at hdl
  have Hsz := Lib.hid hsz
  have Hd := Lib.hid (rfl : runOf isDigit s.data.toList = runOf isDigit s.data.toList)
  have Hdig := Lib.hid fun w => rdigits_calls s w hs
  have Hdr := Lib.hid fun k w => rdigits_ext s k hs w
  have hrl : ∀ k, k ≤ s.size → k + runOf isDigit (s.data.toList.drop k) ≤ s.size := fun k hk => by
    have := runOf_le isDigit (s.data.toList.drop k)
    rw [List.length_drop] at this; omega
  have Hrl := Lib.hid hrl
  clear hsz hrl
  obtain ⟨d, hd⟩ : ∃ d, runOf isDigit s.data.toList = d := ⟨_, rfl⟩
  rw [hd] at hdl Hdig
  clear Hd
  have Hd := Lib.hid hd
  clear hd
  go_enter Tryz.func46, Tryz.ntmps46
  go_upto_region 2 with (go_at_call 72; refine (Hdig.out _).mono ?_; rintro e w' ⟨rfl, rfl⟩)
  rename_i K1 hK1 K2 hK2
  have hrest : ∀ (m : Nat) (u4 u5 u6 u7 u8 u9 u10 u11 u12 u13 u14 u15 u16 u17 u18 u19 u20 u21 u22 u23 u24 u25 u26 u27 u28 u29 u30 u31 u32 u33 u34 u35 u36 u37 u38 u39 u40 u41 u42 u43 u44 u45 u46 u47 u48 u49 u50 u51 u52 u53 u54 u55 u56 u57 u58 u59 u60 u61 u62 u63 u64 u65 u66 u67 u68 u69 u70 u71 u72 u73 u74 u75 u76 u77 u78 u79 u80 u81 u82 u83 u84 u85 u86 u87 u88 u89 u90 u91 u92 u93 u94 u95 : Value), m ≤ s.size → Hid (numberN s.data.toList = m + powerN (s.data.toList.drop m)) → K1 { tmps := #[.string s, undef, .int .i64 0, .int .i64 m, u4, u5, u6, u7, u8, u9, u10, u11, u12, u13, u14, u15, u16, u17, u18, u19, u20, u21, u22, u23, u24, u25, u26, u27, u28, u29, u30, u31, u32, u33, u34, u35, u36, u37, u38, u39, u40, u41, u42, u43, u44, u45, u46, u47, u48, u49, u50, u51, u52, u53, u54, u55, u56, u57, u58, u59, u60, u61, u62, u63, u64, u65, u66, u67, u68, u69, u70, u71, u72, u73, u74, u75, u76, u77, u78, u79, u80, u81, u82, u83, u84, u85, u86, u87, u88, u89, u90, u91, u92, u93, u94, u95], defers := [] } w' := by
    intro m u4 u5 u6 u7 u8 u9 u10 u11 u12 u13 u14 u15 u16 u17 u18 u19 u20 u21 u22 u23 u24 u25 u26 u27 u28 u29 u30 u31 u32 u33 u34 u35 u36 u37 u38 u39 u40 u41 u42 u43 u44 u45 u46 u47 u48 u49 u50 u51 u52 u53 u54 u55 u56 u57 u58 u59 u60 u61 u62 u63 u64 u65 u66 u67 u68 u69 u70 u71 u72 u73 u74 u75 u76 u77 u78 u79 u80 u81 u82 u83 u84 u85 u86 u87 u88 u89 u90 u91 u92 u93 u94 u95 hms Hnum
    refine hK1 _ _ ?_
    clear hK1 hK2 Hd Hdig
    by_cases hltm : m < s.size
    · cases h1 : (s[m] == 101) <;> cases h2 : (s[m] == 69)
      · have y1 : ((s[m].toNat : Int) == 101) = false := byte_beq 101 h1
        have y2 : ((s[m].toNat : Int) == 69) = false := byte_beq 69 h2
        have hp := pow_no s.data.toList m s[m] (at_of s m hltm) (by rw [h1, h2]; rfl)
        have Hp := Lib.hid hp
        clear h1 h2 hp
        go_wp2
        go_ret
        exact ⟨ret_nat (by rw [Hnum.out, Hp.out]; rfl), rfl⟩
      all_goals
        have he : (s[m] == 101 || s[m] == 69) = true := by rw [h1, h2]; rfl
        first 
          | (have y1 : ((s[m].toNat : Int) == 101) = true := by rw [eq_of_beq h1]; rfl) 
          | (have y1 : ((s[m].toNat : Int) == 101) = false := byte_beq 101 h1 
             have y2 : ((s[m].toNat : Int) == 69) = true := by rw [eq_of_beq h2]; rfl)
        clear h1 h2
        by_cases h3 : m + 1 < s.size
        · cases h4 : (s[m + 1] == 43) <;> cases h5 : (s[m + 1] == 45)
          · have y3 : ((s[m + 1].toNat : Int) == 43) = false := byte_beq 43 h4
            have y4 : ((s[m + 1].toNat : Int) == 45) = false := byte_beq 45 h5
            have hk := sign_no s.data.toList (m + 1) s[m + 1] (at_of s (m + 1) h3) (by rw [h4, h5]; rfl)
            clear h4 h5
            obtain ⟨q, hq⟩ : ∃ q, runOf isDigit (s.data.toList.drop (m + 1)) = q := ⟨_, rfl⟩ 
            have hp := pow_tail s.data.toList m (m + 1) q s[m] (at_of s m hltm) he hk (by omega) (by rw [← Hsz.out]; omega) hq 
            have hkl : m + 1 ≤ s.size := by omega 
            have hle := Hrl.out (m + 1) hkl 
            rw [hq] at hle 
            have Hr := Lib.hid (Hdr.out (m + 1)) 
            rw [hq] at Hr 
            clear hq hk he 
            by_cases hq0 : q = 0 
            · subst hq0 
              have Hp := Lib.hid hp 
              clear hp 
              go_wp2_with (go_at_call 72; with_reducible refine (Hr.out _).mono ?_; rintro e w' ⟨rfl, rfl⟩) 
              go_ret 
              exact ⟨ret_nat (by rw [Hnum.out, Hp.out]; rfl), rfl⟩ 
            · rw [if_neg hq0] at hp 
              have Hp := Lib.hid hp 
              have hqp : 0 < q := by omega 
              clear hp hq0 
              go_wp2_with (go_at_call 72; with_reducible refine (Hr.out _).mono ?_; rintro e w' ⟨rfl, rfl⟩) 
              all_goals (go_ret; refine ⟨?_, rfl⟩; rw [Hnum.out, Hp.out]; rfl)
          all_goals
            have hk := sign_hit s.data.toList (m + 1) s[m + 1] (at_of s (m + 1) h3) (by rw [h4, h5]; rfl)
            first
              | have y3 : ((s[m + 1].toNat : Int) == 43) = true := by rw [eq_of_beq h4]; rfl
              | (have y3 : ((s[m + 1].toNat : Int) == 43) = false := byte_beq 43 h4
                 have y4 : ((s[m + 1].toNat : Int) == 45) = true := by rw [eq_of_beq h5]; rfl)
            clear h4 h5
            obtain ⟨q, hq⟩ : ∃ q, runOf isDigit (s.data.toList.drop (m + 2)) = q := ⟨_, rfl⟩ 
            have hp := pow_tail s.data.toList m (m + 2) q s[m] (at_of s m hltm) he hk (by omega) (by rw [← Hsz.out]; omega) hq 
            have hkl : m + 2 ≤ s.size := by omega 
            have hle := Hrl.out (m + 2) hkl 
            rw [hq] at hle 
            have Hr := Lib.hid (Hdr.out (m + 2)) 
            rw [hq] at Hr 
            clear hq hk he 
            by_cases hq0 : q = 0 
            · subst hq0 
              have Hp := Lib.hid hp 
              clear hp 
              go_wp2_with (go_at_call 72; with_reducible refine (Hr.out _).mono ?_; rintro e w' ⟨rfl, rfl⟩) 
              go_ret 
              exact ⟨ret_nat (by rw [Hnum.out, Hp.out]; rfl), rfl⟩ 
            · rw [if_neg hq0] at hp 
              have Hp := Lib.hid hp 
              have hqp : 0 < q := by omega 
              clear hp hq0 
              go_wp2_with (go_at_call 72; with_reducible refine (Hr.out _).mono ?_; rintro e w' ⟨rfl, rfl⟩) 
              all_goals (go_ret; refine ⟨?_, rfl⟩; rw [Hnum.out, Hp.out]; rfl)
        · have hk := sign_end s.data.toList (m + 1) (by rw [← Hsz.out]; omega)
          obtain ⟨q, hq⟩ : ∃ q, runOf isDigit (s.data.toList.drop (m + 1)) = q := ⟨_, rfl⟩ 
          have hp := pow_tail s.data.toList m (m + 1) q s[m] (at_of s m hltm) he hk (by omega) (by rw [← Hsz.out]; omega) hq 
          have hkl : m + 1 ≤ s.size := by omega 
          have hle := Hrl.out (m + 1) hkl 
          rw [hq] at hle 
          have Hr := Lib.hid (Hdr.out (m + 1)) 
          rw [hq] at Hr 
          clear hq hk he 
          by_cases hq0 : q = 0 
          · subst hq0 
            have Hp := Lib.hid hp 
            clear hp 
            go_wp2_with (go_at_call 72; with_reducible refine (Hr.out _).mono ?_; rintro e w' ⟨rfl, rfl⟩) 
            go_ret 
            exact ⟨ret_nat (by rw [Hnum.out, Hp.out]; rfl), rfl⟩ 
          · rw [if_neg hq0] at hp 
            have Hp := Lib.hid hp 
            have hqp : 0 < q := by omega 
            clear hp hq0 
            go_wp2_with (go_at_call 72; with_reducible refine (Hr.out _).mono ?_; rintro e w' ⟨rfl, rfl⟩) 
            all_goals (go_ret; refine ⟨?_, rfl⟩; rw [Hnum.out, Hp.out]; rfl)
    · have hp := pow_end s.data.toList m (by rw [← Hsz.out]; omega)
      have Hp := Lib.hid hp
      clear hp
      go_wp2
      go_ret
      exact ⟨ret_nat (by rw [Hnum.out, Hp.out]; rfl), rfl⟩
  clear hK1
  by_cases hpos : 0 < d
  · by_cases hlt : d < s.size
    · cases h46 : (s[d] == 46)
      · have y1 : ((s[d].toNat : Int) == 46) = false := byte_beq 46 h46
        have Hm := Lib.hid (num_of (mant_plain Hd.out fun _ e => by rw [e] at h46; simp at h46) (by omega))
        clear h46
        go_wp2
        exact hrest d _ _ _ _ _ _ _ _ _ _ _ _ _ _ _ _ _ _ _ _ _ _ _ _ _ _ _ _ _ _ _ _ _ _ _ _ _ _ _ _ _ _ _ _ _ _ _ _ _ _ _ _ _ _ _ _ _ _ _ _ _ _ _ _ _ _ _ _ _ _ _ _ _ _ _ _ _ _ _ _ _ _ _ _ _ _ _ _ _ _ _ _ hdl Hm
      · have e46 : s[d] = 46 := eq_of_beq h46
        have y1 : ((s[d].toNat : Int) == 46) = true := by rw [e46]; rfl
        obtain ⟨r, hr⟩ : ∃ r, runOf isDigit (s.data.toList.drop (d + 1)) = r := ⟨_, rfl⟩
        have hm := mant_dot Hd.out hlt e46 hr
        rw [if_neg (by omega)] at hm
        have Hm := Lib.hid (num_of hm (by omega))
        have Hr := Lib.hid (Hdr.out (d + 1))
        have hle := Hrl.out (d + 1) (by omega)
        rw [hr] at Hr hle
        clear hr hm h46 e46
        go_wp2_with (first | (go_at_call 72; with_reducible refine (Hdig.out _).mono ?_; rintro e w' ⟨rfl, rfl⟩) | (go_at_call 72; with_reducible refine (Hr.out _).mono ?_; rintro e w' ⟨rfl, rfl⟩))
        exact hrest (d + (1 + r)) _ _ _ _ _ _ _ _ _ _ _ _ _ _ _ _ _ _ _ _ _ _ _ _ _ _ _ _ _ _ _ _ _ _ _ _ _ _ _ _ _ _ _ _ _ _ _ _ _ _ _ _ _ _ _ _ _ _ _ _ _ _ _ _ _ _ _ _ _ _ _ _ _ _ _ _ _ _ _ _ _ _ _ _ _ _ _ _ _ _ _ _ (by omega) Hm
    · obtain rfl : d = s.size := by omega
      have Hm := Lib.hid (num_of (mant_plain Hd.out fun h => by omega) (by omega))
      go_wp2
      exact hrest s.size _ _ _ _ _ _ _ _ _ _ _ _ _ _ _ _ _ _ _ _ _ _ _ _ _ _ _ _ _ _ _ _ _ _ _ _ _ _ _ _ _ _ _ _ _ _ _ _ _ _ _ _ _ _ _ _ _ _ _ _ _ _ _ _ _ _ _ _ _ _ _ _ _ _ _ _ _ _ _ _ _ _ _ _ _ _ _ _ _ _ _ _ hdl Hm
  · obtain rfl : d = 0 := by omega
    by_cases h0 : s.size = 0
    · obtain rfl : s = ByteArray.empty := ByteArray.size_eq_zero_iff.1 h0
      go_wp2
      go_ret
      exact ⟨rfl, rfl⟩
    · have hlt : 0 < s.size := by omega
      obtain ⟨he, he2⟩ := not_empty s hlt
      cases h46 : (s[0] == 46)
      · have y1 : ((s[0].toNat : Int) != 46) = true := byte_bne 46 h46
        have y2 : ((s[0].toNat : Int) = 46) = False := byte_ne 46 h46
        have He := Lib.hid (num_zero (mant_plain Hd.out fun _ e => by rw [e] at h46; simp at h46))
        clear h46
        go_wp2
        go_ret
        exact ⟨by rw [He.out]; rfl, rfl⟩
      · have e46 : s[0] = 46 := eq_of_beq h46
        have y1 : ((s[0].toNat : Int) != 46) = false := by rw [e46]; rfl
        obtain ⟨r, hr⟩ : ∃ r, runOf isDigit (s.data.toList.drop (0 + 1)) = r := ⟨_, rfl⟩
        have hm := mant_dot Hd.out hlt e46 hr
        have Hr := Lib.hid (Hdr.out (0 + 1))
        have hle := Hrl.out (0 + 1) (by omega)
        rw [hr] at Hr hle
        rw [Nat.zero_add] at Hr hle hm
        by_cases hr0 : r = 0
        · subst hr0
          have He := Lib.hid (num_zero (by rw [hm]; rfl))
          clear hr hm h46 e46
          go_wp2_with (first | (go_at_call 72; with_reducible refine (Hdig.out _).mono ?_; rintro e w' ⟨rfl, rfl⟩) | (go_at_call 72; with_reducible refine (Hr.out _).mono ?_; rintro e w' ⟨rfl, rfl⟩))
          go_ret
          exact ⟨by rw [He.out]; rfl, rfl⟩
        · have hrp : 0 < r := by omega
          rw [if_neg hr0, Nat.zero_add] at hm
          have Hm := Lib.hid (num_of hm (by omega))
          clear hr hm h46 e46 hr0
          go_wp2_with (first | (go_at_call 72; with_reducible refine (Hdig.out _).mono ?_; rintro e w' ⟨rfl, rfl⟩) | (go_at_call 72; with_reducible refine (Hr.out _).mono ?_; rintro e w' ⟨rfl, rfl⟩))
          exact hrest (1 + r) _ _ _ _ _ _ _ _ _ _ _ _ _ _ _ _ _ _ _ _ _ _ _ _ _ _ _ _ _ _ _ _ _ _ _ _ _ _ _ _ _ _ _ _ _ _ _ _ _ _ _ _ _ _ _ _ _ _ _ _ _ _ _ _ _ _ _ _ _ _ _ _ _ _ _ _ _ _ _ _ _ _ _ _ _ _ _ _ _ _ _ _ (by omega) Hm
end Go.Proofs.YtfaocpcbejgfjaaGreatDoor
