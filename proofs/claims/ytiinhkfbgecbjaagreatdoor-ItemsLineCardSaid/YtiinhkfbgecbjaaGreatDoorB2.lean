/- The document's answer for tokens: blanks, names, and notes. Its condition: a text of fewer than 2^62 bytes. · The document's answer for tokens: pieces of strings, and the token at a front. Its condition: a text of fewer than 2^62 bytes. · The document's answer for tokens: the token at a front. Its condition: a text of 1 to 2^62 bytes. · The document's answer for runes. Its condition: a text of fewer than 2^62 bytes. · The document's answer for runes: one at a front, and where there is none. Its condition: a text of fewer than 2^62 bytes. -/
import Derived.Test.YtiinhkfbgecbjaaGreatDoorR4
import Derived.Test.YtiinhkfbgecbjaaGreatDoorR6
import Derived.Test.YtiinhkfbgecbjaaGreatDoorB1
namespace Go.Proofs.YtiinhkfbgecbjaaGreatDoor
set_option linter.unusedSimpArgs false
set_option linter.unusedVariables false
open Go.RowKit Go.Sub

theorem part_parts (b : UInt8) : isPart b = (isLetter b || isDigit b) := rfl
set_option maxHeartbeats 1000000 in
set_option maxRecDepth 20000 in
theorem rblanks_calls (s : ByteArray) (w : World) (hs : s.size < 4611686018427387904) :
    Calls Tryz.prog 51 #[.string s] w fun e w' => e = .returned (.int .i64 (runOf isBlank s.data.toList : Nat)) ∧ w' = w := by
  have hsz := Lib.size_eq s 
  go_enter Tryz.func51, Tryz.ntmps51 
  go_wp2 
  go_loopw [3] (fun i wr => ∃ n : Nat, n ≤ s.size ∧ i = .int .i64 n ∧ n + runOf isBlank (s.data.toList.drop n) = runOf isBlank s.data.toList ∧ wr = w) (fun i _ => s.size - (intOf i).toNat) 
  case atStart => exact ⟨0, by omega, rfl, by simp, rfl⟩ 
  case round => 
    obtain ⟨n, hn, rfl, hrun, rfl⟩ := hrel 
    by_cases hlt : n < s.size 
    · have hb : s.data.toList[n]? = some s[n] := by rw [List.getElem?_eq_getElem (by omega)]; rfl 
      have Hrun := Lib.hid hrun 
      have Hsz := Lib.hid hsz 
      have Hb := Lib.hid hb 
      clear hrun hsz hb 
      cases hpb : isBlank s[n] 
      all_goals 
        have Hpb := Lib.hid hpb 
        have Hpl := Lib.hid (part_parts s[n]) 
        clear hpb 
        go_wp2_with (go_at_call 50; refine (rblank_calls _ _).mono ?_; rw [Hpb.out]; rintro e w' ⟨rfl, rfl⟩) 
      · go_ret 
        refine ⟨ret_nat ?_, rfl⟩ 
        have h1 := Hrun.out 
        rw [runOf_drop_miss _ _ n _ Hb.out Hpb.out] at h1 
        exact h1 
      · go_roundw 
        case rel => 
          have h1 := Hrun.out 
          rw [runOf_drop_hit _ _ n _ Hb.out Hpb.out] at h1 
          exact ⟨n + 1, by omega, by go_num, by omega, trivial⟩ 
        case measure => simp [intOf]; omega 
    · obtain rfl : n = s.size := by omega 
      have Hrun := Lib.hid hrun 
      have Hsz := Lib.hid hsz 
      clear hrun hsz 
      go_wp2 
      go_ret 
      refine ⟨ret_nat ?_, rfl⟩ 
      have h1 := Hrun.out 
      rw [runOf_drop_end _ _ _ (Nat.le_of_eq Hsz.out.symm)] at h1 
      exact h1
theorem rpart1 (b : UInt8) (w : World) (h : isPart b = true) (hl : isLetter b = false) : Calls Tryz.prog 69 #[.int .u8 b.toNat] w fun e w' => e = .returned (.bool true) ∧ w' = w := by
  have hd : isDigit b = true := by rw [part_parts, hl] at h; simpa using h
  have := rdigit_calls b w
  rw [hd] at this
  exact this
set_option maxHeartbeats 1000000 in
set_option maxRecDepth 20000 in
theorem rpart_calls (s : ByteArray) (w : World) (hs : s.size < 4611686018427387904) :
    Calls Tryz.prog 55 #[.string s] w fun e w' => e = .returned (.int .i64 (runOf isPart s.data.toList : Nat)) ∧ w' = w := by
  have hsz := Lib.size_eq s
  go_enter Tryz.func55, Tryz.ntmps55
  go_wp2
  go_loopw [3] (fun i wr => ∃ n : Nat, n ≤ s.size ∧ i = .int .i64 n ∧ n + runOf isPart (s.data.toList.drop n) = runOf isPart s.data.toList ∧ wr = w) (fun i _ => s.size - (intOf i).toNat)
  case atStart => exact ⟨0, by omega, rfl, by simp, rfl⟩
  case round =>
    obtain ⟨n, hn, rfl, hrun, rfl⟩ := hrel
    by_cases hlt : n < s.size
    · have hb : s.data.toList[n]? = some s[n] := by rw [List.getElem?_eq_getElem (by omega)]; rfl
      have Hrun := Lib.hid hrun
      have Hsz := Lib.hid hsz
      have Hb := Lib.hid hb
      clear hrun hsz hb
      cases hl : isLetter s[n]
      · cases hd : isDigit s[n]
        · have Hpb := Lib.hid (show isPart s[n] = false by rw [part_parts, hl, hd]; rfl)
          have Hl := Lib.hid hl
          have Hd := Lib.hid hd
          clear hl hd
          go_wp2_with (first | (go_at_call 54; refine (rletter_calls _ _).mono ?_; rw [Hl.out]; rintro e w' ⟨rfl, rfl⟩) | (go_at_call 69; refine (rdigit_calls _ _).mono ?_; rw [Hd.out]; rintro e w' ⟨rfl, rfl⟩))
          go_ret
          refine ⟨ret_nat ?_, rfl⟩
          have h1 := Hrun.out
          rw [runOf_drop_miss _ _ n _ Hb.out Hpb.out] at h1
          exact h1
        · have Hpb := Lib.hid (show isPart s[n] = true by rw [part_parts, hl, hd]; rfl)
          have Hl := Lib.hid hl
          have Hd := Lib.hid hd
          clear hl hd
          go_wp2_with (first | (go_at_call 54; refine (rletter_calls _ _).mono ?_; rw [Hl.out]; rintro e w' ⟨rfl, rfl⟩) | (go_at_call 69; refine (rdigit_calls _ _).mono ?_; rw [Hd.out]; rintro e w' ⟨rfl, rfl⟩))
          go_roundw
          case rel =>
            have h1 := Hrun.out
            rw [runOf_drop_hit _ _ n _ Hb.out Hpb.out] at h1
            exact ⟨n + 1, by omega, by go_num, by omega, trivial⟩
          case measure => simp [intOf]; omega
      · have Hpb := Lib.hid (show isPart s[n] = true by rw [part_parts, hl]; rfl)
        have Hl := Lib.hid hl
        clear hl
        go_wp2_with (go_at_call 54; refine (rletter_calls _ _).mono ?_; rw [Hl.out]; rintro e w' ⟨rfl, rfl⟩)
        go_roundw
        case rel =>
          have h1 := Hrun.out
          rw [runOf_drop_hit _ _ n _ Hb.out Hpb.out] at h1
          exact ⟨n + 1, by omega, by go_num, by omega, trivial⟩
        case measure => simp [intOf]; omega
    · obtain rfl : n = s.size := by omega
      have Hrun := Lib.hid hrun
      have Hsz := Lib.hid hsz
      clear hrun hsz
      go_wp2
      go_ret
      refine ⟨ret_nat ?_, rfl⟩
      have h1 := Hrun.out
      rw [runOf_drop_end _ _ _ (Nat.le_of_eq Hsz.out.symm)] at h1
      exact h1

/-- a note, byte by byte: how many slashes stand at hand -/
def gN : List UInt8 → Nat → Nat
  | [], _ => 0
  | [c], b => if c == 10 && b % 2 == 0 then 0 else 1
  | c :: d :: r, b => if c == 10 && b % 2 == 0 then 0 else if c == 13 && d == 10 && b % 2 == 1 then 2 + gN r 0 else 1 + gN (d :: r) (if c == 92 then b + 1 else 0)
def tb (b : Nat) : List UInt8 → Nat
  | [] => b
  | c :: x => tb (if c == 92 then b + 1 else 0) x
def escB (b : Nat) (x : List UInt8) : Bool := tb b x % 2 == 1 || (x.getLast? == some 13 && tb b x.dropLast % 2 == 1)
theorem gN_plain : ∀ (x : List UInt8) (b : Nat), (∀ c ∈ x, c ≠ 10) → gN x b = x.length
  | [], _, _ => rfl
  | [c], b, h => by
    have hc : (c == 10) = false := by simpa using h c (by simp)
    rw [gN, hc]; rfl
  | c :: d :: r, b, h => by
    have hc : (c == 10) = false := by simpa using h c (by simp)
    have hd : (d == 10) = false := by simpa using h d (by simp)
    rw [gN, hc, hd, gN_plain (d :: r) _ fun z hz => h z (List.mem_cons_of_mem _ hz)]
    simp only [Bool.false_and, Bool.and_false, Bool.false_eq_true, if_false, List.length_cons]; omega
theorem gN_nl (r : List UInt8) (b : Nat) : gN (10 :: r) b = if b % 2 = 1 then 1 + gN r 0 else 0 := by
  rcases Nat.mod_two_eq_zero_or_one b with h | h
  · match r with
    | [] => simp [gN, h]
    | d :: r => simp [gN, h]
  · match r with
    | [] => simp [gN, h]
    | d :: r => simp [gN, h]
theorem gN_line : ∀ (x r : List UInt8) (b : Nat), (∀ c ∈ x, c ≠ 10) → gN (x ++ 10 :: r) b = if escB b x = true then x.length + 1 + gN r 0 else x.length
  | [], r, b, _ => by
    have e : escB b [] = (b % 2 == 1) := by unfold escB; simp [tb]
    rw [e, List.nil_append, gN_nl]
    by_cases h : b % 2 = 1
    · rw [if_pos h, if_pos (by simpa using h)]; simp
    · rw [if_neg h, if_neg (by simpa using h)]; rfl
  | [c], r, b, h => by
    have hc : (c == 10) = false := by simpa using h c (by simp)
    have e : escB b [c] = ((if c == 92 then b + 1 else 0) % 2 == 1 || (c == 13 && b % 2 == 1)) := by unfold escB; simp [tb]
    rw [e, List.singleton_append, gN, hc, gN_nl]
    cases h13 : (c == 13 && b % 2 == 1)
    · have h13' : (c == 13 && (10 : UInt8) == 10 && b % 2 == 1) = false := by simpa using h13
      rw [h13', Bool.or_false]
      simp only [Bool.false_and, Bool.false_eq_true, if_false]
      by_cases ho : (if c == 92 then b + 1 else 0) % 2 = 1
      · rw [if_pos ho, if_pos (by simpa using ho)]; simp only [List.length_singleton]; omega
      · rw [if_neg ho, if_neg (by simpa using ho)]; rfl
    · have h13' : (c == 13 && (10 : UInt8) == 10 && b % 2 == 1) = true := by simpa using h13
      rw [h13', Bool.or_true]
      simp
  | c :: e :: x, r, b, h => by
    have hc : (c == 10) = false := by simpa using h c (by simp)
    have he : (e == 10) = false := by simpa using h e (by simp)
    have ih := gN_line (e :: x) r (if c == 92 then b + 1 else 0) fun z hz => h z (List.mem_cons_of_mem _ hz)
    have hs : escB b (c :: e :: x) = escB (if c == 92 then b + 1 else 0) (e :: x) := by
      unfold escB
      rw [List.getLast?_cons_cons, List.dropLast_cons_cons]
      rfl
    rw [hs]
    generalize escB (if c == 92 then b + 1 else 0) (e :: x) = q at ih ⊢
    rw [List.cons_append] at ih
    rw [List.cons_append, List.cons_append, gN, hc, he, ih]
    simp only [Bool.false_and, Bool.and_false, Bool.false_eq_true, if_false, List.length_cons]
    cases q
    · simp only [Bool.false_eq_true, if_false]; omega
    · simp only [if_true]; omega
theorem tb_snoc : ∀ (x : List UInt8) (b : Nat) (c : UInt8), tb b (x ++ [c]) = if c == 92 then tb b x + 1 else 0
  | [], b, c => rfl
  | d :: x, b, c => tb_snoc x _ c
theorem backs_snoc (x : List UInt8) (c : UInt8) : backsN (x ++ [c]) = if c == 92 then backsN x + 1 else 0 := by
  unfold backsN
  rw [List.reverse_append, List.reverse_singleton, List.singleton_append, List.takeWhile_cons]
  cases c == 92 <;> rfl
theorem tb_backs : ∀ (k : Nat) (x : List UInt8), x.length ≤ k → tb 0 x = backsN x := by
  intro k
  induction k with
  | zero =>
    intro x h
    obtain rfl := List.length_eq_zero_iff.1 (show x.length = 0 by omega)
    rfl
  | succ k ih =>
    intro x h
    rcases List.eq_nil_or_concat x with rfl | ⟨y, c, rfl⟩
    · rfl
    · rw [List.concat_eq_append] at *
      rw [tb_snoc, backs_snoc, ih y (by rw [List.length_append, List.length_singleton] at h; omega)]
theorem esc_odd (x : List UInt8) : escB 0 x = !(!oddB x && !oddB (Lib.trimSuffix x [13])) := by
  unfold escB
  rw [tb_backs _ x (Nat.le_refl _), tb_backs _ x.dropLast (Nat.le_refl _)]
  rcases List.eq_nil_or_concat x with rfl | ⟨y, c, rfl⟩
  · rfl
  · rw [List.concat_eq_append, List.dropLast_concat, List.getLast?_concat]
    unfold oddB
    by_cases h13 : c = 13
    · subst h13
      have hs : Lib.hasSuffix (y ++ [13]) [13] = true := by
        unfold Lib.hasSuffix
        exact List.isSuffixOf_iff_suffix.2 ⟨y, rfl⟩
      have ht : Lib.trimSuffix (y ++ [13]) [13] = y := by
        unfold Lib.trimSuffix
        rw [if_pos hs]
        simp
      rw [ht]
      simp
    · have hs : Lib.hasSuffix (y ++ [c]) [13] = false := by
        cases hq : Lib.hasSuffix (y ++ [c]) [13]
        · rfl
        · exfalso
          unfold Lib.hasSuffix at hq
          obtain ⟨t, ht⟩ := List.isSuffixOf_iff_suffix.1 hq
          have := congrArg List.getLast? ht
          simp at this
          exact h13 this.symm
      have ht : Lib.trimSuffix (y ++ [c]) [13] = y ++ [c] := by
        unfold Lib.trimSuffix
        rw [if_neg (by rw [hs]; simp)]
      rw [ht]
      have h2 : (some c == some 13) = false := by simpa using h13
      rw [h2]
      simp
theorem note_lines : ∀ (k : Nat) (l : List UInt8), l.length ≤ k → gN l 0 = linesN l := by
  intro k
  induction k with
  | zero =>
    intro l h
    obtain rfl := List.length_eq_zero_iff.1 (show l.length = 0 by omega)
    rw [linesN_none _ (by decide)]; rfl
  | succ k ih =>
    intro l hl
    rcases nl_cases l with h0 | ⟨j, hj, hjl⟩
    · rw [linesN_none l h0]
      refine gN_plain l 0 fun c hc e => ?_
      obtain ⟨i, hi, he⟩ := List.mem_iff_getElem.1 hc
      exact Lib.indexByte_none (show Lib.indexByte l 10 = -1 by have := Lib.indexByte_ge l 10; omega) i (by rw [List.getElem?_eq_getElem hi, he, e])
    · obtain ⟨j1, j2⟩ := Lib.indexByte_some hj
      have hsplit : l = l.take j ++ 10 :: l.drop (j + 1) := by
        have hd : l.drop j = 10 :: l.drop (j + 1) := by
          rw [List.drop_eq_getElem_cons hjl]
          congr 1
          have := List.getElem?_eq_getElem hjl
          rw [this] at j1
          exact Option.some.inj j1
        rw [← hd, List.take_append_drop]
      have hno : ∀ c ∈ l.take j, c ≠ 10 := fun c hc e => by
        obtain ⟨i, hi, he⟩ := List.mem_iff_getElem.1 hc
        rw [List.length_take] at hi
        refine j2 i (by omega) ?_
        rw [← List.getElem?_take_of_lt (show i < j by omega), List.getElem?_eq_getElem (by rw [List.length_take]; omega), he, e]
      have hg := gN_line (l.take j) (l.drop (j + 1)) 0 hno
      rw [← hsplit, esc_odd] at hg
      rw [hg]
      have hlen : (l.take j).length = j := by rw [List.length_take]; omega
      cases hb : (!oddB (l.take j) && !oddB (Lib.trimSuffix (l.take j) [13]))
      · rw [linesN_more l j hj hb, if_pos (by simp), hlen, ih _ (by rw [List.length_drop]; omega)]
      · rw [linesN_end l j hj hb, if_neg (by simp), hlen]
theorem gN_stop {l : List UInt8} {n b : Nat} (h : l[n]? = some 10) (hb : b % 2 = 0) : gN (l.drop n) b = 0 := by
  obtain ⟨hlt, he⟩ := List.getElem?_eq_some_iff.1 h
  rw [List.drop_eq_getElem_cons hlt, he, gN_nl, if_neg (by omega)]
theorem gN_two {l : List UInt8} {n b : Nat} (h : l[n]? = some 13) (h2 : l[n + 1]? = some 10) (hb : b % 2 = 1) : gN (l.drop n) b = 2 + gN (l.drop (n + 2)) 0 := by
  obtain ⟨hlt, he⟩ := List.getElem?_eq_some_iff.1 h
  obtain ⟨hlt2, he2⟩ := List.getElem?_eq_some_iff.1 h2
  rw [List.drop_eq_getElem_cons hlt, he, List.drop_eq_getElem_cons hlt2, he2, gN]
  simp [hb]
theorem gN_step {l : List UInt8} {n b : Nat} {c : UInt8} (h : l[n]? = some c) (h1 : ¬ (c = 10 ∧ b % 2 = 0)) (h2 : ¬ (c = 13 ∧ l[n + 1]? = some 10 ∧ b % 2 = 1)) : gN (l.drop n) b = 1 + gN (l.drop (n + 1)) (if c == 92 then b + 1 else 0) := by
  obtain ⟨hlt, he⟩ := List.getElem?_eq_some_iff.1 h
  have e1 : (c == 10 && b % 2 == 0) = false := by
    rw [Bool.and_eq_false_iff, beq_eq_false_iff_ne, beq_eq_false_iff_ne]
    by_cases hc : c = 10
    · exact .inr fun e => h1 ⟨hc, e⟩
    · exact .inl hc
  rw [List.drop_eq_getElem_cons hlt, he]
  cases hd : l.drop (n + 1) with
  | nil =>
    show gN [c] b = 1
    simp only [gN, e1, Bool.false_eq_true, if_false]
  | cons d r =>
    have hd1 : l[n + 1]? = some d := by
      have := congrArg (fun x : List UInt8 => x[0]?) hd
      simpa using this
    have e2 : (c == 13 && d == 10 && b % 2 == 1) = false := by
      cases hq : (c == 13 && d == 10 && b % 2 == 1)
      · rfl
      · rw [Bool.and_eq_true, Bool.and_eq_true, beq_iff_eq, beq_iff_eq, beq_iff_eq] at hq
        exact absurd ⟨hq.1.1, by rw [hd1, hq.1.2], hq.2⟩ h2
    rw [gN, e1, e2]; rfl
theorem byte_is {c : UInt8} {k : Nat} (hk : k < 256) (h : ((c.toNat : Int) == (k : Int)) = true) : c = UInt8.ofNat k := by
  apply UInt8.toNat_inj.1
  rw [beq_iff_eq] at h
  rw [UInt8.toNat_ofNat_of_lt' (by show k < 256; exact hk)]
  omega
theorem byte_isnt {c : UInt8} {k : Nat} (hk : k < 256) (h : ((c.toNat : Int) == (k : Int)) = false) : c ≠ UInt8.ofNat k := fun e => by
  rw [e, UInt8.toNat_ofNat_of_lt' (by show k < 256; exact hk)] at h
  simp at h
set_option maxHeartbeats 4000000 in
set_option maxRecDepth 100000 in
theorem rnote_calls (s : ByteArray) (w : World) (hs : s.size < 4611686018427387904) :
    Calls Tryz.prog 52 #[.string s] w fun e w' => e = .returned (.int .i64 (linesN s.data.toList : Nat)) ∧ w' = w := by
  rw [← note_lines _ _ (Nat.le_refl _)]
  have Hsz := Lib.hid (Lib.size_eq s)
  go_enter Tryz.func52, Tryz.ntmps52
  go_wp2
  go_loopw [3, 4] (fun i v wr => ∃ n b : Nat, n ≤ s.size ∧ b ≤ n ∧ i = .int .i64 n ∧ v = .int .i64 b ∧ Hid (n + gN (s.data.toList.drop n) b = gN s.data.toList 0) ∧ wr = w) (fun i _ _ => s.size - (intOf i).toNat)
  case atStart => exact ⟨0, 0, by omega, by omega, rfl, rfl, Lib.hid (by simp), rfl⟩
  case round =>
    obtain ⟨n, b, hn, hbn, rfl, rfl, Hg, rfl⟩ := hrel
    by_cases hlt : n < s.size
    · have hb : s.data.toList[n]? = some s[n] := by rw [List.getElem?_eq_getElem (by rw [← Hsz.out]; exact hlt)]; rfl
      have hbp : b % 2 = 0 ∨ b % 2 = 1 := by omega
      have Hb := Lib.hid hb
      clear hb
      cases h10 : ((s[n].toNat : Int) == 10)
      · have n10 := byte_isnt (k := 10) (by omega) h10
        have N10 := Lib.hid n10
        cases h13 : ((s[n].toNat : Int) == 13)
        · have N13 := Lib.hid (byte_isnt (k := 13) (by omega) h13)
          clear n10
          cases h92 : ((s[n].toNat : Int) == 92)
          · have N92 := Lib.hid (byte_isnt (k := 92) (by omega) h92)
            have Hst := Lib.hid (gN_step Hb.out (b := b) (fun h => N10.out h.1) (fun h => N13.out h.1)) 
            have Hbn := Lib.hid (show (if s[n] == 92 then b + 1 else 0) = 0 by rw [show (s[n] == 92) = _ from (beq_eq_false_iff_ne.2 N92.out)]; rfl) 
            go_wp2 
            go_roundw 
            case rel => exact ⟨n + 1, 0, by omega, by omega, by go_num, by first | rfl | go_num, Lib.hid (by have h1 := Hg.out; rw [Hst.out, Hbn.out] at h1; omega), by first | rfl | trivial⟩ 
            case measure => simp only [intOf]; omega
          · have N92 := Lib.hid (byte_is (k := 92) (by omega) h92)
            have Hst := Lib.hid (gN_step Hb.out (b := b) (fun h => N10.out h.1) (fun h => N13.out h.1)) 
            have Hbn := Lib.hid (show (if s[n] == 92 then b + 1 else 0) = b + 1 by rw [show (s[n] == 92) = _ from (beq_iff_eq.2 N92.out)]; rfl) 
            go_wp2 
            go_roundw 
            case rel => exact ⟨n + 1, b + 1, by omega, by omega, by go_num, by first | rfl | go_num, Lib.hid (by have h1 := Hg.out; rw [Hst.out, Hbn.out] at h1; omega), by first | rfl | trivial⟩ 
            case measure => simp only [intOf]; omega
        · have N13 := Lib.hid (byte_is (k := 13) (by omega) h13)
          have h92 : ((s[n].toNat : Int) == 92) = false := by rw [N13.out]; rfl
          have N92 := Lib.hid (byte_isnt (k := 92) (by omega) h92)
          clear n10
          by_cases hn1 : n + 1 < s.size
          · have Hb1 := Lib.hid (show s.data.toList[n + 1]? = some s[n + 1] by rw [List.getElem?_eq_getElem (by rw [← Hsz.out]; exact hn1)]; rfl)
            cases h10b : ((s[n + 1].toNat : Int) == 10)
            · have M10 := Lib.hid (byte_isnt (k := 10) (by omega) h10b)
              have Hst := Lib.hid (gN_step Hb.out (b := b) (fun h => N10.out h.1) (fun h => M10.out (by have := h.2.1; rw [Hb1.out] at this; exact Option.some.inj this))) 
              have Hbn := Lib.hid (show (if s[n] == 92 then b + 1 else 0) = 0 by rw [show (s[n] == 92) = _ from (beq_eq_false_iff_ne.2 N92.out)]; rfl) 
              go_wp2 
              go_roundw 
              case rel => exact ⟨n + 1, 0, by omega, by omega, by go_num, by first | rfl | go_num, Lib.hid (by have h1 := Hg.out; rw [Hst.out, Hbn.out] at h1; omega), by first | rfl | trivial⟩ 
              case measure => simp only [intOf]; omega
            · have M10 := Lib.hid (byte_is (k := 10) (by omega) h10b)
              rcases hbp with ho | ho
              · have p2 : (((b : Int) % 2) == 1) = false := by rw [beq_eq_false_iff_ne]; omega
                have p2' : (((b : Int) % 2) = 1) = False := by apply eq_false; omega
                have Ho := Lib.hid ho
                clear ho
                have Hst := Lib.hid (gN_step Hb.out (b := b) (fun h => N10.out h.1) (fun h => by have := h.2.2; have := Ho.out; omega)) 
                have Hbn := Lib.hid (show (if s[n] == 92 then b + 1 else 0) = 0 by rw [show (s[n] == 92) = _ from (beq_eq_false_iff_ne.2 N92.out)]; rfl) 
                go_wp2 
                go_roundw 
                case rel => exact ⟨n + 1, 0, by omega, by omega, by go_num, by first | rfl | go_num, Lib.hid (by have h1 := Hg.out; rw [Hst.out, Hbn.out] at h1; omega), by first | rfl | trivial⟩ 
                case measure => simp only [intOf]; omega
              · have p3 : (((b : Int) % 2) == 1) = true := by rw [beq_iff_eq]; omega
                have p3' : ((b : Int) % 2) = 1 := by omega
                have Hst := Lib.hid (gN_two (l := s.data.toList) (n := n) (b := b) (by rw [Hb.out, N13.out]; rfl) (by rw [Hb1.out, M10.out]; rfl) ho)
                clear ho
                go_wp2
                go_roundw
                case rel => exact ⟨n + 2, 0, by omega, by omega, by go_num, by first | rfl | go_num, Lib.hid (by have h1 := Hg.out; rw [Hst.out] at h1; omega), by first | rfl | trivial⟩
                case measure => simp only [intOf]; omega
          · have Hnone := Lib.hid (show s.data.toList[n + 1]? = none from List.getElem?_eq_none (by rw [← Hsz.out]; omega))
            have Hst := Lib.hid (gN_step Hb.out (b := b) (fun h => N10.out h.1) (fun h => by have := h.2.1; rw [Hnone.out] at this; simp at this)) 
            have Hbn := Lib.hid (show (if s[n] == 92 then b + 1 else 0) = 0 by rw [show (s[n] == 92) = _ from (beq_eq_false_iff_ne.2 N92.out)]; rfl) 
            go_wp2 
            go_roundw 
            case rel => exact ⟨n + 1, 0, by omega, by omega, by go_num, by first | rfl | go_num, Lib.hid (by have h1 := Hg.out; rw [Hst.out, Hbn.out] at h1; omega), by first | rfl | trivial⟩ 
            case measure => simp only [intOf]; omega
      · have N10 := Lib.hid (byte_is (k := 10) (by omega) h10)
        rcases hbp with ho | ho
        · have p0 : (((b : Int) % 2) == 0) = true := by rw [beq_iff_eq]; omega
          have p0' : ((b : Int) % 2) = 0 := by omega
          have Hst := Lib.hid (gN_stop (l := s.data.toList) (n := n) (b := b) (by rw [Hb.out, N10.out]; rfl) ho)
          clear ho
          go_wp2
          go_ret
          refine ⟨ret_nat ?_, rfl⟩
          have h1 := Hg.out
          rw [Hst.out] at h1
          omega
        · have p1 : (((b : Int) % 2) == 0) = false := by rw [beq_eq_false_iff_ne]; omega
          have p1' : (((b : Int) % 2) = 0) = False := by apply eq_false; omega
          have h13 : ((s[n].toNat : Int) == 13) = false := by rw [N10.out]; rfl
          have h92 : ((s[n].toNat : Int) == 92) = false := by rw [N10.out]; rfl
          have Ho := Lib.hid ho
          clear ho
          have Hst := Lib.hid (gN_step Hb.out (b := b) (fun h => by have := h.2; have := Ho.out; omega) (fun h => by have := h.1; rw [N10.out] at this; exact absurd this (by decide))) 
          have Hbn := Lib.hid (show (if s[n] == 92 then b + 1 else 0) = 0 by rw [show (s[n] == 92) = _ from (beq_eq_false_iff_ne.2 (by rw [N10.out]; decide))]; rfl) 
          go_wp2 
          go_roundw 
          case rel => exact ⟨n + 1, 0, by omega, by omega, by go_num, by first | rfl | go_num, Lib.hid (by have h1 := Hg.out; rw [Hst.out, Hbn.out] at h1; omega), by first | rfl | trivial⟩ 
          case measure => simp only [intOf]; omega
    · obtain rfl : n = s.size := by omega
      go_wp2
      go_ret
      refine ⟨ret_nat ?_, rfl⟩
      have h1 := Hg.out
      rw [List.drop_eq_nil_of_le (Nat.le_of_eq Hsz.out.symm)] at h1
      exact h1
end Go.Proofs.YtiinhkfbgecbjaaGreatDoor
namespace Go.Proofs.YtiinhkfbgecbjaaGreatDoor
set_option linter.unusedSimpArgs false
set_option linter.unusedVariables false
open Go.RowKit Go.Sub

theorem esc_34 (r : List UInt8) : escN (34 :: r) = 0 := by cases r <;> rfl
theorem drop_at {l : List UInt8} {n : Nat} {c : UInt8} (h : l[n]? = some c) : l.drop n = c :: l.drop (n + 1) := by
  obtain ⟨hlt, he⟩ := List.getElem?_eq_some_iff.1 h
  rw [List.drop_eq_getElem_cons hlt, he]
set_option maxHeartbeats 2000000 in
set_option maxRecDepth 100000 in
theorem rpiece_calls (s : ByteArray) (w : World) (hs : s.size < 4611686018427387904) :
    Calls Tryz.prog 37 #[.string s] w fun e w' => e = .returned (.int .i64 (pieceN s.data.toList : Nat)) ∧ Below w.heap.size w w' := by
  have Hsz := Lib.hid (Lib.size_eq s)
  go_enter Tryz.func37, Tryz.ntmps37
  go_wp2
  go_loopw [3] (fun i wr => ∃ n : Nat, n ≤ s.size ∧ i = .int .i64 n ∧ Hid (n + pieceN (s.data.toList.drop n) = pieceN s.data.toList) ∧ Below w.heap.size w wr) (fun i _ => s.size - (intOf i).toNat)
  case atStart => exact ⟨0, by omega, rfl, Lib.hid (by simp), Below.refl _ _⟩
  case round =>
    obtain ⟨n, hn, rfl, Hg, hB⟩ := hrel
    by_cases hlt : n < s.size
    · have Hb := Lib.hid (show s.data.toList[n]? = some s[n] by rw [List.getElem?_eq_getElem (by rw [← Hsz.out]; exact hlt)]; rfl)
      cases h34 : ((s[n].toNat : Int) == 34)
      · have N34 := Lib.hid (byte_isnt (k := 34) (by omega) h34)
        have h34' : ((s[n].toNat : Int) != 34) = true := by rw [bne, h34]; rfl
        cases h92 : ((s[n].toNat : Int) == 92)
        · have N92 := Lib.hid (byte_isnt (k := 92) (by omega) h92)
          have Hst := Lib.hid (show pieceN (s.data.toList.drop n) = 1 + pieceN (s.data.toList.drop (n + 1)) by
            rw [drop_at Hb.out]
            exact piece_plain _ _ (by unfold isQS; rw [show (s[n] == 34) = false from beq_eq_false_iff_ne.2 N34.out, show (s[n] == 92) = false from beq_eq_false_iff_ne.2 N92.out]; rfl))
          go_wp2
          go_roundw
          case rel => exact ⟨n + 1, by omega, by go_num, Lib.hid (by have h1 := Hg.out; rw [Hst.out] at h1; omega), hB⟩
          case measure => simp only [intOf]; omega
        · have N92 := Lib.hid (byte_is (k := 92) (by omega) h92)
          have he := fun w => rescape_calls (s.extract n s.size) w (ext_lt s n s.size hs)
          rw [ext_data] at he
          have hle := escN_le (s.data.toList.drop n)
          rw [List.length_drop, ← Hsz.out] at hle
          by_cases hk : escN (s.data.toList.drop n) = 0
          · have Hst := Lib.hid (show pieceN (s.data.toList.drop n) = 0 by
              rw [drop_at Hb.out] at hk ⊢
              exact piece_stop _ _ (by unfold isQS; rw [N92.out]; rfl) hk)
            rw [hk] at he
            have He := Lib.hid he
            clear he hle hk
            go_wp2_with (go_at_call 49; refine (He.out _).mono ?_; rintro e w2 ⟨rfl, hb⟩; have hB2 := hB.trans (hb.mono hB.size); clear hb)
            go_ret
            refine ⟨ret_nat ?_, hB2⟩
            have h1 := Hg.out
            rw [Hst.out] at h1
            omega
          · have Hst := Lib.hid (piece_esc (s.data.toList.drop n) hk)
            generalize escN (s.data.toList.drop n) = k at *
            have He := Lib.hid he
            have y0 : ((k : Int) == 0) = false := by rw [beq_eq_false_iff_ne]; omega
            clear he
            go_wp2_with (go_at_call 49; refine (He.out _).mono ?_; rintro e w2 ⟨rfl, hb⟩; have hB2 := hB.trans (hb.mono hB.size); clear hb)
            go_roundw
            case rel => exact ⟨n + k, by omega, by go_num, Lib.hid (by have h1 := Hg.out; rw [Hst.out, List.drop_drop] at h1; omega), hB2⟩
            case measure => simp only [intOf]; omega
      · have N34 := Lib.hid (byte_is (k := 34) (by omega) h34)
        have h34' : ((s[n].toNat : Int) != 34) = false := by rw [bne, h34]; rfl
        have Hst := Lib.hid (show pieceN (s.data.toList.drop n) = 0 by
          rw [drop_at Hb.out, N34.out]
          exact piece_stop _ _ rfl (esc_34 _))
        go_wp2
        go_ret
        refine ⟨ret_nat ?_, hB⟩
        have h1 := Hg.out
        rw [Hst.out] at h1
        omega
    · obtain rfl : n = s.size := by omega
      go_wp2
      go_ret
      refine ⟨ret_nat ?_, hB⟩
      have h1 := Hg.out
      rw [List.drop_eq_nil_of_le (Nat.le_of_eq Hsz.out.symm), piece_nil] at h1
      exact h1
end Go.Proofs.YtiinhkfbgecbjaaGreatDoor
namespace Go.Proofs.YtiinhkfbgecbjaaGreatDoor
set_option linter.unusedSimpArgs false
set_option linter.unusedVariables false
open Go.RowKit Go.Sub

def plainN (l : List UInt8) : Nat × Nat := ((kindsL l).find? fun x => decide (0 < x.2)).getD (13, 0)
theorem lines_pos {b : UInt8} {r : List UInt8} (h : b ≠ 10) : 0 < linesN (b :: r) := by
  rcases nl_cases (b :: r) with h0 | ⟨j, hj, hjl⟩
  · rw [linesN_none _ h0]; simp
  · have h1 := (Lib.indexByte_some hj).1
    have h0 : j ≠ 0 := fun e => by
      rw [e] at h1
      exact h (by simpa using h1)
    cases h2 : (!oddB ((b :: r).take j) && !oddB (Lib.trimSuffix ((b :: r).take j) [13]))
    · rw [linesN_more _ j hj h2]; omega
    · rw [linesN_end _ j hj h2]; omega
theorem plain_at {l : List UInt8} (a1 a2 a3 a4 a5 a6 a7 a8 a9 : Nat) (h1 : runOf isBlank l = a1) (h2 : noteN l = a2) (h3 : wordN l = a3) (h4 : behindN 46 simpleN l = a4) (h5 : behindN 36 wordN l = a5) (h6 : behindN 64 (runOf isPart) l = a6) (h7 : numberN l = a7) (h8 : quoteN l = a8) (h9 : operN l = a9) :
    plainN l = (([(1, a1), (2, a2), (3, a3), (4, a4), (5, a5), (12, a6), (6, a7), (7, a8), (13, a9)] : List (Nat × Nat)).find? fun x => decide (0 < x.2)).getD (13, 0) := by
  unfold plainN kindsL
  rw [noteF_eq, wordF_fun, h1, h2, h3, h4, h5, h6, h7, h8, h9]
theorem tok_laid {w1 : World} {B : Nat} {a b x y : Value} {t : TypeId} (r : w1.heap[B]? = some (.cells #[a, b] t (0, 0))) : ((w1.setCell ⟨B, 0, none⟩ x).setCell ⟨B, 1, none⟩ y).heap[B]? = some (.cells #[x, y] t (0, 0)) :=
  heap_setCell_same (w1.setCell ⟨B, 0, none⟩ x) B 1 _ _ y (heap_setCell_same w1 B 0 _ _ x r)
theorem tok_below {w w1 : World} {x y : Value} (h : Below w.heap.size w w1) : Below w.heap.size w ((w1.setCell ⟨w.heap.size, 0, none⟩ x).setCell ⟨w.heap.size, 1, none⟩ y) :=
  (h.setCell (p := ⟨w.heap.size, 0, none⟩) (Nat.le_refl _) _).setCell (p := ⟨w.heap.size, 1, none⟩) (Nat.le_refl _) _
theorem cut0 (R : ByteArray) (n : Nat) : (R.extract 0 n).data.toList = R.data.toList.take n := by
  rw [Lib.extract_data]; simp

theorem run_cons (p : UInt8 → Bool) (b : UInt8) (r : List UInt8) : runOf p (b :: r) = if p b = true then runOf p r + 1 else 0 := by
  unfold runOf
  rw [List.takeWhile_cons]
  cases p b <;> simp
def PlainPost (s : ByteArray) (w : World) (r : Nat × Nat) (e : Ending) (w' : World) : Prop := ∃ R : ByteArray, e = .returned (.agg #[.int .i64 (r.1 : Int), .string R]) ∧ R.data.toList = s.data.toList.take r.2 ∧ Below w.heap.size w w'
set_option maxRecDepth 100000 in
set_option maxHeartbeats 4000000 in
theorem rplainTok_calls (s : ByteArray) (w : World) (h0 : 0 < s.size) (hs : s.size < 4611686018427387904) :
    Calls Tryz.prog 39 #[.string s] w (PlainPost s w (plainN s.data.toList)) := by
  have hr := World.alloc_heap_new w (.cells #[.int .i64 0, .string ByteArray.empty] 29)
  have hB : Below w.heap.size w (w.alloc (.cells #[.int .i64 0, .string ByteArray.empty] 29)) := (Below.refl _ _).alloc (Nat.le_refl _) _
  have hcons := cons_of s h0
  have Cbl := Lib.hid fun w => rblank_calls s[0] w
  have Cbs := Lib.hid fun w => rblanks_calls s w hs
  have Cno := Lib.hid fun w => rnote_calls s w hs
  have Cwo := Lib.hid fun w => rword_calls s w hs
  have Cnu := Lib.hid fun w => rnumber_calls s w hs
  have Cop := Lib.hid fun w => roper_calls s w hs
  have hs1 : (s.extract 1 s.size).size < 4611686018427387904 := ext_lt s 1 s.size hs
  have cw1 := fun w => rword_calls (s.extract 1 s.size) w hs1
  have cp1 := fun w => rpart_calls (s.extract 1 s.size) w hs1
  rw [ext_data] at cw1 cp1
  have Cw1 := Lib.hid cw1
  have Cp1 := Lib.hid cp1
  have hle1 := runOf_le isBlank s.data.toList
  have hle2 := linesN_le _ s.data.toList (Nat.le_refl _)
  have hle3 := wordN_le s.data.toList
  have hle5 := wordN_le (s.data.toList.drop 1)
  have hle6 := runOf_le isPart (s.data.toList.drop 1)
  have hle7 := numberN_le s.data.toList
  have hle9 := operN_le s.data.toList
  have hx1 : runOf isBlank s.data.toList = if isBlank s[0] = true then runOf isBlank (s.data.toList.drop 1) + 1 else 0 := by
    have h := run_cons isBlank s[0] (s.data.toList.drop 1)
    rwa [← hcons] at h
  have hx2 : noteN s.data.toList = if s[0] == 35 then linesN s.data.toList else 0 := by rw [hcons]; rfl
  have hx4 : behindN 46 simpleN s.data.toList = if s[0] == 46 then (if simpleN (s.data.toList.drop 1) = 0 then 0 else simpleN (s.data.toList.drop 1) + 1) else 0 := by rw [hcons]; rfl
  have hx5 : behindN 36 wordN s.data.toList = if s[0] == 36 then (if wordN (s.data.toList.drop 1) = 0 then 0 else wordN (s.data.toList.drop 1) + 1) else 0 := by rw [hcons]; rfl
  have hx6 : behindN 64 (runOf isPart) s.data.toList = if s[0] == 64 then (if runOf isPart (s.data.toList.drop 1) = 0 then 0 else runOf isPart (s.data.toList.drop 1) + 1) else 0 := by rw [hcons]; rfl
  have hx8 : quoteN s.data.toList = if s[0] == 34 then 1 else 0 := by rw [hcons]; rfl
  rw [List.length_drop, ← Lib.size_eq] at hle5 hle6
  rw [← Lib.size_eq] at hle1 hle2 hle3 hle7 hle9
  have hpl := plain_at (l := s.data.toList) _ _ _ _ _ _ _ _ _ rfl hx2 rfl hx4 hx5 hx6 rfl hx8 rfl
  cases hbl : isBlank s[0]
  · rw [hbl, if_neg (by simp)] at hx1
    rw [hbl] at Cbl
    rw [hx1] at hpl
    cases h35 : ((s[0].toNat : Int) == 35)
    · have n35 : (s[0] == 35) = false := beq_eq_false_iff_ne.2 (byte_isnt (k := 35) (by omega) h35)
      rw [n35] at hpl
      by_cases h3 : 0 < wordN s.data.toList
      · have hp : plainN s.data.toList = (3, wordN s.data.toList) := by 
          rw [hpl] 
          simp [List.find?_cons, h3] 
        have Hp := Lib.hid hp 
        clear hx1 hx2 hx4 hx5 hx6 hx8 hpl hp hcons
        generalize wordN s.data.toList = a3 at *
        go_enter Tryz.func39, Tryz.ntmps39 
        go_wp2_with (first 
          | (go_at_call 50; refine (Cbl.out _).mono ?_; rintro e w1 ⟨rfl, rfl⟩) 
          | (go_at_call 51; refine (Cbs.out _).mono ?_; rintro e w1 ⟨rfl, rfl⟩) 
          | (go_at_call 52; refine (Cno.out _).mono ?_; rintro e w1 ⟨rfl, rfl⟩) 
          | (go_at_call 53; with_reducible refine (Cwo.out _).mono ?_; rintro e w1 ⟨rfl, rfl⟩) 
          | (go_at_call 53; with_reducible refine (Cw1.out _).mono ?_; rintro e w1 ⟨rfl, rfl⟩) 
          | (go_at_call 54; refine (Cle.out _).mono ?_; rintro e w1 ⟨rfl, rfl⟩) 
          | (go_at_call 55; refine (Cp1.out _).mono ?_; rintro e w1 ⟨rfl, rfl⟩) 
          | (go_at_call 56; refine (Cnu.out _).mono ?_; rintro e w1 ⟨rfl, rfl⟩) 
          | (go_at_call 57; refine (Cop.out _).mono ?_; rintro e w1 ⟨rfl, hb⟩; have hr2 := (hb.block _ (heap_lt hr)).trans hr; have hB2 := hB.trans (hb.mono hB.size); have r0 := cell_of_block hr2 (o := 0) rfl; have r1 := cell_of_block hr2 (o := 1) rfl; have rf0 := frozen_of_row w1 w.heap.size 0 _ _ hr2; have rf1 := frozen_of_row w1 w.heap.size 1 _ _ hr2; clear hb))
        exact bodyPost_ret (v := .agg #[.int .i64 3, .string (s.extract 0 (a3))]) (by simp [results, Tryz.results39, go_sem]) rfl (by rw [Hp.out]; exact ⟨_, rfl, cut0 _ _, (Below.refl _ _).alloc (Nat.le_refl _) _⟩)
      · have hz3 : wordN s.data.toList = 0 := by omega
        rw [hz3] at hpl Cwo
        cases h46 : ((s[0].toNat : Int) == 46)
        · have n46 : (s[0] == 46) = false := beq_eq_false_iff_ne.2 (byte_isnt (k := 46) (by omega) h46)
          rw [n46] at hpl
          cases h36 : ((s[0].toNat : Int) == 36)
          · have n36 : (s[0] == 36) = false := beq_eq_false_iff_ne.2 (byte_isnt (k := 36) (by omega) h36)
            rw [n36] at hpl
            cases h64 : ((s[0].toNat : Int) == 64)
            · have n64 : (s[0] == 64) = false := beq_eq_false_iff_ne.2 (byte_isnt (k := 64) (by omega) h64)
              rw [n64] at hpl
              by_cases h7 : 0 < numberN s.data.toList 
              · have hp : plainN s.data.toList = (6, numberN s.data.toList) := by 
                  rw [hpl] 
                  simp [List.find?_cons, h7] 
                have Hp := Lib.hid hp 
                clear hx1 hx2 hx4 hx5 hx6 hx8 hpl hp hcons 
                generalize numberN s.data.toList = a7 at * 
                go_enter Tryz.func39, Tryz.ntmps39 
                go_wp2_with (first 
                  | (go_at_call 50; refine (Cbl.out _).mono ?_; rintro e w1 ⟨rfl, rfl⟩) 
                  | (go_at_call 51; refine (Cbs.out _).mono ?_; rintro e w1 ⟨rfl, rfl⟩) 
                  | (go_at_call 52; refine (Cno.out _).mono ?_; rintro e w1 ⟨rfl, rfl⟩) 
                  | (go_at_call 53; with_reducible refine (Cwo.out _).mono ?_; rintro e w1 ⟨rfl, rfl⟩) 
                  | (go_at_call 53; with_reducible refine (Cw1.out _).mono ?_; rintro e w1 ⟨rfl, rfl⟩) 
                  | (go_at_call 54; refine (Cle.out _).mono ?_; rintro e w1 ⟨rfl, rfl⟩) 
                  | (go_at_call 55; refine (Cp1.out _).mono ?_; rintro e w1 ⟨rfl, rfl⟩) 
                  | (go_at_call 56; refine (Cnu.out _).mono ?_; rintro e w1 ⟨rfl, rfl⟩) 
                  | (go_at_call 57; refine (Cop.out _).mono ?_; rintro e w1 ⟨rfl, hb⟩; have hr2 := (hb.block _ (heap_lt hr)).trans hr; have hB2 := hB.trans (hb.mono hB.size); have r0 := cell_of_block hr2 (o := 0) rfl; have r1 := cell_of_block hr2 (o := 1) rfl; have rf0 := frozen_of_row w1 w.heap.size 0 _ _ hr2; have rf1 := frozen_of_row w1 w.heap.size 1 _ _ hr2; clear hb)) 
                exact bodyPost_ret (v := .agg #[.int .i64 6, .string (s.extract 0 (a7))]) (by simp [results, Tryz.results39, go_sem]) rfl (by rw [Hp.out]; exact ⟨_, rfl, cut0 _ _, (Below.refl _ _).alloc (Nat.le_refl _) _⟩) 
              · have hz7 : numberN s.data.toList = 0 := by omega 
                rw [hz7] at hpl Cnu 
                cases h34 : ((s[0].toNat : Int) == 34) 
                · have n34 : (s[0] == 34) = false := beq_eq_false_iff_ne.2 (byte_isnt (k := 34) (by omega) h34) 
                  rw [n34] at hpl 
                  have hp : plainN s.data.toList = (13, operN s.data.toList) := by 
                    rw [hpl] 
                    (rcases Nat.eq_zero_or_pos (operN s.data.toList) with h9 | h9 <;> simp [List.find?_cons, h9]) 
                  have Hp := Lib.hid hp 
                  clear hx1 hx2 hx4 hx5 hx6 hx8 hpl hp hcons 
                  generalize operN s.data.toList = a9 at * 
                  go_enter Tryz.func39, Tryz.ntmps39 
                  go_wp2_with (first 
                    | (go_at_call 50; refine (Cbl.out _).mono ?_; rintro e w1 ⟨rfl, rfl⟩) 
                    | (go_at_call 51; refine (Cbs.out _).mono ?_; rintro e w1 ⟨rfl, rfl⟩) 
                    | (go_at_call 52; refine (Cno.out _).mono ?_; rintro e w1 ⟨rfl, rfl⟩) 
                    | (go_at_call 53; with_reducible refine (Cwo.out _).mono ?_; rintro e w1 ⟨rfl, rfl⟩) 
                    | (go_at_call 53; with_reducible refine (Cw1.out _).mono ?_; rintro e w1 ⟨rfl, rfl⟩) 
                    | (go_at_call 54; refine (Cle.out _).mono ?_; rintro e w1 ⟨rfl, rfl⟩) 
                    | (go_at_call 55; refine (Cp1.out _).mono ?_; rintro e w1 ⟨rfl, rfl⟩) 
                    | (go_at_call 56; refine (Cnu.out _).mono ?_; rintro e w1 ⟨rfl, rfl⟩) 
                    | (go_at_call 57; refine (Cop.out _).mono ?_; rintro e w1 ⟨rfl, hb⟩; have hr2 := (hb.block _ (heap_lt hr)).trans hr; have hB2 := hB.trans (hb.mono hB.size); have r0 := cell_of_block hr2 (o := 0) rfl; have r1 := cell_of_block hr2 (o := 1) rfl; have rf0 := frozen_of_row w1 w.heap.size 0 _ _ hr2; have rf1 := frozen_of_row w1 w.heap.size 1 _ _ hr2; clear hb)) 
                  have e2 := tok_laid (x := .int .i64 13) (y := .string (s.extract 0 (a9))) hr2 
                  have q0 := cell_of_block e2 (o := 0) rfl 
                  have q1 := cell_of_block e2 (o := 1) rfl 
                  exact bodyPost_ret (v := .agg #[.int .i64 13, .string (s.extract 0 (a9))]) (by simp [results, Tryz.results39, go_sem, q0, q1]) rfl (by rw [Hp.out]; exact ⟨_, rfl, cut0 _ _, tok_below hB2⟩) 
                · have n34 : (s[0] == 34) = true := beq_iff_eq.2 (byte_is (k := 34) (by omega) h34) 
                  rw [n34] at hpl 
                  have hp : plainN s.data.toList = (7, 1) := by 
                    rw [hpl] 
                    simp [List.find?_cons] 
                  have Hp := Lib.hid hp 
                  clear hx1 hx2 hx4 hx5 hx6 hx8 hpl hp hcons 
                  go_enter Tryz.func39, Tryz.ntmps39 
                  go_wp2_with (first 
                    | (go_at_call 50; refine (Cbl.out _).mono ?_; rintro e w1 ⟨rfl, rfl⟩) 
                    | (go_at_call 51; refine (Cbs.out _).mono ?_; rintro e w1 ⟨rfl, rfl⟩) 
                    | (go_at_call 52; refine (Cno.out _).mono ?_; rintro e w1 ⟨rfl, rfl⟩) 
                    | (go_at_call 53; with_reducible refine (Cwo.out _).mono ?_; rintro e w1 ⟨rfl, rfl⟩) 
                    | (go_at_call 53; with_reducible refine (Cw1.out _).mono ?_; rintro e w1 ⟨rfl, rfl⟩) 
                    | (go_at_call 54; refine (Cle.out _).mono ?_; rintro e w1 ⟨rfl, rfl⟩) 
                    | (go_at_call 55; refine (Cp1.out _).mono ?_; rintro e w1 ⟨rfl, rfl⟩) 
                    | (go_at_call 56; refine (Cnu.out _).mono ?_; rintro e w1 ⟨rfl, rfl⟩) 
                    | (go_at_call 57; refine (Cop.out _).mono ?_; rintro e w1 ⟨rfl, hb⟩; have hr2 := (hb.block _ (heap_lt hr)).trans hr; have hB2 := hB.trans (hb.mono hB.size); have r0 := cell_of_block hr2 (o := 0) rfl; have r1 := cell_of_block hr2 (o := 1) rfl; have rf0 := frozen_of_row w1 w.heap.size 0 _ _ hr2; have rf1 := frozen_of_row w1 w.heap.size 1 _ _ hr2; clear hb)) 
                  exact bodyPost_ret (v := .agg #[.int .i64 7, .string (s.extract 0 (1))]) (by simp [results, Tryz.results39, go_sem]) rfl (by rw [Hp.out]; exact ⟨_, rfl, cut0 _ _, (Below.refl _ _).alloc (Nat.le_refl _) _⟩)
            · have n64 : (s[0] == 64) = true := beq_iff_eq.2 (byte_is (k := 64) (by omega) h64)
              rw [n64, if_pos rfl] at hpl
              by_cases hp1 : runOf isPart (s.data.toList.drop 1) = 0
              · rw [if_pos hp1] at hpl
                rw [hp1] at Cp1
                by_cases h7 : 0 < numberN s.data.toList 
                · have hp : plainN s.data.toList = (6, numberN s.data.toList) := by 
                    rw [hpl] 
                    simp [List.find?_cons, h7] 
                  have Hp := Lib.hid hp 
                  clear hx1 hx2 hx4 hx5 hx6 hx8 hpl hp hcons 
                  generalize numberN s.data.toList = a7 at * 
                  go_enter Tryz.func39, Tryz.ntmps39 
                  go_wp2_with (first 
                    | (go_at_call 50; refine (Cbl.out _).mono ?_; rintro e w1 ⟨rfl, rfl⟩) 
                    | (go_at_call 51; refine (Cbs.out _).mono ?_; rintro e w1 ⟨rfl, rfl⟩) 
                    | (go_at_call 52; refine (Cno.out _).mono ?_; rintro e w1 ⟨rfl, rfl⟩) 
                    | (go_at_call 53; with_reducible refine (Cwo.out _).mono ?_; rintro e w1 ⟨rfl, rfl⟩) 
                    | (go_at_call 53; with_reducible refine (Cw1.out _).mono ?_; rintro e w1 ⟨rfl, rfl⟩) 
                    | (go_at_call 54; refine (Cle.out _).mono ?_; rintro e w1 ⟨rfl, rfl⟩) 
                    | (go_at_call 55; refine (Cp1.out _).mono ?_; rintro e w1 ⟨rfl, rfl⟩) 
                    | (go_at_call 56; refine (Cnu.out _).mono ?_; rintro e w1 ⟨rfl, rfl⟩) 
                    | (go_at_call 57; refine (Cop.out _).mono ?_; rintro e w1 ⟨rfl, hb⟩; have hr2 := (hb.block _ (heap_lt hr)).trans hr; have hB2 := hB.trans (hb.mono hB.size); have r0 := cell_of_block hr2 (o := 0) rfl; have r1 := cell_of_block hr2 (o := 1) rfl; have rf0 := frozen_of_row w1 w.heap.size 0 _ _ hr2; have rf1 := frozen_of_row w1 w.heap.size 1 _ _ hr2; clear hb)) 
                  exact bodyPost_ret (v := .agg #[.int .i64 6, .string (s.extract 0 (a7))]) (by simp [results, Tryz.results39, go_sem]) rfl (by rw [Hp.out]; exact ⟨_, rfl, cut0 _ _, (Below.refl _ _).alloc (Nat.le_refl _) _⟩) 
                · have hz7 : numberN s.data.toList = 0 := by omega 
                  rw [hz7] at hpl Cnu 
                  cases h34 : ((s[0].toNat : Int) == 34) 
                  · have n34 : (s[0] == 34) = false := beq_eq_false_iff_ne.2 (byte_isnt (k := 34) (by omega) h34) 
                    rw [n34] at hpl 
                    have hp : plainN s.data.toList = (13, operN s.data.toList) := by 
                      rw [hpl] 
                      (rcases Nat.eq_zero_or_pos (operN s.data.toList) with h9 | h9 <;> simp [List.find?_cons, h9]) 
                    have Hp := Lib.hid hp 
                    clear hx1 hx2 hx4 hx5 hx6 hx8 hpl hp hcons 
                    generalize operN s.data.toList = a9 at * 
                    go_enter Tryz.func39, Tryz.ntmps39 
                    go_wp2_with (first 
                      | (go_at_call 50; refine (Cbl.out _).mono ?_; rintro e w1 ⟨rfl, rfl⟩) 
                      | (go_at_call 51; refine (Cbs.out _).mono ?_; rintro e w1 ⟨rfl, rfl⟩) 
                      | (go_at_call 52; refine (Cno.out _).mono ?_; rintro e w1 ⟨rfl, rfl⟩) 
                      | (go_at_call 53; with_reducible refine (Cwo.out _).mono ?_; rintro e w1 ⟨rfl, rfl⟩) 
                      | (go_at_call 53; with_reducible refine (Cw1.out _).mono ?_; rintro e w1 ⟨rfl, rfl⟩) 
                      | (go_at_call 54; refine (Cle.out _).mono ?_; rintro e w1 ⟨rfl, rfl⟩) 
                      | (go_at_call 55; refine (Cp1.out _).mono ?_; rintro e w1 ⟨rfl, rfl⟩) 
                      | (go_at_call 56; refine (Cnu.out _).mono ?_; rintro e w1 ⟨rfl, rfl⟩) 
                      | (go_at_call 57; refine (Cop.out _).mono ?_; rintro e w1 ⟨rfl, hb⟩; have hr2 := (hb.block _ (heap_lt hr)).trans hr; have hB2 := hB.trans (hb.mono hB.size); have r0 := cell_of_block hr2 (o := 0) rfl; have r1 := cell_of_block hr2 (o := 1) rfl; have rf0 := frozen_of_row w1 w.heap.size 0 _ _ hr2; have rf1 := frozen_of_row w1 w.heap.size 1 _ _ hr2; clear hb)) 
                    have e2 := tok_laid (x := .int .i64 13) (y := .string (s.extract 0 (a9))) hr2 
                    have q0 := cell_of_block e2 (o := 0) rfl 
                    have q1 := cell_of_block e2 (o := 1) rfl 
                    exact bodyPost_ret (v := .agg #[.int .i64 13, .string (s.extract 0 (a9))]) (by simp [results, Tryz.results39, go_sem, q0, q1]) rfl (by rw [Hp.out]; exact ⟨_, rfl, cut0 _ _, tok_below hB2⟩) 
                  · have n34 : (s[0] == 34) = true := beq_iff_eq.2 (byte_is (k := 34) (by omega) h34) 
                    rw [n34] at hpl 
                    have hp : plainN s.data.toList = (7, 1) := by 
                      rw [hpl] 
                      simp [List.find?_cons] 
                    have Hp := Lib.hid hp 
                    clear hx1 hx2 hx4 hx5 hx6 hx8 hpl hp hcons 
                    go_enter Tryz.func39, Tryz.ntmps39 
                    go_wp2_with (first 
                      | (go_at_call 50; refine (Cbl.out _).mono ?_; rintro e w1 ⟨rfl, rfl⟩) 
                      | (go_at_call 51; refine (Cbs.out _).mono ?_; rintro e w1 ⟨rfl, rfl⟩) 
                      | (go_at_call 52; refine (Cno.out _).mono ?_; rintro e w1 ⟨rfl, rfl⟩) 
                      | (go_at_call 53; with_reducible refine (Cwo.out _).mono ?_; rintro e w1 ⟨rfl, rfl⟩) 
                      | (go_at_call 53; with_reducible refine (Cw1.out _).mono ?_; rintro e w1 ⟨rfl, rfl⟩) 
                      | (go_at_call 54; refine (Cle.out _).mono ?_; rintro e w1 ⟨rfl, rfl⟩) 
                      | (go_at_call 55; refine (Cp1.out _).mono ?_; rintro e w1 ⟨rfl, rfl⟩) 
                      | (go_at_call 56; refine (Cnu.out _).mono ?_; rintro e w1 ⟨rfl, rfl⟩) 
                      | (go_at_call 57; refine (Cop.out _).mono ?_; rintro e w1 ⟨rfl, hb⟩; have hr2 := (hb.block _ (heap_lt hr)).trans hr; have hB2 := hB.trans (hb.mono hB.size); have r0 := cell_of_block hr2 (o := 0) rfl; have r1 := cell_of_block hr2 (o := 1) rfl; have rf0 := frozen_of_row w1 w.heap.size 0 _ _ hr2; have rf1 := frozen_of_row w1 w.heap.size 1 _ _ hr2; clear hb)) 
                    exact bodyPost_ret (v := .agg #[.int .i64 7, .string (s.extract 0 (1))]) (by simp [results, Tryz.results39, go_sem]) rfl (by rw [Hp.out]; exact ⟨_, rfl, cut0 _ _, (Below.refl _ _).alloc (Nat.le_refl _) _⟩)
              · rw [if_neg hp1] at hpl
                have hp : plainN s.data.toList = (12, 1 + runOf isPart (s.data.toList.drop 1)) := by 
                  rw [hpl] 
                  (simp [List.find?_cons]; omega) 
                have Hp := Lib.hid hp 
                clear hx1 hx2 hx4 hx5 hx6 hx8 hpl hp hcons
                generalize runOf isPart (s.data.toList.drop 1) = a6 at *
                go_enter Tryz.func39, Tryz.ntmps39 
                go_wp2_with (first 
                  | (go_at_call 50; refine (Cbl.out _).mono ?_; rintro e w1 ⟨rfl, rfl⟩) 
                  | (go_at_call 51; refine (Cbs.out _).mono ?_; rintro e w1 ⟨rfl, rfl⟩) 
                  | (go_at_call 52; refine (Cno.out _).mono ?_; rintro e w1 ⟨rfl, rfl⟩) 
                  | (go_at_call 53; with_reducible refine (Cwo.out _).mono ?_; rintro e w1 ⟨rfl, rfl⟩) 
                  | (go_at_call 53; with_reducible refine (Cw1.out _).mono ?_; rintro e w1 ⟨rfl, rfl⟩) 
                  | (go_at_call 54; refine (Cle.out _).mono ?_; rintro e w1 ⟨rfl, rfl⟩) 
                  | (go_at_call 55; refine (Cp1.out _).mono ?_; rintro e w1 ⟨rfl, rfl⟩) 
                  | (go_at_call 56; refine (Cnu.out _).mono ?_; rintro e w1 ⟨rfl, rfl⟩) 
                  | (go_at_call 57; refine (Cop.out _).mono ?_; rintro e w1 ⟨rfl, hb⟩; have hr2 := (hb.block _ (heap_lt hr)).trans hr; have hB2 := hB.trans (hb.mono hB.size); have r0 := cell_of_block hr2 (o := 0) rfl; have r1 := cell_of_block hr2 (o := 1) rfl; have rf0 := frozen_of_row w1 w.heap.size 0 _ _ hr2; have rf1 := frozen_of_row w1 w.heap.size 1 _ _ hr2; clear hb))
                exact bodyPost_ret (v := .agg #[.int .i64 12, .string (s.extract 0 (1 + a6))]) (by simp [results, Tryz.results39, go_sem]) rfl (by rw [Hp.out]; exact ⟨_, rfl, cut0 _ _, (Below.refl _ _).alloc (Nat.le_refl _) _⟩)
          · have b36 := byte_is (k := 36) (by omega) h36
            have n36 : (s[0] == 36) = true := beq_iff_eq.2 b36
            have h64 : ((s[0].toNat : Int) == 64) = false := by rw [b36]; rfl
            have n64 : (s[0] == 64) = false := by rw [b36]; rfl
            rw [n36, if_pos rfl, n64] at hpl
            clear b36
            by_cases hp1 : wordN (s.data.toList.drop 1) = 0
            · rw [if_pos hp1] at hpl
              rw [hp1] at Cw1
              by_cases h7 : 0 < numberN s.data.toList 
              · have hp : plainN s.data.toList = (6, numberN s.data.toList) := by 
                  rw [hpl] 
                  simp [List.find?_cons, h7] 
                have Hp := Lib.hid hp 
                clear hx1 hx2 hx4 hx5 hx6 hx8 hpl hp hcons 
                generalize numberN s.data.toList = a7 at * 
                go_enter Tryz.func39, Tryz.ntmps39 
                go_wp2_with (first 
                  | (go_at_call 50; refine (Cbl.out _).mono ?_; rintro e w1 ⟨rfl, rfl⟩) 
                  | (go_at_call 51; refine (Cbs.out _).mono ?_; rintro e w1 ⟨rfl, rfl⟩) 
                  | (go_at_call 52; refine (Cno.out _).mono ?_; rintro e w1 ⟨rfl, rfl⟩) 
                  | (go_at_call 53; with_reducible refine (Cwo.out _).mono ?_; rintro e w1 ⟨rfl, rfl⟩) 
                  | (go_at_call 53; with_reducible refine (Cw1.out _).mono ?_; rintro e w1 ⟨rfl, rfl⟩) 
                  | (go_at_call 54; refine (Cle.out _).mono ?_; rintro e w1 ⟨rfl, rfl⟩) 
                  | (go_at_call 55; refine (Cp1.out _).mono ?_; rintro e w1 ⟨rfl, rfl⟩) 
                  | (go_at_call 56; refine (Cnu.out _).mono ?_; rintro e w1 ⟨rfl, rfl⟩) 
                  | (go_at_call 57; refine (Cop.out _).mono ?_; rintro e w1 ⟨rfl, hb⟩; have hr2 := (hb.block _ (heap_lt hr)).trans hr; have hB2 := hB.trans (hb.mono hB.size); have r0 := cell_of_block hr2 (o := 0) rfl; have r1 := cell_of_block hr2 (o := 1) rfl; have rf0 := frozen_of_row w1 w.heap.size 0 _ _ hr2; have rf1 := frozen_of_row w1 w.heap.size 1 _ _ hr2; clear hb)) 
                exact bodyPost_ret (v := .agg #[.int .i64 6, .string (s.extract 0 (a7))]) (by simp [results, Tryz.results39, go_sem]) rfl (by rw [Hp.out]; exact ⟨_, rfl, cut0 _ _, (Below.refl _ _).alloc (Nat.le_refl _) _⟩) 
              · have hz7 : numberN s.data.toList = 0 := by omega 
                rw [hz7] at hpl Cnu 
                cases h34 : ((s[0].toNat : Int) == 34) 
                · have n34 : (s[0] == 34) = false := beq_eq_false_iff_ne.2 (byte_isnt (k := 34) (by omega) h34) 
                  rw [n34] at hpl 
                  have hp : plainN s.data.toList = (13, operN s.data.toList) := by 
                    rw [hpl] 
                    (rcases Nat.eq_zero_or_pos (operN s.data.toList) with h9 | h9 <;> simp [List.find?_cons, h9]) 
                  have Hp := Lib.hid hp 
                  clear hx1 hx2 hx4 hx5 hx6 hx8 hpl hp hcons 
                  generalize operN s.data.toList = a9 at * 
                  go_enter Tryz.func39, Tryz.ntmps39 
                  go_wp2_with (first 
                    | (go_at_call 50; refine (Cbl.out _).mono ?_; rintro e w1 ⟨rfl, rfl⟩) 
                    | (go_at_call 51; refine (Cbs.out _).mono ?_; rintro e w1 ⟨rfl, rfl⟩) 
                    | (go_at_call 52; refine (Cno.out _).mono ?_; rintro e w1 ⟨rfl, rfl⟩) 
                    | (go_at_call 53; with_reducible refine (Cwo.out _).mono ?_; rintro e w1 ⟨rfl, rfl⟩) 
                    | (go_at_call 53; with_reducible refine (Cw1.out _).mono ?_; rintro e w1 ⟨rfl, rfl⟩) 
                    | (go_at_call 54; refine (Cle.out _).mono ?_; rintro e w1 ⟨rfl, rfl⟩) 
                    | (go_at_call 55; refine (Cp1.out _).mono ?_; rintro e w1 ⟨rfl, rfl⟩) 
                    | (go_at_call 56; refine (Cnu.out _).mono ?_; rintro e w1 ⟨rfl, rfl⟩) 
                    | (go_at_call 57; refine (Cop.out _).mono ?_; rintro e w1 ⟨rfl, hb⟩; have hr2 := (hb.block _ (heap_lt hr)).trans hr; have hB2 := hB.trans (hb.mono hB.size); have r0 := cell_of_block hr2 (o := 0) rfl; have r1 := cell_of_block hr2 (o := 1) rfl; have rf0 := frozen_of_row w1 w.heap.size 0 _ _ hr2; have rf1 := frozen_of_row w1 w.heap.size 1 _ _ hr2; clear hb)) 
                  have e2 := tok_laid (x := .int .i64 13) (y := .string (s.extract 0 (a9))) hr2 
                  have q0 := cell_of_block e2 (o := 0) rfl 
                  have q1 := cell_of_block e2 (o := 1) rfl 
                  exact bodyPost_ret (v := .agg #[.int .i64 13, .string (s.extract 0 (a9))]) (by simp [results, Tryz.results39, go_sem, q0, q1]) rfl (by rw [Hp.out]; exact ⟨_, rfl, cut0 _ _, tok_below hB2⟩) 
                · have n34 : (s[0] == 34) = true := beq_iff_eq.2 (byte_is (k := 34) (by omega) h34) 
                  rw [n34] at hpl 
                  have hp : plainN s.data.toList = (7, 1) := by 
                    rw [hpl] 
                    simp [List.find?_cons] 
                  have Hp := Lib.hid hp 
                  clear hx1 hx2 hx4 hx5 hx6 hx8 hpl hp hcons 
                  go_enter Tryz.func39, Tryz.ntmps39 
                  go_wp2_with (first 
                    | (go_at_call 50; refine (Cbl.out _).mono ?_; rintro e w1 ⟨rfl, rfl⟩) 
                    | (go_at_call 51; refine (Cbs.out _).mono ?_; rintro e w1 ⟨rfl, rfl⟩) 
                    | (go_at_call 52; refine (Cno.out _).mono ?_; rintro e w1 ⟨rfl, rfl⟩) 
                    | (go_at_call 53; with_reducible refine (Cwo.out _).mono ?_; rintro e w1 ⟨rfl, rfl⟩) 
                    | (go_at_call 53; with_reducible refine (Cw1.out _).mono ?_; rintro e w1 ⟨rfl, rfl⟩) 
                    | (go_at_call 54; refine (Cle.out _).mono ?_; rintro e w1 ⟨rfl, rfl⟩) 
                    | (go_at_call 55; refine (Cp1.out _).mono ?_; rintro e w1 ⟨rfl, rfl⟩) 
                    | (go_at_call 56; refine (Cnu.out _).mono ?_; rintro e w1 ⟨rfl, rfl⟩) 
                    | (go_at_call 57; refine (Cop.out _).mono ?_; rintro e w1 ⟨rfl, hb⟩; have hr2 := (hb.block _ (heap_lt hr)).trans hr; have hB2 := hB.trans (hb.mono hB.size); have r0 := cell_of_block hr2 (o := 0) rfl; have r1 := cell_of_block hr2 (o := 1) rfl; have rf0 := frozen_of_row w1 w.heap.size 0 _ _ hr2; have rf1 := frozen_of_row w1 w.heap.size 1 _ _ hr2; clear hb)) 
                  exact bodyPost_ret (v := .agg #[.int .i64 7, .string (s.extract 0 (1))]) (by simp [results, Tryz.results39, go_sem]) rfl (by rw [Hp.out]; exact ⟨_, rfl, cut0 _ _, (Below.refl _ _).alloc (Nat.le_refl _) _⟩)
            · rw [if_neg hp1] at hpl
              have hp : plainN s.data.toList = (5, 1 + wordN (s.data.toList.drop 1)) := by 
                rw [hpl] 
                (simp [List.find?_cons]; omega) 
              have Hp := Lib.hid hp 
              clear hx1 hx2 hx4 hx5 hx6 hx8 hpl hp hcons
              generalize wordN (s.data.toList.drop 1) = a5 at *
              go_enter Tryz.func39, Tryz.ntmps39 
              go_wp2_with (first 
                | (go_at_call 50; refine (Cbl.out _).mono ?_; rintro e w1 ⟨rfl, rfl⟩) 
                | (go_at_call 51; refine (Cbs.out _).mono ?_; rintro e w1 ⟨rfl, rfl⟩) 
                | (go_at_call 52; refine (Cno.out _).mono ?_; rintro e w1 ⟨rfl, rfl⟩) 
                | (go_at_call 53; with_reducible refine (Cwo.out _).mono ?_; rintro e w1 ⟨rfl, rfl⟩) 
                | (go_at_call 53; with_reducible refine (Cw1.out _).mono ?_; rintro e w1 ⟨rfl, rfl⟩) 
                | (go_at_call 54; refine (Cle.out _).mono ?_; rintro e w1 ⟨rfl, rfl⟩) 
                | (go_at_call 55; refine (Cp1.out _).mono ?_; rintro e w1 ⟨rfl, rfl⟩) 
                | (go_at_call 56; refine (Cnu.out _).mono ?_; rintro e w1 ⟨rfl, rfl⟩) 
                | (go_at_call 57; refine (Cop.out _).mono ?_; rintro e w1 ⟨rfl, hb⟩; have hr2 := (hb.block _ (heap_lt hr)).trans hr; have hB2 := hB.trans (hb.mono hB.size); have r0 := cell_of_block hr2 (o := 0) rfl; have r1 := cell_of_block hr2 (o := 1) rfl; have rf0 := frozen_of_row w1 w.heap.size 0 _ _ hr2; have rf1 := frozen_of_row w1 w.heap.size 1 _ _ hr2; clear hb))
              exact bodyPost_ret (v := .agg #[.int .i64 5, .string (s.extract 0 (1 + a5))]) (by simp [results, Tryz.results39, go_sem]) rfl (by rw [Hp.out]; exact ⟨_, rfl, cut0 _ _, (Below.refl _ _).alloc (Nat.le_refl _) _⟩)
        · have b46 := byte_is (k := 46) (by omega) h46
          have n46 : (s[0] == 46) = true := beq_iff_eq.2 b46
          have h36 : ((s[0].toNat : Int) == 36) = false := by rw [b46]; rfl
          have n36 : (s[0] == 36) = false := by rw [b46]; rfl
          have h64 : ((s[0].toNat : Int) == 64) = false := by rw [b46]; rfl
          have n64 : (s[0] == 64) = false := by rw [b46]; rfl
          rw [n46, if_pos rfl, n36, n64] at hpl
          clear b46
          by_cases hl1 : 1 < s.size
          · have hd1 : s.data.toList.drop 1 = s[1] :: s.data.toList.drop 2 := drop_at (by rw [List.getElem?_eq_getElem (by rw [← Lib.size_eq]; exact hl1)]; rfl)
            have cle := fun w => rletter_calls s[1] w
            cases hlt : isLetter s[1]
            · have hs0 : simpleN (s.data.toList.drop 1) = 0 := by rw [hd1]; show (if isLetter s[1] = true then _ else 0) = 0; rw [hlt]; rfl
              rw [hs0, if_pos rfl] at hpl
              rw [hlt] at cle
              have Cle := Lib.hid cle
              clear cle hd1 hlt
              by_cases h7 : 0 < numberN s.data.toList 
              · have hp : plainN s.data.toList = (6, numberN s.data.toList) := by 
                  rw [hpl] 
                  simp [List.find?_cons, h7] 
                have Hp := Lib.hid hp 
                clear hx1 hx2 hx4 hx5 hx6 hx8 hpl hp hcons 
                generalize numberN s.data.toList = a7 at * 
                go_enter Tryz.func39, Tryz.ntmps39 
                go_wp2_with (first 
                  | (go_at_call 50; refine (Cbl.out _).mono ?_; rintro e w1 ⟨rfl, rfl⟩) 
                  | (go_at_call 51; refine (Cbs.out _).mono ?_; rintro e w1 ⟨rfl, rfl⟩) 
                  | (go_at_call 52; refine (Cno.out _).mono ?_; rintro e w1 ⟨rfl, rfl⟩) 
                  | (go_at_call 53; with_reducible refine (Cwo.out _).mono ?_; rintro e w1 ⟨rfl, rfl⟩) 
                  | (go_at_call 53; with_reducible refine (Cw1.out _).mono ?_; rintro e w1 ⟨rfl, rfl⟩) 
                  | (go_at_call 54; refine (Cle.out _).mono ?_; rintro e w1 ⟨rfl, rfl⟩) 
                  | (go_at_call 55; refine (Cp1.out _).mono ?_; rintro e w1 ⟨rfl, rfl⟩) 
                  | (go_at_call 56; refine (Cnu.out _).mono ?_; rintro e w1 ⟨rfl, rfl⟩) 
                  | (go_at_call 57; refine (Cop.out _).mono ?_; rintro e w1 ⟨rfl, hb⟩; have hr2 := (hb.block _ (heap_lt hr)).trans hr; have hB2 := hB.trans (hb.mono hB.size); have r0 := cell_of_block hr2 (o := 0) rfl; have r1 := cell_of_block hr2 (o := 1) rfl; have rf0 := frozen_of_row w1 w.heap.size 0 _ _ hr2; have rf1 := frozen_of_row w1 w.heap.size 1 _ _ hr2; clear hb)) 
                exact bodyPost_ret (v := .agg #[.int .i64 6, .string (s.extract 0 (a7))]) (by simp [results, Tryz.results39, go_sem]) rfl (by rw [Hp.out]; exact ⟨_, rfl, cut0 _ _, (Below.refl _ _).alloc (Nat.le_refl _) _⟩) 
              · have hz7 : numberN s.data.toList = 0 := by omega 
                rw [hz7] at hpl Cnu 
                cases h34 : ((s[0].toNat : Int) == 34) 
                · have n34 : (s[0] == 34) = false := beq_eq_false_iff_ne.2 (byte_isnt (k := 34) (by omega) h34) 
                  rw [n34] at hpl 
                  have hp : plainN s.data.toList = (13, operN s.data.toList) := by 
                    rw [hpl] 
                    (rcases Nat.eq_zero_or_pos (operN s.data.toList) with h9 | h9 <;> simp [List.find?_cons, h9]) 
                  have Hp := Lib.hid hp 
                  clear hx1 hx2 hx4 hx5 hx6 hx8 hpl hp hcons 
                  generalize operN s.data.toList = a9 at * 
                  go_enter Tryz.func39, Tryz.ntmps39 
                  go_wp2_with (first 
                    | (go_at_call 50; refine (Cbl.out _).mono ?_; rintro e w1 ⟨rfl, rfl⟩) 
                    | (go_at_call 51; refine (Cbs.out _).mono ?_; rintro e w1 ⟨rfl, rfl⟩) 
                    | (go_at_call 52; refine (Cno.out _).mono ?_; rintro e w1 ⟨rfl, rfl⟩) 
                    | (go_at_call 53; with_reducible refine (Cwo.out _).mono ?_; rintro e w1 ⟨rfl, rfl⟩) 
                    | (go_at_call 53; with_reducible refine (Cw1.out _).mono ?_; rintro e w1 ⟨rfl, rfl⟩) 
                    | (go_at_call 54; refine (Cle.out _).mono ?_; rintro e w1 ⟨rfl, rfl⟩) 
                    | (go_at_call 55; refine (Cp1.out _).mono ?_; rintro e w1 ⟨rfl, rfl⟩) 
                    | (go_at_call 56; refine (Cnu.out _).mono ?_; rintro e w1 ⟨rfl, rfl⟩) 
                    | (go_at_call 57; refine (Cop.out _).mono ?_; rintro e w1 ⟨rfl, hb⟩; have hr2 := (hb.block _ (heap_lt hr)).trans hr; have hB2 := hB.trans (hb.mono hB.size); have r0 := cell_of_block hr2 (o := 0) rfl; have r1 := cell_of_block hr2 (o := 1) rfl; have rf0 := frozen_of_row w1 w.heap.size 0 _ _ hr2; have rf1 := frozen_of_row w1 w.heap.size 1 _ _ hr2; clear hb)) 
                  have e2 := tok_laid (x := .int .i64 13) (y := .string (s.extract 0 (a9))) hr2 
                  have q0 := cell_of_block e2 (o := 0) rfl 
                  have q1 := cell_of_block e2 (o := 1) rfl 
                  exact bodyPost_ret (v := .agg #[.int .i64 13, .string (s.extract 0 (a9))]) (by simp [results, Tryz.results39, go_sem, q0, q1]) rfl (by rw [Hp.out]; exact ⟨_, rfl, cut0 _ _, tok_below hB2⟩) 
                · have n34 : (s[0] == 34) = true := beq_iff_eq.2 (byte_is (k := 34) (by omega) h34) 
                  rw [n34] at hpl 
                  have hp : plainN s.data.toList = (7, 1) := by 
                    rw [hpl] 
                    simp [List.find?_cons] 
                  have Hp := Lib.hid hp 
                  clear hx1 hx2 hx4 hx5 hx6 hx8 hpl hp hcons 
                  go_enter Tryz.func39, Tryz.ntmps39 
                  go_wp2_with (first 
                    | (go_at_call 50; refine (Cbl.out _).mono ?_; rintro e w1 ⟨rfl, rfl⟩) 
                    | (go_at_call 51; refine (Cbs.out _).mono ?_; rintro e w1 ⟨rfl, rfl⟩) 
                    | (go_at_call 52; refine (Cno.out _).mono ?_; rintro e w1 ⟨rfl, rfl⟩) 
                    | (go_at_call 53; with_reducible refine (Cwo.out _).mono ?_; rintro e w1 ⟨rfl, rfl⟩) 
                    | (go_at_call 53; with_reducible refine (Cw1.out _).mono ?_; rintro e w1 ⟨rfl, rfl⟩) 
                    | (go_at_call 54; refine (Cle.out _).mono ?_; rintro e w1 ⟨rfl, rfl⟩) 
                    | (go_at_call 55; refine (Cp1.out _).mono ?_; rintro e w1 ⟨rfl, rfl⟩) 
                    | (go_at_call 56; refine (Cnu.out _).mono ?_; rintro e w1 ⟨rfl, rfl⟩) 
                    | (go_at_call 57; refine (Cop.out _).mono ?_; rintro e w1 ⟨rfl, hb⟩; have hr2 := (hb.block _ (heap_lt hr)).trans hr; have hB2 := hB.trans (hb.mono hB.size); have r0 := cell_of_block hr2 (o := 0) rfl; have r1 := cell_of_block hr2 (o := 1) rfl; have rf0 := frozen_of_row w1 w.heap.size 0 _ _ hr2; have rf1 := frozen_of_row w1 w.heap.size 1 _ _ hr2; clear hb)) 
                  exact bodyPost_ret (v := .agg #[.int .i64 7, .string (s.extract 0 (1))]) (by simp [results, Tryz.results39, go_sem]) rfl (by rw [Hp.out]; exact ⟨_, rfl, cut0 _ _, (Below.refl _ _).alloc (Nat.le_refl _) _⟩)
            · have hsx : simpleN (s.data.toList.drop 1) = runOf isPart (s.data.toList.drop 1) := by rw [hd1]; show (if isLetter s[1] = true then _ else 0) = _; rw [hlt]; rfl
              have hp0 : 0 < runOf isPart (s.data.toList.drop 1) := by rw [hd1, run_cons, part_parts, hlt]; simp
              have hp1 : ¬ runOf isPart (s.data.toList.drop 1) = 0 := Nat.ne_of_gt hp0
              rw [hsx, if_neg hp1] at hpl
              rw [hlt] at cle
              have Cle := Lib.hid cle
              clear cle hd1 hlt
              have hp : plainN s.data.toList = (4, 1 + runOf isPart (s.data.toList.drop 1)) := by 
                rw [hpl] 
                (simp [List.find?_cons]; omega) 
              have Hp := Lib.hid hp 
              clear hx1 hx2 hx4 hx5 hx6 hx8 hpl hp hcons
              clear hsx hp1
              generalize runOf isPart (s.data.toList.drop 1) = a4 at *
              go_enter Tryz.func39, Tryz.ntmps39 
              go_wp2_with (first 
                | (go_at_call 50; refine (Cbl.out _).mono ?_; rintro e w1 ⟨rfl, rfl⟩) 
                | (go_at_call 51; refine (Cbs.out _).mono ?_; rintro e w1 ⟨rfl, rfl⟩) 
                | (go_at_call 52; refine (Cno.out _).mono ?_; rintro e w1 ⟨rfl, rfl⟩) 
                | (go_at_call 53; with_reducible refine (Cwo.out _).mono ?_; rintro e w1 ⟨rfl, rfl⟩) 
                | (go_at_call 53; with_reducible refine (Cw1.out _).mono ?_; rintro e w1 ⟨rfl, rfl⟩) 
                | (go_at_call 54; refine (Cle.out _).mono ?_; rintro e w1 ⟨rfl, rfl⟩) 
                | (go_at_call 55; refine (Cp1.out _).mono ?_; rintro e w1 ⟨rfl, rfl⟩) 
                | (go_at_call 56; refine (Cnu.out _).mono ?_; rintro e w1 ⟨rfl, rfl⟩) 
                | (go_at_call 57; refine (Cop.out _).mono ?_; rintro e w1 ⟨rfl, hb⟩; have hr2 := (hb.block _ (heap_lt hr)).trans hr; have hB2 := hB.trans (hb.mono hB.size); have r0 := cell_of_block hr2 (o := 0) rfl; have r1 := cell_of_block hr2 (o := 1) rfl; have rf0 := frozen_of_row w1 w.heap.size 0 _ _ hr2; have rf1 := frozen_of_row w1 w.heap.size 1 _ _ hr2; clear hb))
              exact bodyPost_ret (v := .agg #[.int .i64 4, .string (s.extract 0 (1 + a4))]) (by simp [results, Tryz.results39, go_sem]) rfl (by rw [Hp.out]; exact ⟨_, rfl, cut0 _ _, (Below.refl _ _).alloc (Nat.le_refl _) _⟩)
          · have hs0 : simpleN (s.data.toList.drop 1) = 0 := by rw [List.drop_eq_nil_of_le (by rw [← Lib.size_eq]; omega)]; rfl
            rw [hs0, if_pos rfl] at hpl
            by_cases h7 : 0 < numberN s.data.toList 
            · have hp : plainN s.data.toList = (6, numberN s.data.toList) := by 
                rw [hpl] 
                simp [List.find?_cons, h7] 
              have Hp := Lib.hid hp 
              clear hx1 hx2 hx4 hx5 hx6 hx8 hpl hp hcons 
              generalize numberN s.data.toList = a7 at * 
              go_enter Tryz.func39, Tryz.ntmps39 
              go_wp2_with (first 
                | (go_at_call 50; refine (Cbl.out _).mono ?_; rintro e w1 ⟨rfl, rfl⟩) 
                | (go_at_call 51; refine (Cbs.out _).mono ?_; rintro e w1 ⟨rfl, rfl⟩) 
                | (go_at_call 52; refine (Cno.out _).mono ?_; rintro e w1 ⟨rfl, rfl⟩) 
                | (go_at_call 53; with_reducible refine (Cwo.out _).mono ?_; rintro e w1 ⟨rfl, rfl⟩) 
                | (go_at_call 53; with_reducible refine (Cw1.out _).mono ?_; rintro e w1 ⟨rfl, rfl⟩) 
                | (go_at_call 54; refine (Cle.out _).mono ?_; rintro e w1 ⟨rfl, rfl⟩) 
                | (go_at_call 55; refine (Cp1.out _).mono ?_; rintro e w1 ⟨rfl, rfl⟩) 
                | (go_at_call 56; refine (Cnu.out _).mono ?_; rintro e w1 ⟨rfl, rfl⟩) 
                | (go_at_call 57; refine (Cop.out _).mono ?_; rintro e w1 ⟨rfl, hb⟩; have hr2 := (hb.block _ (heap_lt hr)).trans hr; have hB2 := hB.trans (hb.mono hB.size); have r0 := cell_of_block hr2 (o := 0) rfl; have r1 := cell_of_block hr2 (o := 1) rfl; have rf0 := frozen_of_row w1 w.heap.size 0 _ _ hr2; have rf1 := frozen_of_row w1 w.heap.size 1 _ _ hr2; clear hb)) 
              exact bodyPost_ret (v := .agg #[.int .i64 6, .string (s.extract 0 (a7))]) (by simp [results, Tryz.results39, go_sem]) rfl (by rw [Hp.out]; exact ⟨_, rfl, cut0 _ _, (Below.refl _ _).alloc (Nat.le_refl _) _⟩) 
            · have hz7 : numberN s.data.toList = 0 := by omega 
              rw [hz7] at hpl Cnu 
              cases h34 : ((s[0].toNat : Int) == 34) 
              · have n34 : (s[0] == 34) = false := beq_eq_false_iff_ne.2 (byte_isnt (k := 34) (by omega) h34) 
                rw [n34] at hpl 
                have hp : plainN s.data.toList = (13, operN s.data.toList) := by 
                  rw [hpl] 
                  (rcases Nat.eq_zero_or_pos (operN s.data.toList) with h9 | h9 <;> simp [List.find?_cons, h9]) 
                have Hp := Lib.hid hp 
                clear hx1 hx2 hx4 hx5 hx6 hx8 hpl hp hcons 
                generalize operN s.data.toList = a9 at * 
                go_enter Tryz.func39, Tryz.ntmps39 
                go_wp2_with (first 
                  | (go_at_call 50; refine (Cbl.out _).mono ?_; rintro e w1 ⟨rfl, rfl⟩) 
                  | (go_at_call 51; refine (Cbs.out _).mono ?_; rintro e w1 ⟨rfl, rfl⟩) 
                  | (go_at_call 52; refine (Cno.out _).mono ?_; rintro e w1 ⟨rfl, rfl⟩) 
                  | (go_at_call 53; with_reducible refine (Cwo.out _).mono ?_; rintro e w1 ⟨rfl, rfl⟩) 
                  | (go_at_call 53; with_reducible refine (Cw1.out _).mono ?_; rintro e w1 ⟨rfl, rfl⟩) 
                  | (go_at_call 54; refine (Cle.out _).mono ?_; rintro e w1 ⟨rfl, rfl⟩) 
                  | (go_at_call 55; refine (Cp1.out _).mono ?_; rintro e w1 ⟨rfl, rfl⟩) 
                  | (go_at_call 56; refine (Cnu.out _).mono ?_; rintro e w1 ⟨rfl, rfl⟩) 
                  | (go_at_call 57; refine (Cop.out _).mono ?_; rintro e w1 ⟨rfl, hb⟩; have hr2 := (hb.block _ (heap_lt hr)).trans hr; have hB2 := hB.trans (hb.mono hB.size); have r0 := cell_of_block hr2 (o := 0) rfl; have r1 := cell_of_block hr2 (o := 1) rfl; have rf0 := frozen_of_row w1 w.heap.size 0 _ _ hr2; have rf1 := frozen_of_row w1 w.heap.size 1 _ _ hr2; clear hb)) 
                have e2 := tok_laid (x := .int .i64 13) (y := .string (s.extract 0 (a9))) hr2 
                have q0 := cell_of_block e2 (o := 0) rfl 
                have q1 := cell_of_block e2 (o := 1) rfl 
                exact bodyPost_ret (v := .agg #[.int .i64 13, .string (s.extract 0 (a9))]) (by simp [results, Tryz.results39, go_sem, q0, q1]) rfl (by rw [Hp.out]; exact ⟨_, rfl, cut0 _ _, tok_below hB2⟩) 
              · have n34 : (s[0] == 34) = true := beq_iff_eq.2 (byte_is (k := 34) (by omega) h34) 
                rw [n34] at hpl 
                have hp : plainN s.data.toList = (7, 1) := by 
                  rw [hpl] 
                  simp [List.find?_cons] 
                have Hp := Lib.hid hp 
                clear hx1 hx2 hx4 hx5 hx6 hx8 hpl hp hcons 
                go_enter Tryz.func39, Tryz.ntmps39 
                go_wp2_with (first 
                  | (go_at_call 50; refine (Cbl.out _).mono ?_; rintro e w1 ⟨rfl, rfl⟩) 
                  | (go_at_call 51; refine (Cbs.out _).mono ?_; rintro e w1 ⟨rfl, rfl⟩) 
                  | (go_at_call 52; refine (Cno.out _).mono ?_; rintro e w1 ⟨rfl, rfl⟩) 
                  | (go_at_call 53; with_reducible refine (Cwo.out _).mono ?_; rintro e w1 ⟨rfl, rfl⟩) 
                  | (go_at_call 53; with_reducible refine (Cw1.out _).mono ?_; rintro e w1 ⟨rfl, rfl⟩) 
                  | (go_at_call 54; refine (Cle.out _).mono ?_; rintro e w1 ⟨rfl, rfl⟩) 
                  | (go_at_call 55; refine (Cp1.out _).mono ?_; rintro e w1 ⟨rfl, rfl⟩) 
                  | (go_at_call 56; refine (Cnu.out _).mono ?_; rintro e w1 ⟨rfl, rfl⟩) 
                  | (go_at_call 57; refine (Cop.out _).mono ?_; rintro e w1 ⟨rfl, hb⟩; have hr2 := (hb.block _ (heap_lt hr)).trans hr; have hB2 := hB.trans (hb.mono hB.size); have r0 := cell_of_block hr2 (o := 0) rfl; have r1 := cell_of_block hr2 (o := 1) rfl; have rf0 := frozen_of_row w1 w.heap.size 0 _ _ hr2; have rf1 := frozen_of_row w1 w.heap.size 1 _ _ hr2; clear hb)) 
                exact bodyPost_ret (v := .agg #[.int .i64 7, .string (s.extract 0 (1))]) (by simp [results, Tryz.results39, go_sem]) rfl (by rw [Hp.out]; exact ⟨_, rfl, cut0 _ _, (Below.refl _ _).alloc (Nat.le_refl _) _⟩)
    · have n35 : (s[0] == 35) = true := beq_iff_eq.2 (byte_is (k := 35) (by omega) h35)
      rw [n35, if_pos rfl] at hpl
      have hpos : 0 < linesN s.data.toList := by
        rw [hcons]
        exact lines_pos (fun e => by rw [e] at n35; simp at n35)
      have hp : plainN s.data.toList = (2, linesN s.data.toList) := by 
        rw [hpl] 
        simp [List.find?_cons, hpos] 
      have Hp := Lib.hid hp 
      clear hx1 hx2 hx4 hx5 hx6 hx8 hpl hp hcons
      generalize linesN s.data.toList = a2 at *
      go_enter Tryz.func39, Tryz.ntmps39 
      go_wp2_with (first 
        | (go_at_call 50; refine (Cbl.out _).mono ?_; rintro e w1 ⟨rfl, rfl⟩) 
        | (go_at_call 51; refine (Cbs.out _).mono ?_; rintro e w1 ⟨rfl, rfl⟩) 
        | (go_at_call 52; refine (Cno.out _).mono ?_; rintro e w1 ⟨rfl, rfl⟩) 
        | (go_at_call 53; with_reducible refine (Cwo.out _).mono ?_; rintro e w1 ⟨rfl, rfl⟩) 
        | (go_at_call 53; with_reducible refine (Cw1.out _).mono ?_; rintro e w1 ⟨rfl, rfl⟩) 
        | (go_at_call 54; refine (Cle.out _).mono ?_; rintro e w1 ⟨rfl, rfl⟩) 
        | (go_at_call 55; refine (Cp1.out _).mono ?_; rintro e w1 ⟨rfl, rfl⟩) 
        | (go_at_call 56; refine (Cnu.out _).mono ?_; rintro e w1 ⟨rfl, rfl⟩) 
        | (go_at_call 57; refine (Cop.out _).mono ?_; rintro e w1 ⟨rfl, hb⟩; have hr2 := (hb.block _ (heap_lt hr)).trans hr; have hB2 := hB.trans (hb.mono hB.size); have r0 := cell_of_block hr2 (o := 0) rfl; have r1 := cell_of_block hr2 (o := 1) rfl; have rf0 := frozen_of_row w1 w.heap.size 0 _ _ hr2; have rf1 := frozen_of_row w1 w.heap.size 1 _ _ hr2; clear hb))
      exact bodyPost_ret (v := .agg #[.int .i64 2, .string (s.extract 0 (a2))]) (by simp [results, Tryz.results39, go_sem]) rfl (by rw [Hp.out]; exact ⟨_, rfl, cut0 _ _, (Below.refl _ _).alloc (Nat.le_refl _) _⟩)
  · rw [hbl] at Cbl
    rw [hbl, if_pos rfl] at hx1
    have hpos : 0 < runOf isBlank s.data.toList := by omega
    have hp : plainN s.data.toList = (1, runOf isBlank s.data.toList) := by 
      rw [hpl] 
      simp [List.find?_cons, hpos] 
    have Hp := Lib.hid hp 
    clear hx1 hx2 hx4 hx5 hx6 hx8 hpl hp hcons
    generalize runOf isBlank s.data.toList = a1 at *
    go_enter Tryz.func39, Tryz.ntmps39 
    go_wp2_with (first 
      | (go_at_call 50; refine (Cbl.out _).mono ?_; rintro e w1 ⟨rfl, rfl⟩) 
      | (go_at_call 51; refine (Cbs.out _).mono ?_; rintro e w1 ⟨rfl, rfl⟩) 
      | (go_at_call 52; refine (Cno.out _).mono ?_; rintro e w1 ⟨rfl, rfl⟩) 
      | (go_at_call 53; with_reducible refine (Cwo.out _).mono ?_; rintro e w1 ⟨rfl, rfl⟩) 
      | (go_at_call 53; with_reducible refine (Cw1.out _).mono ?_; rintro e w1 ⟨rfl, rfl⟩) 
      | (go_at_call 54; refine (Cle.out _).mono ?_; rintro e w1 ⟨rfl, rfl⟩) 
      | (go_at_call 55; refine (Cp1.out _).mono ?_; rintro e w1 ⟨rfl, rfl⟩) 
      | (go_at_call 56; refine (Cnu.out _).mono ?_; rintro e w1 ⟨rfl, rfl⟩) 
      | (go_at_call 57; refine (Cop.out _).mono ?_; rintro e w1 ⟨rfl, hb⟩; have hr2 := (hb.block _ (heap_lt hr)).trans hr; have hB2 := hB.trans (hb.mono hB.size); have r0 := cell_of_block hr2 (o := 0) rfl; have r1 := cell_of_block hr2 (o := 1) rfl; have rf0 := frozen_of_row w1 w.heap.size 0 _ _ hr2; have rf1 := frozen_of_row w1 w.heap.size 1 _ _ hr2; clear hb))
    exact bodyPost_ret (v := .agg #[.int .i64 1, .string (s.extract 0 (a1))]) (by simp [results, Tryz.results39, go_sem]) rfl (by rw [Hp.out]; exact ⟨_, rfl, cut0 _ _, (Below.refl _ _).alloc (Nat.le_refl _) _⟩)
end Go.Proofs.YtiinhkfbgecbjaaGreatDoor
namespace Go.Proofs.YtiinhkfbgecbjaaGreatDoor
set_option linter.unusedSimpArgs false
set_option linter.unusedVariables false
open Go.RowKit Go.Sub

/-- how many bytes stand behind a first one -/
def moreB (c : Nat) : Int := if c < 128 then 0 else if 194 ≤ c ∧ c ≤ 223 then 1 else if 224 ≤ c ∧ c ≤ 239 then 2 else if 240 ≤ c ∧ c ≤ 244 then 3 else -1
set_option maxHeartbeats 1000000 in
set_option maxRecDepth 100000 in
theorem rmore_calls (c : Nat) (hc : c < 256) (w : World) :
    Calls Tryz.prog 48 #[.int .u8 (c : Int)] w fun e w' => e = .returned (.int .i64 (moreB c)) ∧ w' = w := by
  unfold moreB
  by_cases h1 : c < 128
  · rw [if_pos h1]
    go_enter Tryz.func48, Tryz.ntmps48
    go_wp2
    go_ret
    exact ⟨rfl, rfl⟩
  · rw [if_neg h1]
    by_cases h2 : 194 ≤ c ∧ c ≤ 223
    · rw [if_pos h2]
      obtain ⟨h2a, h2b⟩ := h2
      go_enter Tryz.func48, Tryz.ntmps48
      go_wp2
      go_ret
      exact ⟨rfl, rfl⟩
    · rw [if_neg h2]
      by_cases h3 : 224 ≤ c ∧ c ≤ 239
      · rw [if_pos h3]
        obtain ⟨h3a, h3b⟩ := h3
        go_enter Tryz.func48, Tryz.ntmps48
        go_wp2
        go_ret
        exact ⟨rfl, rfl⟩
      · rw [if_neg h3]
        by_cases h4 : 240 ≤ c ∧ c ≤ 244
        · rw [if_pos h4]
          obtain ⟨h4a, h4b⟩ := h4
          go_enter Tryz.func48, Tryz.ntmps48
          go_wp2
          go_ret
          exact ⟨rfl, rfl⟩
        · rw [if_neg h4]
          go_enter Tryz.func48, Tryz.ntmps48
          go_wp2
          all_goals
            go_ret
            exact ⟨rfl, rfl⟩
/-- how many bytes the rune has that a text begins with -/
def oneN (l : List UInt8) : Nat := if l = [] then 0 else if Lib.decodeL l = (65533, 1) then 0 else (Lib.decodeL l).2
def Cont (b : Nat) : Prop := 128 ≤ b ∧ b ≤ 191
theorem one_of {l : List UInt8} {r : Nat × Nat} (h0 : l ≠ []) (h : Lib.decodeL l = r) : oneN l = if r = (65533, 1) then 0 else r.2 := by
  unfold oneN
  rw [if_neg h0, h]
theorem dec0 (N b0 b1 b2 b3 : Nat) (h : b0 < 128) : Lib.decodeN N b0 b1 b2 b3 = (b0, 1) := by unfold Lib.decodeN; rw [if_pos h]
set_option maxRecDepth 100000 in
set_option maxHeartbeats 4000000 in
theorem dec_bad (N b0 b1 b2 b3 : Nat) (h0 : 128 ≤ b0) (hb : b0 < 256) (h : (b0 < 194 ∨ 244 < b0) ∨ (b0 ≤ 223 ∧ (N ≤ 1 ∨ ¬ Cont b1)) ∨ (224 ≤ b0 ∧ b0 ≤ 239 ∧ (N ≤ 2 ∨ ¬ Cont b1 ∨ ¬ Cont b2)) ∨ (240 ≤ b0 ∧ (N ≤ 3 ∨ ¬ Cont b1 ∨ ¬ Cont b2 ∨ ¬ Cont b3))) (h1 : b1 < 256) (h2 : b2 < 256) (h3 : b3 < 256) : Lib.decodeN N b0 b1 b2 b3 = (65533, 1) := by
  unfold Cont at h
  unfold Lib.decodeN
  repeat' split
  all_goals first | rfl | (exfalso; omega)
set_option maxRecDepth 100000 in
set_option maxHeartbeats 4000000 in
theorem dec1 (N b0 b1 b2 b3 : Nat) (h : 194 ≤ b0 ∧ b0 ≤ 223) (hN : 1 < N) (h1 : Cont b1) : Lib.decodeN N b0 b1 b2 b3 = (b0 % 32 * 64 + b1 % 64, 2) ∧ 128 ≤ b0 % 32 * 64 + b1 % 64 ∧ b0 % 32 * 64 + b1 % 64 < 2048 := by
  unfold Cont at h1
  refine ⟨?_, by omega, by omega⟩
  unfold Lib.decodeN
  repeat' split
  all_goals first | rfl | (exfalso; omega)
set_option maxRecDepth 100000 in
set_option maxHeartbeats 4000000 in
theorem dec2 (N b0 b1 b2 b3 : Nat) (h : 224 ≤ b0 ∧ b0 ≤ 239) (hN : 2 < N) (h1 : Cont b1) (h2 : Cont b2) : Lib.decodeN N b0 b1 b2 b3 = if b0 % 16 * 4096 + b1 % 64 * 64 + b2 % 64 < 2048 ∨ (55296 ≤ b0 % 16 * 4096 + b1 % 64 * 64 + b2 % 64 ∧ b0 % 16 * 4096 + b1 % 64 * 64 + b2 % 64 ≤ 57343) ∨ 1114111 < b0 % 16 * 4096 + b1 % 64 * 64 + b2 % 64 then (65533, 1) else (b0 % 16 * 4096 + b1 % 64 * 64 + b2 % 64, 3) := by
  unfold Cont at h1 h2
  unfold Lib.decodeN
  repeat' split
  all_goals first | rfl | (exfalso; omega)
set_option maxRecDepth 100000 in
set_option maxHeartbeats 4000000 in
theorem dec3 (N b0 b1 b2 b3 : Nat) (h : 240 ≤ b0 ∧ b0 ≤ 244) (hN : 3 < N) (h1 : Cont b1) (h2 : Cont b2) (h3 : Cont b3) : Lib.decodeN N b0 b1 b2 b3 = if b0 % 8 * 262144 + b1 % 64 * 4096 + b2 % 64 * 64 + b3 % 64 < 65536 ∨ (55296 ≤ b0 % 8 * 262144 + b1 % 64 * 4096 + b2 % 64 * 64 + b3 % 64 ∧ b0 % 8 * 262144 + b1 % 64 * 4096 + b2 % 64 * 64 + b3 % 64 ≤ 57343) ∨ 1114111 < b0 % 8 * 262144 + b1 % 64 * 4096 + b2 % 64 * 64 + b3 % 64 then (65533, 1) else (b0 % 8 * 262144 + b1 % 64 * 4096 + b2 % 64 * 64 + b3 % 64, 4) := by
  unfold Cont at h1 h2 h3
  unfold Lib.decodeN
  repeat' split
  all_goals first | rfl | (exfalso; omega)
end Go.Proofs.YtiinhkfbgecbjaaGreatDoor
namespace Go.Proofs.YtiinhkfbgecbjaaGreatDoor
set_option linter.unusedSimpArgs false
set_option linter.unusedVariables false
open Go.RowKit Go.Sub

theorem getD_at {s : ByteArray} {j : Nat} (h : j < s.size) : (s.data.toList.getD j 0).toNat = s[j].toNat := by
  rw [List.getD_eq_getElem?_getD, List.getElem?_eq_getElem (by rw [← Lib.size_eq]; exact h)]; rfl
theorem ne_nil {s : ByteArray} (h : 0 < s.size) : s.data.toList ≠ [] := fun e => by
  rw [Lib.size_eq, e] at h; simp at h
theorem one_zero {s : ByteArray} (h : 0 < s.size) (hd : Lib.decodeN s.data.toList.length (s.data.toList.getD 0 0).toNat (s.data.toList.getD 1 0).toNat (s.data.toList.getD 2 0).toNat (s.data.toList.getD 3 0).toNat = (65533, 1)) : oneN s.data.toList = 0 := by
  have e : Lib.decodeL s.data.toList = (65533, 1) := by rw [Lib.decodeL_N]; exact hd
  rw [one_of (ne_nil h) e, if_pos rfl]
theorem one_some {s : ByteArray} (h : 0 < s.size) {r k : Nat} (hd : Lib.decodeN s.data.toList.length (s.data.toList.getD 0 0).toNat (s.data.toList.getD 1 0).toNat (s.data.toList.getD 2 0).toNat (s.data.toList.getD 3 0).toNat = (r, k)) (hr : (r, k) ≠ (65533, 1)) : oneN s.data.toList = k := by
  have e : Lib.decodeL s.data.toList = (r, k) := by rw [Lib.decodeL_N]; exact hd
  rw [one_of (ne_nil h) e, if_neg hr]
theorem blt (l : List UInt8) (j : Nat) : (l.getD j 0).toNat < 256 := UInt8.toNat_lt _

set_option maxRecDepth 100000 in
set_option maxHeartbeats 4000000 in
theorem rone0 (s : ByteArray) (w : World) (hs : s.size < 4611686018427387904) (h0 : 0 < s.size) (hlo : 0 ≤ s[0].toNat) (hhi : s[0].toNat ≤ 127) (hn : 0 < s.size) :
    Calls Tryz.prog 36 #[.string s] w fun e w' => e = .returned (.int .i64 (oneN s.data.toList : Nat)) ∧ Below w.heap.size w w' := by
  have HW0 := Lib.hid (Below.refl w.heap.size w)
  have cm := fun w => rmore_calls s[0].toNat (UInt8.toNat_lt _) w
  have hm : moreB s[0].toNat = 0 := by unfold moreB; rw [if_pos (by omega)]
  rw [hm] at cm
  have Cm := Lib.hid cm
  obtain ⟨he1, he2⟩ := not_empty s h0
  have he3 : (s = ByteArray.empty) = False := by apply eq_false; intro e; rw [e] at h0; exact absurd h0 (by decide)
  have G0 := Lib.hid (getD_at h0)
  have HL := Lib.hid (Lib.size_eq s)
  have Hlo := Lib.hid hlo
  have Hhi := Lib.hid hhi
  have Hv := Lib.hid (one_some h0 (dec0 _ _ _ _ _ (by rw [G0.out]; omega)) (by rw [G0.out]; intro e; rw [Prod.mk.injEq] at e; omega))
  clear cm hm
  go_enter Tryz.func36, Tryz.ntmps36
  go_wp2_with (go_at_call 48; refine (Cm.out _).mono ?_; rintro e w1 ⟨rfl, hw⟩; rw [hw]; clear hw)
  go_loopw [4, 5] (fun v i wr => ∃ r : Nat, v = .int .i64 r ∧ ((i = .int .i64 1 ∧ r < 128 ∧ Hid (r = s[0].toNat))) ∧ Hid (Below w.heap.size w wr)) (fun _ i _ => 5 - (intOf i).toNat)
  case atStart => exact ⟨s[0].toNat, by first | rfl | go_num, ⟨by first | rfl | go_num, by omega, Lib.hid rfl⟩, HW0⟩
  case round =>
    clear HW0
    obtain ⟨r, rfl, ⟨rfl, hr, Hr⟩, HW⟩ := hrel
    have hr1 : r = s[0].toNat := Hr.out
    go_wp2
    go_ret
    exact ⟨by rw [Hv.out]; rfl, by first | exact HW.out | exact (Below.refl _ _).alloc (Nat.le_refl _) _ | exact HW.out.trans (((Below.refl _ _).alloc (Nat.le_refl _) _).mono HW.out.size)⟩
set_option maxRecDepth 100000 in
set_option maxHeartbeats 4000000 in
theorem rone1 (s : ByteArray) (w : World) (hs : s.size < 4611686018427387904) (h0 : 0 < s.size) (hlo : 194 ≤ s[0].toNat) (hhi : s[0].toNat ≤ 223) (hn : 1 < s.size) :
    Calls Tryz.prog 36 #[.string s] w fun e w' => e = .returned (.int .i64 (oneN s.data.toList : Nat)) ∧ Below w.heap.size w w' := by
  have HW0 := Lib.hid (Below.refl w.heap.size w)
  have cm := fun w => rmore_calls s[0].toNat (UInt8.toNat_lt _) w
  have hm : moreB s[0].toNat = 1 := by unfold moreB; rw [if_neg (by omega), if_pos (by omega)]
  rw [hm] at cm
  have Cm := Lib.hid cm
  obtain ⟨he1, he2⟩ := not_empty s h0
  have he3 : (s = ByteArray.empty) = False := by apply eq_false; intro e; rw [e] at h0; exact absurd h0 (by decide)
  have G0 := Lib.hid (getD_at h0)
  have G1 := Lib.hid (getD_at (s := s) (j := 1) (by omega))
  have HL := Lib.hid (Lib.size_eq s)
  have Hlo := Lib.hid hlo
  have Hhi := Lib.hid hhi
  clear cm hm
  go_enter Tryz.func36, Tryz.ntmps36
  go_wp2_with (go_at_call 48; refine (Cm.out _).mono ?_; rintro e w1 ⟨rfl, hw⟩; rw [hw]; clear hw)
  go_loopw [4, 5] (fun v i wr => ∃ r : Nat, v = .int .i64 r ∧ ((i = .int .i64 1 ∧ r < 128 ∧ Hid (r = s[0].toNat % 32)) ∨ (i = .int .i64 2 ∧ r < 8256 ∧ Hid (r = 64 * (s[0].toNat % 32) + s[1].toNat % 64 ∧ Cont s[1].toNat))) ∧ Hid (Below w.heap.size w wr)) (fun _ i _ => 5 - (intOf i).toNat)
  case atStart => exact ⟨s[0].toNat % 32, by first | rfl | go_num, .inl ⟨by first | rfl | go_num, by omega, Lib.hid rfl⟩, HW0⟩
  case round =>
    clear HW0
    obtain ⟨r, rfl, (⟨rfl, hr, Hr⟩ | ⟨rfl, hr, Hr⟩), HW⟩ := hrel
    · by_cases hc : Cont s[1].toNat
      · have Hc := Lib.hid hc
        obtain ⟨hc1, hc2⟩ := hc
        go_wp2
        go_roundw
        case rel => exact ⟨64 * r + s[1].toNat % 64, by first | rfl | go_num, .inr (⟨by first | rfl | go_num, by omega, Lib.hid ⟨by rw [Hr.out], Hc.out⟩⟩), HW⟩
        case measure => simp only [intOf]; omega
      · have Hv := Lib.hid (one_zero h0 (dec_bad _ _ _ _ _ (by rw [G0.out]; omega) (by rw [G0.out]; omega) (.inr (.inl ⟨(by rw [G0.out]; omega), .inr (by rw [G1.out]; exact hc)⟩)) (blt _ _) (blt _ _) (blt _ _)))
        have hc' : s[1].toNat < 128 ∨ 191 < s[1].toNat := by unfold Cont at hc; omega
        clear hc
        rcases hc' with hc | hc
        all_goals
          go_wp2
          go_ret 
          exact ⟨by rw [Hv.out]; rfl, HW.out⟩
    · have hd := dec1 s.data.toList.length s[0].toNat s[1].toNat (s.data.toList.getD 2 0).toNat (s.data.toList.getD 3 0).toNat (by omega) (by rw [← HL.out]; exact hn) Hr.out.2
      have hrr : r = s[0].toNat % 32 * 64 + s[1].toNat % 64 := by rw [Hr.out.1]; omega
      obtain ⟨d1, d2, d3⟩ := hd
      rw [← hrr] at d1 d2 d3
      rw [← G0.out, ← G1.out] at d1
      have Hv := Lib.hid (one_some h0 d1 (by intro e; rw [Prod.mk.injEq] at e; omega))
      clear d1 hrr
      go_wp2
      go_ret
      exact ⟨by rw [Hv.out]; rfl, HW.out.trans (((Below.refl _ _).alloc (Nat.le_refl _) _).mono HW.out.size)⟩
set_option maxRecDepth 100000 in
set_option maxHeartbeats 4000000 in
theorem rone2 (s : ByteArray) (w : World) (hs : s.size < 4611686018427387904) (h0 : 0 < s.size) (hlo : 224 ≤ s[0].toNat) (hhi : s[0].toNat ≤ 239) (hn : 2 < s.size) :
    Calls Tryz.prog 36 #[.string s] w fun e w' => e = .returned (.int .i64 (oneN s.data.toList : Nat)) ∧ Below w.heap.size w w' := by
  have HW0 := Lib.hid (Below.refl w.heap.size w)
  have cm := fun w => rmore_calls s[0].toNat (UInt8.toNat_lt _) w
  have hm : moreB s[0].toNat = 2 := by unfold moreB; rw [if_neg (by omega), if_neg (by omega), if_pos (by omega)]
  rw [hm] at cm
  have Cm := Lib.hid cm
  obtain ⟨he1, he2⟩ := not_empty s h0
  have he3 : (s = ByteArray.empty) = False := by apply eq_false; intro e; rw [e] at h0; exact absurd h0 (by decide)
  have G0 := Lib.hid (getD_at h0)
  have G1 := Lib.hid (getD_at (s := s) (j := 1) (by omega))
  have G2 := Lib.hid (getD_at (s := s) (j := 2) (by omega))
  have HL := Lib.hid (Lib.size_eq s)
  have Hlo := Lib.hid hlo
  have Hhi := Lib.hid hhi
  clear cm hm
  go_enter Tryz.func36, Tryz.ntmps36
  go_wp2_with (go_at_call 48; refine (Cm.out _).mono ?_; rintro e w1 ⟨rfl, hw⟩; rw [hw]; clear hw)
  go_loopw [4, 5] (fun v i wr => ∃ r : Nat, v = .int .i64 r ∧ ((i = .int .i64 1 ∧ r < 128 ∧ Hid (r = s[0].toNat % 16)) ∨ (i = .int .i64 2 ∧ r < 8256 ∧ Hid (r = 64 * (s[0].toNat % 16) + s[1].toNat % 64 ∧ Cont s[1].toNat)) ∨ (i = .int .i64 3 ∧ r < 528448 ∧ Hid (r = 64 * (64 * (s[0].toNat % 16) + s[1].toNat % 64) + s[2].toNat % 64 ∧ Cont s[1].toNat ∧ Cont s[2].toNat))) ∧ Hid (Below w.heap.size w wr)) (fun _ i _ => 5 - (intOf i).toNat)
  case atStart => exact ⟨s[0].toNat % 16, by first | rfl | go_num, .inl ⟨by first | rfl | go_num, by omega, Lib.hid rfl⟩, HW0⟩
  case round =>
    clear HW0
    obtain ⟨r, rfl, (⟨rfl, hr, Hr⟩ | ⟨rfl, hr, Hr⟩ | ⟨rfl, hr, Hr⟩), HW⟩ := hrel
    · by_cases hc : Cont s[1].toNat
      · have Hc := Lib.hid hc
        obtain ⟨hc1, hc2⟩ := hc
        go_wp2
        go_roundw
        case rel => exact ⟨64 * r + s[1].toNat % 64, by first | rfl | go_num, .inr (.inl (⟨by first | rfl | go_num, by omega, Lib.hid ⟨by rw [Hr.out], Hc.out⟩⟩)), HW⟩
        case measure => simp only [intOf]; omega
      · have Hv := Lib.hid (one_zero h0 (dec_bad _ _ _ _ _ (by rw [G0.out]; omega) (by rw [G0.out]; omega) (.inr (.inr (.inl ⟨(by rw [G0.out]; omega), (by rw [G0.out]; omega), .inr (.inl (by rw [G1.out]; exact hc))⟩))) (blt _ _) (blt _ _) (blt _ _)))
        have hc' : s[1].toNat < 128 ∨ 191 < s[1].toNat := by unfold Cont at hc; omega
        clear hc
        rcases hc' with hc | hc
        all_goals
          go_wp2
          go_ret 
          exact ⟨by rw [Hv.out]; rfl, HW.out⟩
    · by_cases hc : Cont s[2].toNat
      · have Hc := Lib.hid hc
        obtain ⟨hc1, hc2⟩ := hc
        go_wp2
        go_roundw
        case rel => exact ⟨64 * r + s[2].toNat % 64, by first | rfl | go_num, .inr (.inr (⟨by first | rfl | go_num, by omega, Lib.hid ⟨by rw [Hr.out.1], Hr.out.2, Hc.out⟩⟩)), HW⟩
        case measure => simp only [intOf]; omega
      · have Hv := Lib.hid (one_zero h0 (dec_bad _ _ _ _ _ (by rw [G0.out]; omega) (by rw [G0.out]; omega) (.inr (.inr (.inl ⟨(by rw [G0.out]; omega), (by rw [G0.out]; omega), .inr (.inr (by rw [G2.out]; exact hc))⟩))) (blt _ _) (blt _ _) (blt _ _)))
        have hc' : s[2].toNat < 128 ∨ 191 < s[2].toNat := by unfold Cont at hc; omega
        clear hc
        rcases hc' with hc | hc
        all_goals
          go_wp2
          go_ret 
          exact ⟨by rw [Hv.out]; rfl, HW.out⟩
    · have hd := dec2 s.data.toList.length s[0].toNat s[1].toNat s[2].toNat (s.data.toList.getD 3 0).toNat (by omega) (by rw [← HL.out]; exact hn) Hr.out.2.1 Hr.out.2.2
      have hrr : r = s[0].toNat % 16 * 4096 + s[1].toNat % 64 * 64 + s[2].toNat % 64 := by rw [Hr.out.1]; omega
      rw [← hrr] at hd
      rw [← G0.out, ← G1.out, ← G2.out] at hd
      clear hrr
      by_cases b1 : r < 2048
      · rw [if_pos (by omega)] at hd
        have Hv := Lib.hid (one_zero h0 hd)
        clear hd
        first | (exfalso; omega) | (go_wp2; go_ret; exact ⟨by rw [Hv.out]; rfl, HW.out.trans (((Below.refl _ _).alloc (Nat.le_refl _) _).mono HW.out.size)⟩)
      · by_cases b2 : 55296 ≤ r
        · by_cases b3 : r ≤ 57343
          · rw [if_pos (by omega)] at hd
            have Hv := Lib.hid (one_zero h0 hd)
            clear hd
            first | (exfalso; omega) | (go_wp2; go_ret; exact ⟨by rw [Hv.out]; rfl, HW.out.trans (((Below.refl _ _).alloc (Nat.le_refl _) _).mono HW.out.size)⟩)
          · by_cases b4 : 1114111 < r
            · rw [if_pos (by omega)] at hd
              have Hv := Lib.hid (one_zero h0 hd)
              clear hd
              first | (exfalso; omega) | (go_wp2; go_ret; exact ⟨by rw [Hv.out]; rfl, HW.out.trans (((Below.refl _ _).alloc (Nat.le_refl _) _).mono HW.out.size)⟩)
            · rw [if_neg (by omega)] at hd
              have Hv := Lib.hid (one_some h0 hd (by intro e; rw [Prod.mk.injEq] at e; omega))
              clear hd
              first | (exfalso; omega) | (go_wp2; go_ret; exact ⟨by rw [Hv.out]; rfl, HW.out.trans (((Below.refl _ _).alloc (Nat.le_refl _) _).mono HW.out.size)⟩)
        · have b4 : ¬ 1114111 < r := by omega
          rw [if_neg (by omega)] at hd
          have Hv := Lib.hid (one_some h0 hd (by intro e; rw [Prod.mk.injEq] at e; omega))
          clear hd
          first | (exfalso; omega) | (go_wp2; go_ret; exact ⟨by rw [Hv.out]; rfl, HW.out.trans (((Below.refl _ _).alloc (Nat.le_refl _) _).mono HW.out.size)⟩)
set_option maxRecDepth 100000 in
set_option maxHeartbeats 4000000 in
theorem rone3 (s : ByteArray) (w : World) (hs : s.size < 4611686018427387904) (h0 : 0 < s.size) (hlo : 240 ≤ s[0].toNat) (hhi : s[0].toNat ≤ 244) (hn : 3 < s.size) :
    Calls Tryz.prog 36 #[.string s] w fun e w' => e = .returned (.int .i64 (oneN s.data.toList : Nat)) ∧ Below w.heap.size w w' := by
  have HW0 := Lib.hid (Below.refl w.heap.size w)
  have cm := fun w => rmore_calls s[0].toNat (UInt8.toNat_lt _) w
  have hm : moreB s[0].toNat = 3 := by unfold moreB; rw [if_neg (by omega), if_neg (by omega), if_neg (by omega), if_pos (by omega)]
  rw [hm] at cm
  have Cm := Lib.hid cm
  obtain ⟨he1, he2⟩ := not_empty s h0
  have he3 : (s = ByteArray.empty) = False := by apply eq_false; intro e; rw [e] at h0; exact absurd h0 (by decide)
  have G0 := Lib.hid (getD_at h0)
  have G1 := Lib.hid (getD_at (s := s) (j := 1) (by omega))
  have G2 := Lib.hid (getD_at (s := s) (j := 2) (by omega))
  have G3 := Lib.hid (getD_at (s := s) (j := 3) (by omega))
  have HL := Lib.hid (Lib.size_eq s)
  have Hlo := Lib.hid hlo
  have Hhi := Lib.hid hhi
  clear cm hm
  go_enter Tryz.func36, Tryz.ntmps36
  go_wp2_with (go_at_call 48; refine (Cm.out _).mono ?_; rintro e w1 ⟨rfl, hw⟩; rw [hw]; clear hw)
  go_loopw [4, 5] (fun v i wr => ∃ r : Nat, v = .int .i64 r ∧ ((i = .int .i64 1 ∧ r < 128 ∧ Hid (r = s[0].toNat % 8)) ∨ (i = .int .i64 2 ∧ r < 8256 ∧ Hid (r = 64 * (s[0].toNat % 8) + s[1].toNat % 64 ∧ Cont s[1].toNat)) ∨ (i = .int .i64 3 ∧ r < 528448 ∧ Hid (r = 64 * (64 * (s[0].toNat % 8) + s[1].toNat % 64) + s[2].toNat % 64 ∧ Cont s[1].toNat ∧ Cont s[2].toNat)) ∨ (i = .int .i64 4 ∧ r < 33820736 ∧ Hid (r = 64 * (64 * (64 * (s[0].toNat % 8) + s[1].toNat % 64) + s[2].toNat % 64) + s[3].toNat % 64 ∧ Cont s[1].toNat ∧ Cont s[2].toNat ∧ Cont s[3].toNat))) ∧ Hid (Below w.heap.size w wr)) (fun _ i _ => 5 - (intOf i).toNat)
  case atStart => exact ⟨s[0].toNat % 8, by first | rfl | go_num, .inl ⟨by first | rfl | go_num, by omega, Lib.hid rfl⟩, HW0⟩
  case round =>
    clear HW0
    obtain ⟨r, rfl, (⟨rfl, hr, Hr⟩ | ⟨rfl, hr, Hr⟩ | ⟨rfl, hr, Hr⟩ | ⟨rfl, hr, Hr⟩), HW⟩ := hrel
    · by_cases hc : Cont s[1].toNat
      · have Hc := Lib.hid hc
        obtain ⟨hc1, hc2⟩ := hc
        go_wp2
        go_roundw
        case rel => exact ⟨64 * r + s[1].toNat % 64, by first | rfl | go_num, .inr (.inl (⟨by first | rfl | go_num, by omega, Lib.hid ⟨by rw [Hr.out], Hc.out⟩⟩)), HW⟩
        case measure => simp only [intOf]; omega
      · have Hv := Lib.hid (one_zero h0 (dec_bad _ _ _ _ _ (by rw [G0.out]; omega) (by rw [G0.out]; omega) (.inr (.inr (.inr ⟨(by rw [G0.out]; omega), .inr (.inl (by rw [G1.out]; exact hc))⟩))) (blt _ _) (blt _ _) (blt _ _)))
        have hc' : s[1].toNat < 128 ∨ 191 < s[1].toNat := by unfold Cont at hc; omega
        clear hc
        rcases hc' with hc | hc
        all_goals
          go_wp2
          go_ret 
          exact ⟨by rw [Hv.out]; rfl, HW.out⟩
    · by_cases hc : Cont s[2].toNat
      · have Hc := Lib.hid hc
        obtain ⟨hc1, hc2⟩ := hc
        go_wp2
        go_roundw
        case rel => exact ⟨64 * r + s[2].toNat % 64, by first | rfl | go_num, .inr (.inr (.inl (⟨by first | rfl | go_num, by omega, Lib.hid ⟨by rw [Hr.out.1], Hr.out.2, Hc.out⟩⟩))), HW⟩
        case measure => simp only [intOf]; omega
      · have Hv := Lib.hid (one_zero h0 (dec_bad _ _ _ _ _ (by rw [G0.out]; omega) (by rw [G0.out]; omega) (.inr (.inr (.inr ⟨(by rw [G0.out]; omega), .inr (.inr (.inl (by rw [G2.out]; exact hc)))⟩))) (blt _ _) (blt _ _) (blt _ _)))
        have hc' : s[2].toNat < 128 ∨ 191 < s[2].toNat := by unfold Cont at hc; omega
        clear hc
        rcases hc' with hc | hc
        all_goals
          go_wp2
          go_ret 
          exact ⟨by rw [Hv.out]; rfl, HW.out⟩
    · by_cases hc : Cont s[3].toNat
      · have Hc := Lib.hid hc
        obtain ⟨hc1, hc2⟩ := hc
        go_wp2
        go_roundw
        case rel => exact ⟨64 * r + s[3].toNat % 64, by first | rfl | go_num, .inr (.inr (.inr (⟨by first | rfl | go_num, by omega, Lib.hid ⟨by rw [Hr.out.1], Hr.out.2.1, Hr.out.2.2, Hc.out⟩⟩))), HW⟩
        case measure => simp only [intOf]; omega
      · have Hv := Lib.hid (one_zero h0 (dec_bad _ _ _ _ _ (by rw [G0.out]; omega) (by rw [G0.out]; omega) (.inr (.inr (.inr ⟨(by rw [G0.out]; omega), .inr (.inr (.inr (by rw [G3.out]; exact hc)))⟩))) (blt _ _) (blt _ _) (blt _ _)))
        have hc' : s[3].toNat < 128 ∨ 191 < s[3].toNat := by unfold Cont at hc; omega
        clear hc
        rcases hc' with hc | hc
        all_goals
          go_wp2
          go_ret 
          exact ⟨by rw [Hv.out]; rfl, HW.out⟩
    · have hd := dec3 s.data.toList.length s[0].toNat s[1].toNat s[2].toNat s[3].toNat (by omega) (by rw [← HL.out]; exact hn) Hr.out.2.1 Hr.out.2.2.1 Hr.out.2.2.2
      have hrr : r = s[0].toNat % 8 * 262144 + s[1].toNat % 64 * 4096 + s[2].toNat % 64 * 64 + s[3].toNat % 64 := by rw [Hr.out.1]; omega
      rw [← hrr] at hd
      rw [← G0.out, ← G1.out, ← G2.out, ← G3.out] at hd
      clear hrr
      by_cases b1 : r < 65536
      · rw [if_pos (by omega)] at hd
        have Hv := Lib.hid (one_zero h0 hd)
        clear hd
        first | (exfalso; omega) | (go_wp2; go_ret; exact ⟨by rw [Hv.out]; rfl, HW.out.trans (((Below.refl _ _).alloc (Nat.le_refl _) _).mono HW.out.size)⟩)
      · by_cases b2 : 55296 ≤ r
        · by_cases b3 : r ≤ 57343
          · rw [if_pos (by omega)] at hd
            have Hv := Lib.hid (one_zero h0 hd)
            clear hd
            first | (exfalso; omega) | (go_wp2; go_ret; exact ⟨by rw [Hv.out]; rfl, HW.out.trans (((Below.refl _ _).alloc (Nat.le_refl _) _).mono HW.out.size)⟩)
          · by_cases b4 : 1114111 < r
            · rw [if_pos (by omega)] at hd
              have Hv := Lib.hid (one_zero h0 hd)
              clear hd
              first | (exfalso; omega) | (go_wp2; go_ret; exact ⟨by rw [Hv.out]; rfl, HW.out.trans (((Below.refl _ _).alloc (Nat.le_refl _) _).mono HW.out.size)⟩)
            · rw [if_neg (by omega)] at hd
              have Hv := Lib.hid (one_some h0 hd (by intro e; rw [Prod.mk.injEq] at e; omega))
              clear hd
              first | (exfalso; omega) | (go_wp2; go_ret; exact ⟨by rw [Hv.out]; rfl, HW.out.trans (((Below.refl _ _).alloc (Nat.le_refl _) _).mono HW.out.size)⟩)
        · have b4 : ¬ 1114111 < r := by omega
          rw [if_neg (by omega)] at hd
          have Hv := Lib.hid (one_some h0 hd (by intro e; rw [Prod.mk.injEq] at e; omega))
          clear hd
          first | (exfalso; omega) | (go_wp2; go_ret; exact ⟨by rw [Hv.out]; rfl, HW.out.trans (((Below.refl _ _).alloc (Nat.le_refl _) _).mono HW.out.size)⟩)
end Go.Proofs.YtiinhkfbgecbjaaGreatDoor
