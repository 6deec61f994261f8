/- Tokens ahead of a line's end are the same whatever stands behind it. No condition. -/
import Derived.Test.YtfaocpcbejgfjaaDoorLs2
namespace Go.Proofs.YtfaocpcbejgfjaaDoor
open Go.RowKit Go.Sub

/-- what is read ahead of a line's end -/
def ExtB (f : List UInt8 → Nat) : Prop := ∀ m t, f (m ++ 10 :: t) = f (m ++ [10]) ∧ f (m ++ [10]) ≤ m.length
theorem pre_ext : ∀ (m x : List UInt8) (t : List UInt8), (∀ c ∈ x, c ≠ 10) → Lib.hasPrefix (m ++ 10 :: t) x = Lib.hasPrefix (m ++ [10]) x ∧ (Lib.hasPrefix (m ++ [10]) x = true → x.length ≤ m.length)
  | m, [], t, _ => by simp [Lib.hasPrefix]
  | [], c :: x, t, h => by
    have hc : (c == 10) = false := by simpa using h c (by simp)
    have e : ∀ t, Lib.hasPrefix (10 :: t) (c :: x) = false := fun t => by
      show (c == 10 && x.isPrefixOf t) = false
      rw [hc]; rfl
    rw [List.nil_append, List.nil_append, e, e]
    simp
  | b :: m, c :: x, t, h => by
    have ih := pre_ext m x t fun d hd => h d (List.mem_cons_of_mem _ hd)
    unfold Lib.hasPrefix at ih ⊢
    simp only [List.cons_append, List.isPrefixOf_cons_cons, List.length_cons]
    refine ⟨by rw [ih.1], fun hh => ?_⟩
    rw [Bool.and_eq_true] at hh
    have := ih.2 hh.2
    omega
theorem ext_run {p : UInt8 → Bool} (hp : p 10 = false) : ExtB (runOf p) := fun m t => by
  induction m with
  | nil =>
    have e : ∀ t, runOf p (10 :: t) = 0 := fun t => by unfold runOf; rw [List.takeWhile_cons, hp]; rfl
    rw [List.nil_append, List.nil_append, e, e]; simp
  | cons b r ih =>
    have e : ∀ r, runOf p (b :: r) = if p b = true then runOf p r + 1 else 0 := fun r => by
      unfold runOf; rw [List.takeWhile_cons]; split <;> simp_all
    rw [List.cons_append, List.cons_append, e, e, ih.1]
    refine ⟨rfl, ?_⟩
    rw [List.length_cons]
    split <;> omega
theorem ext_simple : ExtB simpleN := fun m t => by
  match m with
  | [] => exact ⟨rfl, Nat.zero_le _⟩
  | b :: r =>
    have e : ∀ r, simpleN (b :: r) = if isLetter b then runOf isPart (b :: r) else 0 := fun _ => rfl
    have h := ext_run (p := isPart) rfl (b :: r) t
    rw [List.cons_append, List.cons_append] at h
    rw [List.cons_append, List.cons_append, e, e]
    split
    · exact h
    · exact ⟨rfl, Nat.zero_le _⟩
theorem drop_ext {m t : List UInt8} {k : Nat} (h : k ≤ m.length) : (m ++ 10 :: t).drop k = m.drop k ++ 10 :: t := List.drop_append_of_le_length h
theorem ext_more_k : ∀ k (m : List UInt8) t, m.length ≤ k → moreN (m ++ 10 :: t) = moreN (m ++ [10]) ∧ moreN (m ++ [10]) ≤ m.length := by
  intro k
  induction k with
  | zero =>
    intro m t h
    obtain rfl := List.length_eq_zero_iff.1 (show m.length = 0 by omega)
    rw [List.nil_append, List.nil_append, moreN_miss _ rfl, moreN_miss _ rfl]; simp
  | succ k ih =>
    intro m t hl
    obtain ⟨p1, p2⟩ := pre_ext m [58, 58] t (by decide)
    cases hp : Lib.hasPrefix (m ++ [10]) [58, 58]
    · rw [hp] at p1
      rw [moreN_miss _ p1, moreN_miss _ hp]; simp
    · have h2 := p2 hp
      rw [hp] at p1
      simp only [List.length_cons, List.length_nil] at h2
      obtain ⟨s1, s2⟩ := ext_simple (m.drop 2) t
      have d1 : (m ++ 10 :: t).drop 2 = m.drop 2 ++ 10 :: t := drop_ext h2
      have d2 : (m ++ [10]).drop 2 = m.drop 2 ++ [10] := drop_ext h2
      rw [List.length_drop] at s2
      by_cases h0 : simpleN (m.drop 2 ++ [10]) = 0
      · rw [moreN_none _ p1 (by rw [d1, s1, h0]), moreN_none _ hp (by rw [d2, h0])]; simp
      · rw [moreN_hit _ _ p1 (by rw [d1, s1]) h0, moreN_hit _ _ hp (by rw [d2]) h0, drop_ext (by omega), drop_ext (by omega)]
        obtain ⟨i1, i2⟩ := ih (m.drop (2 + simpleN (m.drop 2 ++ [10]))) t (by rw [List.length_drop]; omega)
        rw [i1]
        rw [List.length_drop] at i2
        exact ⟨rfl, by omega⟩
theorem ext_more : ExtB moreN := fun m t => ext_more_k _ m t (Nat.le_refl _)
theorem ext_then {f g : List UInt8 → Nat} (hf : ExtB f) (hg : ExtB g) : ExtB (fun l => if f l = 0 then 0 else f l + g (l.drop (f l))) := fun m t => by
  obtain ⟨f1, f2⟩ := hf m t
  dsimp only
  rw [f1]
  by_cases h0 : f (m ++ [10]) = 0
  · rw [if_pos h0, if_pos h0]; simp
  · rw [if_neg h0, if_neg h0, drop_ext f2, drop_ext f2]
    obtain ⟨g1, g2⟩ := hg (m.drop (f (m ++ [10]))) t
    rw [List.length_drop] at g2
    rw [g1]
    exact ⟨rfl, by omega⟩
theorem ext_word : ExtB wordN := ext_then ext_simple ext_more
theorem signOff_ext (r t : List UInt8) : signOff (r ++ 10 :: t) = signOff r ++ 10 :: t := by
  match r with
  | [] => rfl
  | c :: r' =>
    have e : ∀ r, signOff (c :: r) = if c == 43 || c == 45 then r else c :: r := fun _ => rfl
    rw [List.cons_append, e, e]
    split <;> rfl
theorem ext_power : ExtB powerN := fun m t => by
  match m with
  | [] => exact ⟨rfl, Nat.zero_le _⟩
  | b :: r =>
    have e : ∀ r, powerN (b :: r) = if b == 101 || b == 69 then (if runOf isDigit (signOff r) = 0 then 0 else (b :: r).length - (signOff r).length + runOf isDigit (signOff r)) else 0 := fun _ => rfl
    rw [List.cons_append, List.cons_append, e, e]
    split
    · rw [signOff_ext, signOff_ext]
      obtain ⟨r1, r2⟩ := ext_run (p := isDigit) rfl (signOff r) t
      have hs := signOff_le r
      rw [r1]
      by_cases h0 : runOf isDigit (signOff r ++ [10]) = 0
      · rw [if_pos h0, if_pos h0]; simp
      · rw [if_neg h0, if_neg h0]
        simp only [List.length_cons, List.length_append, List.length_nil]
        omega
    · simp
theorem get_ext {m t : List UInt8} {k : Nat} (h : k ≤ m.length) : (m ++ 10 :: t)[k]? = (m ++ [10])[k]? := by
  by_cases hk : k < m.length
  · rw [List.getElem?_append_left hk, List.getElem?_append_left hk]
  · rw [List.getElem?_append_right (by omega), List.getElem?_append_right (by omega), show k - m.length = 0 by omega]; rfl
theorem ext_mant : ExtB mantN := fun m t => by
  obtain ⟨r1, r2⟩ := ext_run (p := isDigit) rfl m t
  have hg := get_ext (t := t) r2
  unfold mantN
  rw [r1, hg]
  by_cases h46 : (m ++ [10])[runOf isDigit (m ++ [10])]? = some 46
  · rw [if_pos h46, if_pos h46]
    have hlt : runOf isDigit (m ++ [10]) < m.length := by
      refine Nat.lt_of_le_of_ne r2 fun e => ?_
      rw [e, List.getElem?_append_right (Nat.le_refl _), Nat.sub_self] at h46
      simp at h46
    rw [drop_ext (k := runOf isDigit (m ++ [10]) + 1) hlt, drop_ext (k := runOf isDigit (m ++ [10]) + 1) hlt]
    obtain ⟨q1, q2⟩ := ext_run (p := isDigit) rfl (m.drop (runOf isDigit (m ++ [10]) + 1)) t
    rw [List.length_drop] at q2
    rw [q1]
    refine ⟨rfl, ?_⟩
    split <;> omega
  · rw [if_neg h46, if_neg h46]
    exact ⟨rfl, r2⟩
theorem ext_number : ExtB numberN := ext_then ext_mant ext_power
theorem ext_quote : ExtB quoteN := fun m t => by
  match m with
  | [] => exact ⟨rfl, Nat.zero_le _⟩
  | b :: r =>
    refine ⟨rfl, ?_⟩
    show (if b == 34 then 1 else 0) ≤ r.length + 1
    split <;> omega
theorem ext_behind {c : UInt8} (hc : c ≠ 10) {f : List UInt8 → Nat} (hf : ExtB f) : ExtB (behindN c f) := fun m t => by
  match m with
  | [] =>
    have e : ∀ t, behindN c f (10 :: t) = 0 := fun t => by
      show (if (10 : UInt8) == c then _ else 0) = 0
      rw [if_neg (by simpa using fun e => hc e.symm)]
    rw [List.nil_append, List.nil_append, e, e]; simp
  | b :: r =>
    obtain ⟨f1, f2⟩ := hf r t
    have e : ∀ r, behindN c f (b :: r) = if b == c then (if f r = 0 then 0 else f r + 1) else 0 := fun _ => rfl
    rw [List.cons_append, List.cons_append, e, e, f1]
    refine ⟨rfl, ?_⟩
    rw [List.length_cons]
    split
    · split <;> omega
    · omega
theorem opsL_no10 : ∀ x ∈ opsL, ∀ c ∈ x, c ≠ 10 := by decide +kernel
theorem ext_oper : ExtB operN := fun m t => by
  unfold operN
  rw [Lib.find_congr (p := fun o => Lib.hasPrefix (m ++ 10 :: t) o) (q := fun o => Lib.hasPrefix (m ++ [10]) o) fun x hx => (pre_ext m x t (opsL_no10 x hx)).1]
  refine ⟨rfl, ?_⟩
  cases hf : opsL.find? fun o => Lib.hasPrefix (m ++ [10]) o with
  | none => simp
  | some x => exact (pre_ext m x t (opsL_no10 x (List.mem_of_find?_eq_some hf))).2 (List.find?_some hf)
theorem ext_esc : ExtB escN := fun m t => by
  match m with
  | [] => cases t <;> exact ⟨rfl, Nat.zero_le _⟩
  | [a] =>
    have e : ∀ r, escN (a :: 10 :: r) = 0 := fun r => by
      show (if a == 92 then (if escPlain 10 then 2 else if (10 : UInt8) == 117 && runOf isHex (r.take 4) == 4 then 6 else 0) else 0) = 0
      split <;> rfl
    show escN (a :: 10 :: t) = escN (a :: 10 :: []) ∧ escN (a :: 10 :: []) ≤ 1
    rw [e, e]; simp
  | a :: c :: r =>
    have e : ∀ r, escN (a :: c :: r) = if a == 92 then (if escPlain c then 2 else if c == 117 && runOf isHex (r.take 4) == 4 then 6 else 0) else 0 := fun _ => rfl
    obtain ⟨r1, r2⟩ := ext_run (p := isHex) rfl r t
    show escN (a :: c :: (r ++ 10 :: t)) = escN (a :: c :: (r ++ [10])) ∧ escN (a :: c :: (r ++ [10])) ≤ r.length + 1 + 1
    rw [e, e, run_take, run_take, r1]
    refine ⟨rfl, ?_⟩
    split
    · split
      · omega
      · split
        · rename_i h
          rw [Bool.and_eq_true, beq_iff_eq, beq_iff_eq] at h
          have := h.2
          omega
        · omega
    · omega
theorem ext_piece_k : ∀ k (m : List UInt8) t, m.length ≤ k → pieceN (m ++ [10]) < m.length + 1 → pieceN (m ++ 10 :: t) = pieceN (m ++ [10]) := by
  intro k
  induction k with
  | zero =>
    intro m t h hlt
    obtain rfl := List.length_eq_zero_iff.1 (show m.length = 0 by omega)
    rw [List.nil_append, piece_plain _ _ rfl, piece_nil] at hlt
    simp at hlt
  | succ k ih =>
    intro m t hl hlt
    match m, hl, hlt with
    | [], _, hlt =>
      rw [List.nil_append, piece_plain _ _ rfl, piece_nil] at hlt
      simp at hlt
    | b :: r, hl, hlt =>
      simp only [List.length_cons] at hl hlt
      by_cases hq : isQS b = true
      · obtain ⟨e1, e2⟩ := ext_esc (b :: r) t
        rw [List.length_cons] at e2
        by_cases he : escN (b :: r ++ [10]) = 0
        · have p1 : pieceN (b :: r ++ 10 :: t) = 0 := piece_stop b _ hq (by rw [← he]; exact e1)
          have p2 : pieceN (b :: r ++ [10]) = 0 := piece_stop b _ hq he
          rw [p1, p2]
        · have p1 := piece_esc (b :: r ++ 10 :: t) (by rw [e1]; exact he)
          have p2 := piece_esc (b :: r ++ [10]) he
          rw [e1, drop_ext (by rw [List.length_cons]; exact e2)] at p1
          rw [drop_ext (by rw [List.length_cons]; exact e2)] at p2
          rw [p1, p2]
          rw [p2] at hlt
          rw [ih _ t (by rw [List.length_drop, List.length_cons]; omega) (by rw [List.length_drop, List.length_cons]; omega)]
      · have hq' : isQS b = false := by simpa using hq
        rw [List.cons_append, List.cons_append, piece_plain _ _ hq', piece_plain _ _ hq'] 
        rw [List.cons_append, piece_plain _ _ hq'] at hlt
        rw [ih r t (by omega) (by omega)]
theorem nl_ext (m t : List UInt8) : ∃ j : Nat, Lib.indexByte (m ++ [10]) 10 = j ∧ Lib.indexByte (m ++ 10 :: t) 10 = j ∧ j ≤ m.length := by
  induction m with
  | nil => exact ⟨0, rfl, rfl, Nat.le_refl _⟩
  | cons b r ih =>
    obtain ⟨j, h1, h2, h3⟩ := ih
    have e : ∀ l, Lib.indexByte (b :: l) 10 = if b == 10 then 0 else if Lib.indexByte l 10 == -1 then -1 else Lib.indexByte l 10 + 1 := fun _ => rfl
    rw [List.cons_append, List.cons_append, e, e, h1, h2]
    cases hb : (b == 10)
    · refine ⟨j + 1, ?_, ?_, by rw [List.length_cons]; omega⟩
      all_goals
        rw [if_neg (by simp), if_neg (by simp)]; omega
    · exact ⟨0, rfl, rfl, Nat.zero_le _⟩
theorem ext_lines_k : ∀ k (m : List UInt8) t, m.length ≤ k → linesN (m ++ [10]) < m.length + 1 → linesN (m ++ 10 :: t) = linesN (m ++ [10]) := by
  intro k
  induction k with
  | zero =>
    intro m t h hlt
    obtain rfl := List.length_eq_zero_iff.1 (show m.length = 0 by omega)
    show linesN (10 :: t) = linesN [10]
    rw [linesN_end [10] 0 rfl rfl, linesN_end (10 :: t) 0 rfl rfl]
  | succ k ih =>
    intro m t hl hlt
    obtain ⟨j, h1, h2, h3⟩ := nl_ext m t
    have t1 : (m ++ [10]).take j = m.take j := List.take_append_of_le_length h3
    have t2 : (m ++ 10 :: t).take j = m.take j := List.take_append_of_le_length h3
    cases hb : (!oddB (m.take j) && !oddB (Lib.trimSuffix (m.take j) [13]))
    · have p1 := linesN_more (m ++ [10]) j h1 (by rw [t1]; exact hb)
      have p2 := linesN_more (m ++ 10 :: t) j h2 (by rw [t2]; exact hb)
      rw [p1] at hlt
      rw [p1, p2]
      by_cases hj : j = m.length
      · rw [hj] at hlt; omega
      · rw [drop_ext (by omega)] at hlt
        rw [drop_ext (by omega), drop_ext (by omega), ih _ t (by rw [List.length_drop]; omega) (by rw [List.length_drop]; omega)]
    · rw [linesN_end (m ++ [10]) j h1 (by rw [t1]; exact hb), linesN_end (m ++ 10 :: t) j h2 (by rw [t2]; exact hb)]
theorem ext_note (m t : List UInt8) (h : noteN (m ++ [10]) < m.length + 1) : noteN (m ++ 10 :: t) = noteN (m ++ [10]) := by
  match m, h with
  | [], _ => rfl
  | b :: r, h =>
    have e : ∀ r, noteN (b :: r) = if b == 35 then linesN (b :: r) else 0 := fun _ => rfl
    rw [List.cons_append, e] at h
    rw [List.cons_append, List.cons_append, e, e]
    split
    · rename_i hb
      rw [if_pos hb] at h
      exact ext_lines_k _ (b :: r) t (Nat.le_refl _) h
    · rfl
theorem run_append {p : UInt8 → Bool} : ∀ (m t : List UInt8), runOf p m < m.length → runOf p (m ++ t) = runOf p m
  | [], t, h => by simp at h
  | b :: r, t, h => by
    have e : ∀ r, runOf p (b :: r) = if p b = true then runOf p r + 1 else 0 := fun r => by
      unfold runOf; rw [List.takeWhile_cons]; split <;> simp_all
    rw [e, List.length_cons] at h
    rw [List.cons_append, e, e]
    split
    · rename_i hb
      rw [if_pos hb] at h
      rw [run_append r t (by omega)]
    · rfl
theorem run_append_all {p : UInt8 → Bool} : ∀ (m t : List UInt8), runOf p m = m.length → (∀ b, t[0]? = some b → p b = false) → runOf p (m ++ t) = m.length
  | [], t, _, h => by
    match t, h with
    | [], _ => rfl
    | b :: t, h =>
      rw [List.nil_append]
      unfold runOf
      rw [List.takeWhile_cons, h b rfl]; rfl
  | b :: r, t, hm, h => by
    have e : ∀ r, runOf p (b :: r) = if p b = true then runOf p r + 1 else 0 := fun r => by
      unfold runOf; rw [List.takeWhile_cons]; split <;> simp_all
    rw [e, List.length_cons] at hm
    rw [List.cons_append, e, List.length_cons]
    split at hm
    · rename_i hb
      rw [if_pos hb, run_append_all r t (by omega) h]
    · omega
end Go.Proofs.YtfaocpcbejgfjaaDoor
