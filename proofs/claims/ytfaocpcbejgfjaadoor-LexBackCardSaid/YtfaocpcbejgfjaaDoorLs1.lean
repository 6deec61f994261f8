/- What is read at a text's front does not turn where the text is cut behind it. No condition. -/
import Derived.Test.YtfaocpcbejgfjaaDoorLx16
namespace Go.Proofs.YtfaocpcbejgfjaaDoor
open Go.RowKit Go.Sub

def Stable (f : List UInt8 → Nat) : Prop := ∀ l m, f l ≤ m → f (l.take m) = f l
theorem run_take (p : UInt8 → Bool) : ∀ (l : List UInt8) (m : Nat), runOf p (l.take m) = min m (runOf p l)
  | [], m => by simp [runOf]
  | b :: r, 0 => by simp [runOf]
  | b :: r, m + 1 => by
    have ih := run_take p r m
    unfold runOf at ih ⊢
    rw [List.take_succ_cons, List.takeWhile_cons, List.takeWhile_cons]
    cases p b
    · simp
    · simp only [if_true, List.length_cons]; omega
theorem stable_run (p : UInt8 → Bool) : Stable (runOf p) := fun l m h => by rw [run_take]; omega
theorem pre_take {l x : List UInt8} {m : Nat} (h : Lib.hasPrefix (l.take m) x = true) : Lib.hasPrefix l x = true := by
  unfold Lib.hasPrefix at *
  exact List.isPrefixOf_iff_prefix.2 ((List.isPrefixOf_iff_prefix.1 h).trans (List.take_prefix _ _))
theorem pre_to {l x : List UInt8} {m : Nat} (h : Lib.hasPrefix l x = true) (hm : x.length ≤ m) : Lib.hasPrefix (l.take m) x = true := by
  unfold Lib.hasPrefix at *
  obtain ⟨r, rfl⟩ := List.isPrefixOf_iff_prefix.1 h
  refine List.isPrefixOf_iff_prefix.2 ⟨r.take (m - x.length), ?_⟩
  rw [List.take_append, List.take_of_length_le hm]
theorem stable_simple : Stable simpleN := fun l m h => by
  match l, m, h with
  | [], m, _ => simp [simpleN]
  | b :: r, 0, h => rw [Nat.le_zero.1 h]; rfl
  | b :: r, m + 1, h =>
    have e : ∀ r, simpleN (b :: r) = if isLetter b then runOf isPart (b :: r) else 0 := fun _ => rfl
    rw [e] at h
    rw [List.take_succ_cons, e, e]
    by_cases hb : isLetter b = true
    · rw [if_pos hb] at h
      rw [if_pos hb, if_pos hb, ← List.take_succ_cons, run_take]; omega
    · rw [if_neg hb, if_neg hb]
theorem stable_more_k : ∀ k (l : List UInt8) m, l.length ≤ k → moreN l ≤ m → moreN (l.take m) = moreN l := by
  intro k
  induction k with
  | zero =>
    intro l m h _
    obtain rfl := List.length_eq_zero_iff.1 (show l.length = 0 by omega)
    rw [List.take_nil]
  | succ k ih =>
    intro l m hl h
    cases hp : Lib.hasPrefix l [58, 58]
    · rw [moreN_miss l hp, moreN_miss]
      cases hq : Lib.hasPrefix (l.take m) [58, 58]
      · rfl
      · rw [pre_take hq] at hp; simp at hp
    · by_cases h0 : simpleN (l.drop 2) = 0
      · rw [moreN_none l hp h0]
        cases hq : Lib.hasPrefix (l.take m) [58, 58]
        · exact moreN_miss _ hq
        · refine moreN_none _ hq ?_
          rw [List.drop_take, stable_simple _ _ (by omega), h0]
      · rw [moreN_hit l _ hp rfl h0] at h ⊢
        have hm : 2 + simpleN (l.drop 2) ≤ m := by omega
        have h2 := Lib.hasPrefix_le hp
        simp only [List.length_cons, List.length_nil] at h2
        have e : simpleN ((l.take m).drop 2) = simpleN (l.drop 2) := by rw [List.drop_take, stable_simple _ _ (by omega)]
        rw [moreN_hit (l.take m) _ (pre_to hp (by simp only [List.length_cons, List.length_nil]; omega)) e h0, List.drop_take, ih _ _ (by rw [List.length_drop]; omega) (by omega)]
theorem stable_more : Stable moreN := fun l m h => stable_more_k _ l m (Nat.le_refl _) h
theorem stable_word : Stable wordN := fun l m h => by
  unfold wordN at h ⊢
  by_cases h0 : simpleN l = 0
  · rw [if_pos h0, if_pos (by rw [stable_simple _ _ (by omega), h0])]
  · rw [if_neg h0] at h
    have e := stable_simple l m (by omega)
    rw [if_neg h0, if_neg (by rw [e]; exact h0), e, List.drop_take, stable_more _ _ (by omega)]
theorem signOff_take (r : List UInt8) (m : Nat) : signOff (r.take m) = (signOff r).take (m - (r.length - (signOff r).length)) := by
  match r, m with
  | [], m => simp [signOff]
  | b :: t, 0 => rw [Nat.zero_sub]; rfl
  | b :: t, m + 1 =>
    have e : ∀ t, signOff (b :: t) = if b == 43 || b == 45 then t else b :: t := fun _ => rfl
    rw [List.take_succ_cons, e, e]
    split
    · rw [List.length_cons, show m + 1 - (t.length + 1 - t.length) = m by omega]
    · rw [Nat.sub_self, Nat.sub_zero, List.take_succ_cons]
theorem stable_power : Stable powerN := fun l m h => by
  match l, m, h with
  | [], m, _ => simp [powerN]
  | b :: r, 0, h => rw [Nat.le_zero.1 h]; rfl
  | b :: r, m + 1, h =>
    have e : ∀ r, powerN (b :: r) = if b == 101 || b == 69 then (if runOf isDigit (signOff r) = 0 then 0 else (b :: r).length - (signOff r).length + runOf isDigit (signOff r)) else 0 := fun _ => rfl
    rw [List.take_succ_cons, e, e]
    rw [e] at h
    by_cases hb : (b == 101 || b == 69) = true
    · rw [if_pos hb] at h
      rw [if_pos hb, if_pos hb, signOff_take, run_take]
      have hs := signOff_le r
      have hr := runOf_le isDigit (signOff r)
      by_cases h0 : runOf isDigit (signOff r) = 0
      · rw [if_pos h0, if_pos (by omega)]
      · rw [if_neg h0] at h
        simp only [List.length_cons] at h
        rw [if_neg h0, if_neg (by omega)]
        simp only [List.length_cons, List.length_take]
        omega
    · rw [if_neg hb, if_neg hb]
theorem stable_mant : Stable mantN := fun l m h => by
  have hr := runOf_le isDigit l
  have ht := run_take isDigit l m
  by_cases h46 : l[runOf isDigit l]? = some 46
  · have e : mantN l = if runOf isDigit l + runOf isDigit (l.drop (runOf isDigit l + 1)) = 0 then 0 else runOf isDigit l + (1 + runOf isDigit (l.drop (runOf isDigit l + 1))) := by unfold mantN; rw [if_pos h46]
    rw [e] at h ⊢
    by_cases h0 : runOf isDigit l + runOf isDigit (l.drop (runOf isDigit l + 1)) = 0
    · rw [if_pos h0]
      have hd : runOf isDigit l = 0 := by omega
      rw [hd] at ht h0
      unfold mantN
      rw [ht, Nat.min_zero]
      split
      · rw [if_pos]
        rw [List.drop_take, run_take]
        omega
      · rfl
    · rw [if_neg h0] at h ⊢
      have hm : runOf isDigit (l.take m) = runOf isDigit l := by omega
      unfold mantN
      rw [hm, if_pos (by rw [List.getElem?_take_of_lt (by omega)]; exact h46), List.drop_take, run_take, show min (m - (runOf isDigit l + 1)) (runOf isDigit (l.drop (runOf isDigit l + 1))) = runOf isDigit (l.drop (runOf isDigit l + 1)) by omega, if_neg h0]
  · have e : mantN l = runOf isDigit l := by unfold mantN; rw [if_neg h46]
    rw [e] at h ⊢
    have hm : runOf isDigit (l.take m) = runOf isDigit l := by omega
    unfold mantN
    rw [hm, if_neg]
    intro hc
    rw [List.getElem?_take] at hc
    split at hc
    · exact h46 hc
    · simp at hc
theorem stable_number : Stable numberN := fun l m h => by
  unfold numberN at h ⊢
  by_cases h0 : mantN l = 0
  · rw [if_pos h0, if_pos (by rw [stable_mant _ _ (by omega), h0])]
  · rw [if_neg h0] at h
    have e := stable_mant l m (by omega)
    rw [if_neg h0, if_neg (by rw [e]; exact h0), e, List.drop_take, stable_power _ _ (by omega)]
theorem nl_take {l : List UInt8} {k m : Nat} (h : Lib.indexByte l 10 = k) (hk : k < m) : Lib.indexByte (l.take m) 10 = k := by
  obtain ⟨h1, h2⟩ := Lib.indexByte_some h
  rcases nl_cases (l.take m) with h0 | ⟨j, hj, hjl⟩
  · have := Lib.indexByte_none (show Lib.indexByte (l.take m) 10 = -1 by have := Lib.indexByte_ge (l.take m) 10; omega) k
    rw [List.getElem?_take_of_lt hk] at this
    exact absurd h1 this
  · obtain ⟨j1, j2⟩ := Lib.indexByte_some hj
    have hjk : j = k := by
      rcases Nat.lt_trichotomy j k with hlt | he | hgt
      · refine absurd ?_ (h2 j hlt)
        rwa [List.getElem?_take_of_lt (by omega)] at j1
      · exact he
      · refine absurd ?_ (j2 k hgt)
        rw [List.getElem?_take_of_lt hk]; exact h1
    rw [hj, hjk]
theorem nl_none {l : List UInt8} (h : ∀ k : Nat, l[k]? ≠ some 10) : Lib.indexByte l 10 < 0 := by
  rcases nl_cases l with h0 | ⟨j, hj, hjl⟩
  · exact h0
  · exact absurd (Lib.indexByte_some hj).1 (h j)
theorem stable_lines_k : ∀ k (l : List UInt8) m, l.length ≤ k → linesN l ≤ m → linesN (l.take m) = linesN l := by
  intro k
  induction k with
  | zero =>
    intro l m h _
    obtain rfl := List.length_eq_zero_iff.1 (show l.length = 0 by omega)
    rw [List.take_nil]
  | succ k ih =>
    intro l m hl h
    rcases nl_cases l with h0 | ⟨j, hj, hjl⟩
    · rw [linesN_none l h0] at h
      rw [List.take_of_length_le h]
    · cases h2 : (!oddB (l.take j) && !oddB (Lib.trimSuffix (l.take j) [13]))
      · rw [linesN_more l j hj h2] at h ⊢
        have ht : (l.take m).take j = l.take j := by rw [List.take_take, Nat.min_eq_left (by omega)]
        rw [linesN_more (l.take m) j (nl_take hj (by omega)) (by rw [ht]; exact h2), List.drop_take, ih _ _ (by rw [List.length_drop]; omega) (by omega)]
      · rw [linesN_end l j hj h2] at h ⊢
        by_cases hm : m = j
        · subst hm
          rw [linesN_none, List.length_take, Nat.min_eq_left (by omega)]
          refine nl_none fun i hi => ?_
          rw [List.getElem?_take] at hi
          split at hi
          · exact (Lib.indexByte_some hj).2 i (by assumption) hi
          · simp at hi
        · have ht : (l.take m).take j = l.take j := by rw [List.take_take, Nat.min_eq_left (by omega)]
          exact linesN_end (l.take m) j (nl_take hj (by omega)) (by rw [ht]; exact h2)
theorem stable_note : Stable noteN := fun l m h => by
  match l, m, h with
  | [], m, _ => simp [noteN]
  | b :: r, 0, h => rw [Nat.le_zero.1 h]; rfl
  | b :: r, m + 1, h =>
    have e : ∀ r, noteN (b :: r) = if b == 35 then linesN (b :: r) else 0 := fun _ => rfl
    rw [List.take_succ_cons, e, e]
    rw [e] at h
    split
    · rename_i hb
      rw [if_pos hb] at h
      rw [← List.take_succ_cons, stable_lines_k _ _ _ (Nat.le_refl _) h]
    · rfl
theorem stable_behind (c : UInt8) {f : List UInt8 → Nat} (hf : Stable f) : Stable (behindN c f) := fun l m h => by
  match l, m, h with
  | [], m, _ => simp [behindN]
  | b :: r, 0, h => rw [Nat.le_zero.1 h]; rfl
  | b :: r, m + 1, h =>
    have e : ∀ r, behindN c f (b :: r) = if b == c then (if f r = 0 then 0 else f r + 1) else 0 := fun _ => rfl
    rw [List.take_succ_cons, e, e]
    rw [e] at h
    split
    · rename_i hb
      rw [if_pos hb] at h
      by_cases h0 : f r = 0
      · rw [if_pos h0, if_pos (by rw [hf _ _ (by omega), h0])]
      · rw [if_neg h0] at h
        rw [hf r m (by omega)]
    · rfl
theorem stable_quote : Stable quoteN := fun l m h => by
  match l, m, h with
  | [], m, _ => simp [quoteN]
  | b :: r, 0, h => rw [Nat.le_zero.1 h]; rfl
  | b :: r, m + 1, h => rfl
theorem find_take (l : List UInt8) (m : Nat) : ∀ os : List (List UInt8), ((os.find? fun o => Lib.hasPrefix l o).map List.length).getD 0 ≤ m → (∀ o ∈ os, o ≠ []) →
    ((os.find? fun o => Lib.hasPrefix (l.take m) o).map List.length).getD 0 = ((os.find? fun o => Lib.hasPrefix l o).map List.length).getD 0
  | [], _, _ => rfl
  | o :: os, h, hn => by
    rw [List.find?_cons] at h
    rw [List.find?_cons, List.find?_cons]
    cases ho : Lib.hasPrefix l o
    · rw [ho] at h
      cases hq : Lib.hasPrefix (l.take m) o
      · exact find_take l m os h fun o ho => hn o (List.mem_cons_of_mem _ ho)
      · rw [pre_take hq] at ho; simp at ho
    · rw [ho] at h
      have : o.length ≤ m := h
      rw [pre_to ho this]
theorem stable_oper : Stable operN := fun l m h => find_take l m opsL h (by decide +kernel)
theorem stable_esc : Stable escN := fun l m h => by
  match l, m, h with
  | [], m, _ => simp [escN]
  | [a], m, _ => match m with | 0 => rfl | m + 1 => simp
  | a :: c :: r, 0, h => rw [Nat.le_zero.1 h]; rfl
  | a :: c :: r, 1, h =>
    have h2 : escN (a :: c :: r) = 0 := by
      have e : escN (a :: c :: r) = if a == 92 then (if escPlain c then 2 else if c == 117 && runOf isHex (r.take 4) == 4 then 6 else 0) else 0 := rfl
      rw [e] at h ⊢
      repeat' split
      all_goals simp_all
    rw [h2]; rfl
  | a :: c :: r, m + 2, h =>
    have e : ∀ r, escN (a :: c :: r) = if a == 92 then (if escPlain c then 2 else if c == 117 && runOf isHex (r.take 4) == 4 then 6 else 0) else 0 := fun _ => rfl
    rw [List.take_succ_cons, List.take_succ_cons, e, e]
    rw [e] at h
    by_cases ha : (a == 92) = true
    · rw [if_pos ha] at h ⊢
      rw [if_pos ha]
      by_cases hc : escPlain c = true
      · rw [if_pos hc, if_pos hc]
      · rw [if_neg hc] at h
        rw [if_neg hc, if_neg hc]
        by_cases hu : (c == 117 && runOf isHex (r.take 4) == 4) = true
        · rw [if_pos hu] at h
          rw [if_pos hu, List.take_take, Nat.min_eq_left (by omega), if_pos hu]
        · rw [if_neg hu, if_neg]
          intro hv
          apply hu
          rw [Bool.and_eq_true, beq_iff_eq, beq_iff_eq] at hv ⊢
          refine ⟨hv.1, ?_⟩
          have h4 := hv.2
          rw [List.take_take, run_take] at h4
          rw [run_take]
          omega
    · rw [if_neg ha, if_neg ha]
theorem stable_piece_k : ∀ k (l : List UInt8) m, l.length ≤ k → pieceN l ≤ m → pieceN (l.take m) = pieceN l := by
  intro k
  induction k with
  | zero =>
    intro l m h _
    obtain rfl := List.length_eq_zero_iff.1 (show l.length = 0 by omega)
    rw [List.take_nil]
  | succ k ih =>
    intro l m hl h
    match l, m, hl, h with
    | [], m, _, _ => rw [List.take_nil]
    | b :: r, 0, _, h => rw [Nat.le_zero.1 h, List.take_zero, piece_nil]
    | b :: r, m + 1, hl, h =>
      by_cases hq : isQS b = true
      · by_cases he : escN (b :: r) = 0
        · rw [List.take_succ_cons, piece_stop b r hq he, piece_stop b _ hq]
          rw [← List.take_succ_cons, stable_esc _ _ (by omega), he]
        · rw [piece_esc (b :: r) he] at h ⊢
          have e := stable_esc (b :: r) (m + 1) (by omega)
          rw [piece_esc ((b :: r).take (m + 1)) (by rw [e]; exact he), e, List.drop_take, ih _ _ (by rw [List.length_drop]; omega) (by omega)]
      · have hq' : isQS b = false := by simpa using hq
        rw [piece_plain b r hq'] at h ⊢
        rw [List.take_succ_cons, piece_plain b _ hq', ih r m (by simp only [List.length_cons] at hl; omega) (by omega)]
theorem stable_piece : Stable pieceN := fun l m h => stable_piece_k _ l m (Nat.le_refl _) h
theorem stable_tries : ∀ x ∈ triesL, Stable x.2.2 := by
  intro x hx
  simp only [triesL, List.mem_cons, List.not_mem_nil, or_false] at hx
  rcases hx with rfl | rfl | rfl | rfl | rfl | rfl | rfl | rfl | rfl
  · exact stable_run _
  · exact stable_note
  · exact stable_word
  · exact stable_behind _ stable_simple
  · exact stable_behind _ stable_word
  · exact stable_behind _ (stable_run _)
  · exact stable_number
  · exact stable_quote
  · exact stable_oper
theorem tries_take (l : List UInt8) (m : Nat) : ∀ (xs : List (Nat × Nat × (List UInt8 → Nat))), (∀ x ∈ xs, Stable x.2.2) → (∀ x, xs.find? (fun x => decide (0 < x.2.2 l)) = some x → x.2.2 l ≤ m) →
    xs.find? (fun x => decide (0 < x.2.2 (l.take m))) = xs.find? (fun x => decide (0 < x.2.2 l))
  | [], _, _ => rfl
  | x :: xs, hs, h => by
    rw [List.find?_cons] at h
    rw [List.find?_cons, List.find?_cons]
    have hx := hs x (by simp) l m
    by_cases h0 : 0 < x.2.2 l
    · rw [decide_eq_true h0] at h
      have := hx (h x rfl)
      rw [this, decide_eq_true h0]
    · rw [decide_eq_false h0] at h
      have := hx (by omega)
      rw [this, decide_eq_false h0]
      exact tries_take l m xs (fun y hy => hs y (List.mem_cons_of_mem _ hy)) h
/-- a step that is no error is the same on a text that is cut behind its token -/
theorem step_take {l : List UInt8} {m : Nat} {st : List Nat} {inn : Bool} {k n : Nat} {st2 : List Nat} {inn2 : Bool} (hs : stepN l st inn = (k, n, st2, inn2, 0)) (hn : n ≤ m) (h0 : 0 < m) : stepN (l.take m) st inn = (k, n, st2, inn2, 0) := by
  unfold stepN at hs ⊢
  cases inn
  · rw [if_neg (by simp)] at hs ⊢
    unfold outN at hs ⊢
    have ht := tries_take l m triesL stable_tries (fun x hx => by rw [hx] at hs; simp only [Prod.mk.injEq] at hs; omega)
    rw [ht]
    cases hf : triesL.find? (fun x => decide (0 < x.2.2 l)) with
    | none => rw [hf] at hs; simp at hs
    | some x =>
      rw [hf] at hs
      have hx : x.2.2 l = n := by simp only [Prod.mk.injEq] at hs; exact hs.2.1
      have e := stable_tries x (List.mem_of_find?_eq_some hf) l m (by omega)
      simp only [e, hx, List.take_take, Nat.min_eq_left hn] at hs ⊢
      exact hs
  · rw [if_pos rfl] at hs ⊢
    unfold insN at hs ⊢
    by_cases hp : 0 < pieceN l
    · rw [if_pos hp] at hs
      have hx : pieceN l = n := by simp only [Prod.mk.injEq] at hs; exact hs.2.1
      have e := stable_piece l m (by omega)
      rw [e, if_pos hp]
      exact hs
    · rw [if_neg hp] at hs
      have e := stable_piece l m (by omega)
      rw [e, if_neg hp, List.getElem?_take_of_lt h0]
      split
      · rename_i h34
        rw [if_pos h34] at hs; exact hs
      · rename_i h34
        rw [if_neg h34] at hs
        cases hpx : Lib.hasPrefix l [92, 40]
        · rw [hpx, if_pos rfl] at hs; simp at hs
        · rw [hpx, if_neg (by simp)] at hs
          by_cases h256 : 256 ≤ st.length
          · rw [if_pos h256] at hs; simp at hs
          · rw [if_neg h256] at hs
            have hx : 2 = n := by simp only [Prod.mk.injEq] at hs; exact hs.2.1
            rw [pre_to hpx (by simp only [List.length_cons, List.length_nil]; omega), if_neg (by simp), if_neg h256]
            exact hs
theorem reach_take {l : List UInt8} {M : Nat} {pre : List Tok3} {at' : Nat} {st : List Nat} {inn : Bool} (h : Reach l pre at' st inn) : at' ≤ M → Reach (l.take M) pre at' st inn := by
  induction h with
  | nil => exact fun _ => .nil
  | @snoc pre at' st inn k n st2 inn2 hr hlt hs ih =>
    intro hM
    obtain ⟨i1, i2, i3, i4⟩ := reach_facts hr
    have hg := stepN_good (l.drop at') st inn at' (fun e => by have := congrArg List.length e; rw [List.length_drop] at this; simp at this; omega) i2 i3
    rw [hs] at hg
    obtain ⟨g1, g2, _, _⟩ := hg rfl
    dsimp only at g1 g2
    refine .snoc (ih (by omega)) (by rw [List.length_take]; omega) ?_
    rw [List.drop_take]
    exact step_take hs (by omega) (by omega)
end Go.Proofs.YtfaocpcbejgfjaaDoor
