/- What is read at a text's front does not turn where the text is cut behind it. No condition. · Texts of whole runes: cut at an edge of a rune, and laid one behind the other. No condition. · The lexer's run on a given text, so that it can be reckoned. No condition. · Where a token ends a text of whole runes may be cut; a run as a chain of steps. No condition. · Tokens ahead of a line's end are the same whatever stands behind it. No condition. · The tokens of two texts with a line's end between are those of both. No condition. · Two lists of tokens are compared. Its condition: how they lie in memory. · The builder of a text, and the text of tokens. Its condition: how the tokens lie in memory; a text of at most 2^46 bytes. · Join and Right of any list of tokens. Its condition: how the tokens lie in memory; a text of at most 10^6 bytes. · What a run's tokens are, one behind the other. No condition. -/
import Derived.Test.YtiinhkfbgecbjaaGreatDoorLx16
import Derived.Lib.TrimUEq
import Derived.Test.YtiinhkfbgecbjaaGreatDoorLx18
import Derived.Test.YtiinhkfbgecbjaaGreatDoorShelf3
import Derived.Lib.Builder
import Derived.Lib.AppendStr
import Derived.Laws.Externs
namespace Go.Proofs.YtiinhkfbgecbjaaGreatDoor
set_option linter.unusedSimpArgs false
set_option linter.unusedVariables false
open Go.RowKit Go.Sub

def Stable (f : List UInt8 → Nat) : Prop := ∀ l m, f l ≤ m → f (l.take m) = f l
theorem run_take (p : UInt8 → Bool) : ∀ (l : List UInt8) (m : Nat), runOf p (l.take m) = min m (runOf p l)
  | [], m => by simp [runOf]
  | b :: r, 0 => by simp [runOf]
  | b :: r, m + 1 => by
    have ih := run_take p r m
    unfold runOf at ih ⊢
    rw [List.take_succ_cons, List.takeWhile_cons, List.takeWhile_cons]
    cases p b
    · simp
    · simp only [if_true, List.length_cons]; omega
theorem stable_run (p : UInt8 → Bool) : Stable (runOf p) := fun l m h => by rw [run_take]; omega
theorem pre_take {l x : List UInt8} {m : Nat} (h : Lib.hasPrefix (l.take m) x = true) : Lib.hasPrefix l x = true := by
  unfold Lib.hasPrefix at *
  exact List.isPrefixOf_iff_prefix.2 ((List.isPrefixOf_iff_prefix.1 h).trans (List.take_prefix _ _))
theorem pre_to {l x : List UInt8} {m : Nat} (h : Lib.hasPrefix l x = true) (hm : x.length ≤ m) : Lib.hasPrefix (l.take m) x = true := by
  unfold Lib.hasPrefix at *
  obtain ⟨r, rfl⟩ := List.isPrefixOf_iff_prefix.1 h
  refine List.isPrefixOf_iff_prefix.2 ⟨r.take (m - x.length), ?_⟩
  rw [List.take_append, List.take_of_length_le hm]
theorem stable_simple : Stable simpleN := fun l m h => by
  match l, m, h with
  | [], m, _ => simp [simpleN]
  | b :: r, 0, h => rw [Nat.le_zero.1 h]; rfl
  | b :: r, m + 1, h =>
    have e : ∀ r, simpleN (b :: r) = if isLetter b then runOf isPart (b :: r) else 0 := fun _ => rfl
    rw [e] at h
    rw [List.take_succ_cons, e, e]
    by_cases hb : isLetter b = true
    · rw [if_pos hb] at h
      rw [if_pos hb, if_pos hb, ← List.take_succ_cons, run_take]; omega
    · rw [if_neg hb, if_neg hb]
theorem stable_more_k : ∀ k (l : List UInt8) m, l.length ≤ k → moreN l ≤ m → moreN (l.take m) = moreN l := by
  intro k
  induction k with
  | zero =>
    intro l m h _
    obtain rfl := List.length_eq_zero_iff.1 (show l.length = 0 by omega)
    rw [List.take_nil]
  | succ k ih =>
    intro l m hl h
    cases hp : Lib.hasPrefix l [58, 58]
    · rw [moreN_miss l hp, moreN_miss]
      cases hq : Lib.hasPrefix (l.take m) [58, 58]
      · rfl
      · rw [pre_take hq] at hp; simp at hp
    · by_cases h0 : simpleN (l.drop 2) = 0
      · rw [moreN_none l hp h0]
        cases hq : Lib.hasPrefix (l.take m) [58, 58]
        · exact moreN_miss _ hq
        · refine moreN_none _ hq ?_
          rw [List.drop_take, stable_simple _ _ (by omega), h0]
      · rw [moreN_hit l _ hp rfl h0] at h ⊢
        have hm : 2 + simpleN (l.drop 2) ≤ m := by omega
        have h2 := Lib.hasPrefix_le hp
        simp only [List.length_cons, List.length_nil] at h2
        have e : simpleN ((l.take m).drop 2) = simpleN (l.drop 2) := by rw [List.drop_take, stable_simple _ _ (by omega)]
        rw [moreN_hit (l.take m) _ (pre_to hp (by simp only [List.length_cons, List.length_nil]; omega)) e h0, List.drop_take, ih _ _ (by rw [List.length_drop]; omega) (by omega)]
theorem stable_more : Stable moreN := fun l m h => stable_more_k _ l m (Nat.le_refl _) h
theorem stable_word : Stable wordN := fun l m h => by
  unfold wordN at h ⊢
  by_cases h0 : simpleN l = 0
  · rw [if_pos h0, if_pos (by rw [stable_simple _ _ (by omega), h0])]
  · rw [if_neg h0] at h
    have e := stable_simple l m (by omega)
    rw [if_neg h0, if_neg (by rw [e]; exact h0), e, List.drop_take, stable_more _ _ (by omega)]
theorem signOff_take (r : List UInt8) (m : Nat) : signOff (r.take m) = (signOff r).take (m - (r.length - (signOff r).length)) := by
  match r, m with
  | [], m => simp [signOff]
  | b :: t, 0 => rw [Nat.zero_sub]; rfl
  | b :: t, m + 1 =>
    have e : ∀ t, signOff (b :: t) = if b == 43 || b == 45 then t else b :: t := fun _ => rfl
    rw [List.take_succ_cons, e, e]
    split
    · rw [List.length_cons, show m + 1 - (t.length + 1 - t.length) = m by omega]
    · rw [Nat.sub_self, Nat.sub_zero, List.take_succ_cons]
theorem stable_power : Stable powerN := fun l m h => by
  match l, m, h with
  | [], m, _ => simp [powerN]
  | b :: r, 0, h => rw [Nat.le_zero.1 h]; rfl
  | b :: r, m + 1, h =>
    have e : ∀ r, powerN (b :: r) = if b == 101 || b == 69 then (if runOf isDigit (signOff r) = 0 then 0 else (b :: r).length - (signOff r).length + runOf isDigit (signOff r)) else 0 := fun _ => rfl
    rw [List.take_succ_cons, e, e]
    rw [e] at h
    by_cases hb : (b == 101 || b == 69) = true
    · rw [if_pos hb] at h
      rw [if_pos hb, if_pos hb, signOff_take, run_take]
      have hs := signOff_le r
      have hr := runOf_le isDigit (signOff r)
      by_cases h0 : runOf isDigit (signOff r) = 0
      · rw [if_pos h0, if_pos (by omega)]
      · rw [if_neg h0] at h
        simp only [List.length_cons] at h
        rw [if_neg h0, if_neg (by omega)]
        simp only [List.length_cons, List.length_take]
        omega
    · rw [if_neg hb, if_neg hb]
theorem stable_mant : Stable mantN := fun l m h => by
  have hr := runOf_le isDigit l
  have ht := run_take isDigit l m
  by_cases h46 : l[runOf isDigit l]? = some 46
  · have e : mantN l = if runOf isDigit l + runOf isDigit (l.drop (runOf isDigit l + 1)) = 0 then 0 else runOf isDigit l + (1 + runOf isDigit (l.drop (runOf isDigit l + 1))) := by unfold mantN; rw [if_pos h46]
    rw [e] at h ⊢
    by_cases h0 : runOf isDigit l + runOf isDigit (l.drop (runOf isDigit l + 1)) = 0
    · rw [if_pos h0]
      have hd : runOf isDigit l = 0 := by omega
      rw [hd] at ht h0
      unfold mantN
      rw [ht, Nat.min_zero]
      split
      · rw [if_pos]
        rw [List.drop_take, run_take]
        omega
      · rfl
    · rw [if_neg h0] at h ⊢
      have hm : runOf isDigit (l.take m) = runOf isDigit l := by omega
      unfold mantN
      rw [hm, if_pos (by rw [List.getElem?_take_of_lt (by omega)]; exact h46), List.drop_take, run_take, show min (m - (runOf isDigit l + 1)) (runOf isDigit (l.drop (runOf isDigit l + 1))) = runOf isDigit (l.drop (runOf isDigit l + 1)) by omega, if_neg h0]
  · have e : mantN l = runOf isDigit l := by unfold mantN; rw [if_neg h46]
    rw [e] at h ⊢
    have hm : runOf isDigit (l.take m) = runOf isDigit l := by omega
    unfold mantN
    rw [hm, if_neg]
    intro hc
    rw [List.getElem?_take] at hc
    split at hc
    · exact h46 hc
    · simp at hc
theorem stable_number : Stable numberN := fun l m h => by
  unfold numberN at h ⊢
  by_cases h0 : mantN l = 0
  · rw [if_pos h0, if_pos (by rw [stable_mant _ _ (by omega), h0])]
  · rw [if_neg h0] at h
    have e := stable_mant l m (by omega)
    rw [if_neg h0, if_neg (by rw [e]; exact h0), e, List.drop_take, stable_power _ _ (by omega)]
theorem nl_take {l : List UInt8} {k m : Nat} (h : Lib.indexByte l 10 = k) (hk : k < m) : Lib.indexByte (l.take m) 10 = k := by
  obtain ⟨h1, h2⟩ := Lib.indexByte_some h
  rcases nl_cases (l.take m) with h0 | ⟨j, hj, hjl⟩
  · have := Lib.indexByte_none (show Lib.indexByte (l.take m) 10 = -1 by have := Lib.indexByte_ge (l.take m) 10; omega) k
    rw [List.getElem?_take_of_lt hk] at this
    exact absurd h1 this
  · obtain ⟨j1, j2⟩ := Lib.indexByte_some hj
    have hjk : j = k := by
      rcases Nat.lt_trichotomy j k with hlt | he | hgt
      · refine absurd ?_ (h2 j hlt)
        rwa [List.getElem?_take_of_lt (by omega)] at j1
      · exact he
      · refine absurd ?_ (j2 k hgt)
        rw [List.getElem?_take_of_lt hk]; exact h1
    rw [hj, hjk]
theorem nl_none {l : List UInt8} (h : ∀ k : Nat, l[k]? ≠ some 10) : Lib.indexByte l 10 < 0 := by
  rcases nl_cases l with h0 | ⟨j, hj, hjl⟩
  · exact h0
  · exact absurd (Lib.indexByte_some hj).1 (h j)
theorem stable_lines_k : ∀ k (l : List UInt8) m, l.length ≤ k → linesN l ≤ m → linesN (l.take m) = linesN l := by
  intro k
  induction k with
  | zero =>
    intro l m h _
    obtain rfl := List.length_eq_zero_iff.1 (show l.length = 0 by omega)
    rw [List.take_nil]
  | succ k ih =>
    intro l m hl h
    rcases nl_cases l with h0 | ⟨j, hj, hjl⟩
    · rw [linesN_none l h0] at h
      rw [List.take_of_length_le h]
    · cases h2 : (!oddB (l.take j) && !oddB (Lib.trimSuffix (l.take j) [13]))
      · rw [linesN_more l j hj h2] at h ⊢
        have ht : (l.take m).take j = l.take j := by rw [List.take_take, Nat.min_eq_left (by omega)]
        rw [linesN_more (l.take m) j (nl_take hj (by omega)) (by rw [ht]; exact h2), List.drop_take, ih _ _ (by rw [List.length_drop]; omega) (by omega)]
      · rw [linesN_end l j hj h2] at h ⊢
        by_cases hm : m = j
        · subst hm
          rw [linesN_none, List.length_take, Nat.min_eq_left (by omega)]
          refine nl_none fun i hi => ?_
          rw [List.getElem?_take] at hi
          split at hi
          · exact (Lib.indexByte_some hj).2 i (by assumption) hi
          · simp at hi
        · have ht : (l.take m).take j = l.take j := by rw [List.take_take, Nat.min_eq_left (by omega)]
          exact linesN_end (l.take m) j (nl_take hj (by omega)) (by rw [ht]; exact h2)
theorem stable_note : Stable noteN := fun l m h => by
  match l, m, h with
  | [], m, _ => simp [noteN]
  | b :: r, 0, h => rw [Nat.le_zero.1 h]; rfl
  | b :: r, m + 1, h =>
    have e : ∀ r, noteN (b :: r) = if b == 35 then linesN (b :: r) else 0 := fun _ => rfl
    rw [List.take_succ_cons, e, e]
    rw [e] at h
    split
    · rename_i hb
      rw [if_pos hb] at h
      rw [← List.take_succ_cons, stable_lines_k _ _ _ (Nat.le_refl _) h]
    · rfl
theorem stable_behind (c : UInt8) {f : List UInt8 → Nat} (hf : Stable f) : Stable (behindN c f) := fun l m h => by
  match l, m, h with
  | [], m, _ => simp [behindN]
  | b :: r, 0, h => rw [Nat.le_zero.1 h]; rfl
  | b :: r, m + 1, h =>
    have e : ∀ r, behindN c f (b :: r) = if b == c then (if f r = 0 then 0 else f r + 1) else 0 := fun _ => rfl
    rw [List.take_succ_cons, e, e]
    rw [e] at h
    split
    · rename_i hb
      rw [if_pos hb] at h
      by_cases h0 : f r = 0
      · rw [if_pos h0, if_pos (by rw [hf _ _ (by omega), h0])]
      · rw [if_neg h0] at h
        rw [hf r m (by omega)]
    · rfl
theorem stable_quote : Stable quoteN := fun l m h => by
  match l, m, h with
  | [], m, _ => simp [quoteN]
  | b :: r, 0, h => rw [Nat.le_zero.1 h]; rfl
  | b :: r, m + 1, h => rfl
theorem find_take (l : List UInt8) (m : Nat) : ∀ os : List (List UInt8), ((os.find? fun o => Lib.hasPrefix l o).map List.length).getD 0 ≤ m → (∀ o ∈ os, o ≠ []) →
    ((os.find? fun o => Lib.hasPrefix (l.take m) o).map List.length).getD 0 = ((os.find? fun o => Lib.hasPrefix l o).map List.length).getD 0
  | [], _, _ => rfl
  | o :: os, h, hn => by
    rw [List.find?_cons] at h
    rw [List.find?_cons, List.find?_cons]
    cases ho : Lib.hasPrefix l o
    · rw [ho] at h
      cases hq : Lib.hasPrefix (l.take m) o
      · exact find_take l m os h fun o ho => hn o (List.mem_cons_of_mem _ ho)
      · rw [pre_take hq] at ho; simp at ho
    · rw [ho] at h
      have : o.length ≤ m := h
      rw [pre_to ho this]
theorem stable_oper : Stable operN := fun l m h => find_take l m opsL h (by decide +kernel)
theorem stable_esc : Stable escN := fun l m h => by
  match l, m, h with
  | [], m, _ => simp [escN]
  | [a], m, _ => match m with | 0 => rfl | m + 1 => simp
  | a :: c :: r, 0, h => rw [Nat.le_zero.1 h]; rfl
  | a :: c :: r, 1, h =>
    have h2 : escN (a :: c :: r) = 0 := by
      have e : escN (a :: c :: r) = if a == 92 then (if escPlain c then 2 else if c == 117 && runOf isHex (r.take 4) == 4 then 6 else 0) else 0 := rfl
      rw [e] at h ⊢
      repeat' split
      all_goals simp_all
    rw [h2]; rfl
  | a :: c :: r, m + 2, h =>
    have e : ∀ r, escN (a :: c :: r) = if a == 92 then (if escPlain c then 2 else if c == 117 && runOf isHex (r.take 4) == 4 then 6 else 0) else 0 := fun _ => rfl
    rw [List.take_succ_cons, List.take_succ_cons, e, e]
    rw [e] at h
    by_cases ha : (a == 92) = true
    · rw [if_pos ha] at h ⊢
      rw [if_pos ha]
      by_cases hc : escPlain c = true
      · rw [if_pos hc, if_pos hc]
      · rw [if_neg hc] at h
        rw [if_neg hc, if_neg hc]
        by_cases hu : (c == 117 && runOf isHex (r.take 4) == 4) = true
        · rw [if_pos hu] at h
          rw [if_pos hu, List.take_take, Nat.min_eq_left (by omega), if_pos hu]
        · rw [if_neg hu, if_neg]
          intro hv
          apply hu
          rw [Bool.and_eq_true, beq_iff_eq, beq_iff_eq] at hv ⊢
          refine ⟨hv.1, ?_⟩
          have h4 := hv.2
          rw [List.take_take, run_take] at h4
          rw [run_take]
          omega
    · rw [if_neg ha, if_neg ha]
theorem stable_piece_k : ∀ k (l : List UInt8) m, l.length ≤ k → pieceN l ≤ m → pieceN (l.take m) = pieceN l := by
  intro k
  induction k with
  | zero =>
    intro l m h _
    obtain rfl := List.length_eq_zero_iff.1 (show l.length = 0 by omega)
    rw [List.take_nil]
  | succ k ih =>
    intro l m hl h
    match l, m, hl, h with
    | [], m, _, _ => rw [List.take_nil]
    | b :: r, 0, _, h => rw [Nat.le_zero.1 h, List.take_zero, piece_nil]
    | b :: r, m + 1, hl, h =>
      by_cases hq : isQS b = true
      · by_cases he : escN (b :: r) = 0
        · rw [List.take_succ_cons, piece_stop b r hq he, piece_stop b _ hq]
          rw [← List.take_succ_cons, stable_esc _ _ (by omega), he]
        · rw [piece_esc (b :: r) he] at h ⊢
          have e := stable_esc (b :: r) (m + 1) (by omega)
          rw [piece_esc ((b :: r).take (m + 1)) (by rw [e]; exact he), e, List.drop_take, ih _ _ (by rw [List.length_drop]; omega) (by omega)]
      · have hq' : isQS b = false := by simpa using hq
        rw [piece_plain b r hq'] at h ⊢
        rw [List.take_succ_cons, piece_plain b _ hq', ih r m (by simp only [List.length_cons] at hl; omega) (by omega)]
theorem stable_piece : Stable pieceN := fun l m h => stable_piece_k _ l m (Nat.le_refl _) h
theorem stable_tries : ∀ x ∈ triesL, Stable x.2.2 := by
  intro x hx
  simp only [triesL, List.mem_cons, List.not_mem_nil, or_false] at hx
  rcases hx with rfl | rfl | rfl | rfl | rfl | rfl | rfl | rfl | rfl
  · exact stable_run _
  · exact stable_note
  · exact stable_word
  · exact stable_behind _ stable_simple
  · exact stable_behind _ stable_word
  · exact stable_behind _ (stable_run _)
  · exact stable_number
  · exact stable_quote
  · exact stable_oper
theorem tries_take (l : List UInt8) (m : Nat) : ∀ (xs : List (Nat × Nat × (List UInt8 → Nat))), (∀ x ∈ xs, Stable x.2.2) → (∀ x, xs.find? (fun x => decide (0 < x.2.2 l)) = some x → x.2.2 l ≤ m) →
    xs.find? (fun x => decide (0 < x.2.2 (l.take m))) = xs.find? (fun x => decide (0 < x.2.2 l))
  | [], _, _ => rfl
  | x :: xs, hs, h => by
    rw [List.find?_cons] at h
    rw [List.find?_cons, List.find?_cons]
    have hx := hs x (by simp) l m
    by_cases h0 : 0 < x.2.2 l
    · rw [decide_eq_true h0] at h
      have := hx (h x rfl)
      rw [this, decide_eq_true h0]
    · rw [decide_eq_false h0] at h
      have := hx (by omega)
      rw [this, decide_eq_false h0]
      exact tries_take l m xs (fun y hy => hs y (List.mem_cons_of_mem _ hy)) h
/-- a step that is no error is the same on a text that is cut behind its token -/
theorem step_take {l : List UInt8} {m : Nat} {st : List Nat} {inn : Bool} {k n : Nat} {st2 : List Nat} {inn2 : Bool} (hs : stepN l st inn = (k, n, st2, inn2, 0)) (hn : n ≤ m) (h0 : 0 < m) : stepN (l.take m) st inn = (k, n, st2, inn2, 0) := by
  unfold stepN at hs ⊢
  cases inn
  · rw [if_neg (by simp)] at hs ⊢
    unfold outN at hs ⊢
    have ht := tries_take l m triesL stable_tries (fun x hx => by rw [hx] at hs; simp only [Prod.mk.injEq] at hs; omega)
    rw [ht]
    cases hf : triesL.find? (fun x => decide (0 < x.2.2 l)) with
    | none => rw [hf] at hs; simp at hs
    | some x =>
      rw [hf] at hs
      have hx : x.2.2 l = n := by simp only [Prod.mk.injEq] at hs; exact hs.2.1
      have e := stable_tries x (List.mem_of_find?_eq_some hf) l m (by omega)
      simp only [e, hx, List.take_take, Nat.min_eq_left hn] at hs ⊢
      exact hs
  · rw [if_pos rfl] at hs ⊢
    unfold insN at hs ⊢
    by_cases hp : 0 < pieceN l
    · rw [if_pos hp] at hs
      have hx : pieceN l = n := by simp only [Prod.mk.injEq] at hs; exact hs.2.1
      have e := stable_piece l m (by omega)
      rw [e, if_pos hp]
      exact hs
    · rw [if_neg hp] at hs
      have e := stable_piece l m (by omega)
      rw [e, if_neg hp, List.getElem?_take_of_lt h0]
      split
      · rename_i h34
        rw [if_pos h34] at hs; exact hs
      · rename_i h34
        rw [if_neg h34] at hs
        cases hpx : Lib.hasPrefix l [92, 40]
        · rw [hpx, if_pos rfl] at hs; simp at hs
        · rw [hpx, if_neg (by simp)] at hs
          by_cases h256 : 256 ≤ st.length
          · rw [if_pos h256] at hs; simp at hs
          · rw [if_neg h256] at hs
            have hx : 2 = n := by simp only [Prod.mk.injEq] at hs; exact hs.2.1
            rw [pre_to hpx (by simp only [List.length_cons, List.length_nil]; omega), if_neg (by simp), if_neg h256]
            exact hs
theorem reach_take {l : List UInt8} {M : Nat} {pre : List Tok3} {at' : Nat} {st : List Nat} {inn : Bool} (h : Reach l pre at' st inn) : at' ≤ M → Reach (l.take M) pre at' st inn := by
  induction h with
  | nil => exact fun _ => .nil
  | @snoc pre at' st inn k n st2 inn2 hr hlt hs ih =>
    intro hM
    obtain ⟨i1, i2, i3, i4⟩ := reach_facts hr
    have hg := stepN_good (l.drop at') st inn at' (fun e => by have := congrArg List.length e; rw [List.length_drop] at this; simp at this; omega) i2 i3
    rw [hs] at hg
    obtain ⟨g1, g2, _, _⟩ := hg rfl
    dsimp only at g1 g2
    refine .snoc (ih (by omega)) (by rw [List.length_take]; omega) ?_
    rw [List.drop_take]
    exact step_take hs (by omega) (by omega)
end Go.Proofs.YtiinhkfbgecbjaaGreatDoor
namespace Go.Proofs.YtiinhkfbgecbjaaGreatDoor
set_option linter.unusedSimpArgs false
set_option linter.unusedVariables false
open Go.RowKit Go.Sub

set_option maxRecDepth 100000 in
set_option maxHeartbeats 4000000 in
theorem dec_same (n n' b0 b1 b2 b3 c1 c2 c3 : Nat) (hg : Lib.decodeN n b0 b1 b2 b3 ≠ (65533, 1)) (hn : (Lib.decodeN n b0 b1 b2 b3).2 ≤ n')
    (e1 : 1 < (Lib.decodeN n b0 b1 b2 b3).2 → c1 = b1) (e2 : 2 < (Lib.decodeN n b0 b1 b2 b3).2 → c2 = b2) (e3 : 3 < (Lib.decodeN n b0 b1 b2 b3).2 → c3 = b3) : Lib.decodeN n' b0 c1 c2 c3 = Lib.decodeN n b0 b1 b2 b3 := by
  by_cases h128 : b0 < 128
  · unfold Lib.decodeN; rw [if_pos h128, if_pos h128]
  by_cases g2 : b0 / 32 = 6 ∧ (1 < n ∧ b1 / 64 = 2)
  · have e : Lib.decodeN n b0 b1 b2 b3 = if b0 % 32 * 64 + b1 % 64 ≥ 128 then (b0 % 32 * 64 + b1 % 64, 2) else (65533, 1) := by unfold Lib.decodeN; rw [if_neg h128, if_pos g2]
    rw [e] at hg hn e1 e2 e3 ⊢
    by_cases h : b0 % 32 * 64 + b1 % 64 ≥ 128
    · rw [if_pos h] at hn e1 ⊢
      have E1 := e1 (by show 1 < 2; omega)
      have hn2 : 2 ≤ n' := hn
      subst E1
      unfold Lib.decodeN
      rw [if_neg h128, if_pos ⟨g2.1, by omega, g2.2.2⟩, if_pos h]
    · rw [if_neg h] at hg; exact absurd rfl hg
  by_cases g3 : b0 / 16 = 14 ∧ (1 < n ∧ b1 / 64 = 2) ∧ (2 < n ∧ b2 / 64 = 2)
  · have e : Lib.decodeN n b0 b1 b2 b3 = if b0 % 16 * 4096 + b1 % 64 * 64 + b2 % 64 ≥ 2048 ∧ (b0 % 16 * 4096 + b1 % 64 * 64 + b2 % 64 < 55296 ∨ (57344 ≤ b0 % 16 * 4096 + b1 % 64 * 64 + b2 % 64 ∧ b0 % 16 * 4096 + b1 % 64 * 64 + b2 % 64 ≤ 1114111))
     then (b0 % 16 * 4096 + b1 % 64 * 64 + b2 % 64, 3) else (65533, 1) := by unfold Lib.decodeN; rw [if_neg h128, if_neg g2, if_pos g3]
    rw [e] at hg hn e1 e2 e3 ⊢
    split at hg
    · rename_i h
      rw [if_pos h] at hn e1 e2 ⊢
      have E1 := e1 (by show 1 < 3; omega)
      have E2 := e2 (by show 2 < 3; omega)
      have hn2 : 3 ≤ n' := hn
      subst E1 E2
      unfold Lib.decodeN
      rw [if_neg h128, if_neg (by omega), if_pos ⟨g3.1, ⟨by omega, g3.2.1.2⟩, by omega, g3.2.2.2⟩, if_pos h]
    · exact absurd rfl hg
  by_cases g4 : b0 / 8 = 30 ∧ (1 < n ∧ b1 / 64 = 2) ∧ (2 < n ∧ b2 / 64 = 2) ∧ (3 < n ∧ b3 / 64 = 2)
  · have e : Lib.decodeN n b0 b1 b2 b3 = if b0 % 8 * 262144 + b1 % 64 * 4096 + b2 % 64 * 64 + b3 % 64 ≥ 65536 ∧ (b0 % 8 * 262144 + b1 % 64 * 4096 + b2 % 64 * 64 + b3 % 64 < 55296 ∨ (57344 ≤ b0 % 8 * 262144 + b1 % 64 * 4096 + b2 % 64 * 64 + b3 % 64 ∧ b0 % 8 * 262144 + b1 % 64 * 4096 + b2 % 64 * 64 + b3 % 64 ≤ 1114111))
     then (b0 % 8 * 262144 + b1 % 64 * 4096 + b2 % 64 * 64 + b3 % 64, 4) else (65533, 1) := by unfold Lib.decodeN; rw [if_neg h128, if_neg g2, if_neg g3, if_pos g4]
    rw [e] at hg hn e1 e2 e3 ⊢
    split at hg
    · rename_i h
      rw [if_pos h] at hn e1 e2 e3 ⊢
      have E1 := e1 (by show 1 < 4; omega)
      have E2 := e2 (by show 2 < 4; omega)
      have E3 := e3 (by show 3 < 4; omega)
      have hn2 : 4 ≤ n' := hn
      subst E1 E2 E3
      unfold Lib.decodeN
      rw [if_neg h128, if_neg (by omega), if_neg (by omega), if_pos ⟨g4.1, ⟨by omega, g4.2.1.2⟩, ⟨by omega, g4.2.2.1.2⟩, by omega, g4.2.2.2.2⟩, if_pos h]
    · exact absurd rfl hg
  · exfalso; apply hg; unfold Lib.decodeN; rw [if_neg h128, if_neg g2, if_neg g3, if_neg g4]
set_option maxRecDepth 100000 in
set_option maxHeartbeats 4000000 in
theorem dec_width (n b0 b1 b2 b3 : Nat) (h0 : 1 ≤ n) : 1 ≤ (Lib.decodeN n b0 b1 b2 b3).2 ∧ (Lib.decodeN n b0 b1 b2 b3).2 ≤ n ∧ (1 < (Lib.decodeN n b0 b1 b2 b3).2 → 128 ≤ b0 ∧ b1 / 64 = 2) ∧ (2 < (Lib.decodeN n b0 b1 b2 b3).2 → b2 / 64 = 2) ∧ (3 < (Lib.decodeN n b0 b1 b2 b3).2 → b3 / 64 = 2) ∧ (Lib.decodeN n b0 b1 b2 b3).2 ≤ 4 := by
  unfold Lib.decodeN
  repeat' split
  all_goals (refine ⟨?_, ?_, ?_, ?_, ?_, ?_⟩ <;> dsimp only <;> omega)
set_option maxRecDepth 100000 in
set_option maxHeartbeats 4000000 in
theorem dec_rune (n b0 b1 b2 b3 : Nat) (hb : b0 < 256 ∧ b1 < 256 ∧ b2 < 256) (h : (Lib.decodeN n b0 b1 b2 b3).1 = 65533) (hg : Lib.decodeN n b0 b1 b2 b3 ≠ (65533, 1)) : b0 = 239 ∧ b1 = 191 ∧ b2 = 189 ∧ 3 ≤ n := by
  unfold Lib.decodeN at h hg
  repeat' split at h
  all_goals (first | (exfalso; simp_all; done) | skip)
  all_goals (dsimp only at h; omega)
theorem dec_fffd (n b3 : Nat) (h : 3 ≤ n) : Lib.decodeN n 239 191 189 b3 = (65533, 3) := by
  unfold Lib.decodeN
  rw [if_neg (by omega), if_neg (by omega), if_pos (by omega), if_pos (by omega)]

def badL (l : List UInt8) : Bool := (Lib.decodeL l).1 == 65533 && !Lib.hasPrefix l [239, 191, 189]
theorem badAt_drop (s : ByteArray) (pos : Nat) : badAt s pos = badL (s.data.toList.drop pos) := by
  unfold badAt badL
  rw [Lib.decodeL_drop]
theorem byte_lt (l : List UInt8) (j : Nat) : (l.getD j 0).toNat < 256 := UInt8.toNat_lt _
/-- a good rune is one that is told by its own bytes -/
theorem good_iff (l : List UInt8) : badL l = false ↔ Lib.decodeL l ≠ (65533, 1) := by
  have hN := Lib.decodeL_N l
  constructor
  · intro h e
    unfold badL at h
    rw [e] at h
    have hp : Lib.hasPrefix l [239, 191, 189] = true := by simpa using h
    have hle := Lib.hasPrefix_le hp
    unfold Lib.hasPrefix at hp
    obtain ⟨r, rfl⟩ := List.isPrefixOf_iff_prefix.1 hp
    have h2 : Lib.decodeN ([239, 191, 189] ++ r).length 239 191 189 ((([239, 191, 189] ++ r : List UInt8)).getD 3 0).toNat = (65533, 1) := by rw [← e, hN]; rfl
    rw [dec_fffd _ _ hle] at h2
    simp at h2
  · intro h
    unfold badL
    by_cases h3 : (Lib.decodeL l).1 = 65533
    · obtain ⟨a, b, c, d⟩ := dec_rune _ _ _ _ _ ⟨byte_lt l 0, byte_lt l 1, byte_lt l 2⟩ (by rw [← hN]; exact h3) (by rw [← hN]; exact h)
      have hp : Lib.hasPrefix l [239, 191, 189] = true := by
        match l, d with
        | x :: y :: z :: r, _ =>
          have ex : x = 239 := UInt8.toNat_inj.1 a
          have ey : y = 191 := UInt8.toNat_inj.1 b
          have ez : z = 189 := UInt8.toNat_inj.1 c
          subst ex ey ez
          simp [Lib.hasPrefix]
      rw [hp]; simp
    · rw [beq_eq_false_iff_ne.2 h3]; rfl
theorem getD_same {a b : List UInt8} {j : Nat} (h : b[j]? = a[j]?) : (b.getD j 0).toNat = (a.getD j 0).toNat := by
  rw [List.getD_eq_getElem?_getD, List.getD_eq_getElem?_getD, h]
theorem dec_pre {a b : List UInt8} (hg : Lib.decodeL a ≠ (65533, 1)) (h0 : a ≠ []) (hb : (Lib.decodeL a).2 ≤ b.length) (he : ∀ j, j < (Lib.decodeL a).2 → b[j]? = a[j]?) : Lib.decodeL b = Lib.decodeL a := by
  have ha : 1 ≤ a.length := by
    cases a with
    | nil => exact absurd rfl h0
    | cons _ _ => simp
  rw [Lib.decodeL_N] at hg hb he ⊢
  rw [Lib.decodeL_N a]
  have hw := dec_width a.length (a.getD 0 0).toNat (a.getD 1 0).toNat (a.getD 2 0).toNat (a.getD 3 0).toNat ha
  have e0 : (b.getD 0 0).toNat = (a.getD 0 0).toNat := getD_same (he 0 (by omega))
  rw [e0]
  exact dec_same _ _ _ _ _ _ _ _ _ hg hb (fun h => getD_same (he 1 h)) (fun h => getD_same (he 2 h)) (fun h => getD_same (he 3 h))
theorem dec_le {l : List UInt8} (h0 : l ≠ []) : 1 ≤ (Lib.decodeL l).2 ∧ (Lib.decodeL l).2 ≤ l.length := by
  have ha : 1 ≤ l.length := by
    cases l with
    | nil => exact absurd rfl h0
    | cons _ _ => simp
  have hw := dec_width l.length (l.getD 0 0).toNat (l.getD 1 0).toNat (l.getD 2 0).toNat (l.getD 3 0).toNat ha
  rw [Lib.decodeL_N]
  exact ⟨hw.1, hw.2.1⟩
/-- all bytes of a rune of more than one byte are high -/
theorem dec_high {l : List UInt8} (h0 : l ≠ []) (h1 : 1 < (Lib.decodeL l).2) : ∀ j, j < (Lib.decodeL l).2 → ∀ b, l[j]? = some b → 128 ≤ b.toNat := by
  have ha : 1 ≤ l.length := by
    cases l with
    | nil => exact absurd rfl h0
    | cons _ _ => simp
  have hw := dec_width l.length (l.getD 0 0).toNat (l.getD 1 0).toNat (l.getD 2 0).toNat (l.getD 3 0).toNat ha
  rw [Lib.decodeL_N] at h1 ⊢
  intro j hj b hb
  have eg : (l.getD j 0).toNat = b.toNat := by rw [List.getD_eq_getElem?_getD, hb]; rfl
  obtain ⟨w1, w2, w3, w4, w5, w6⟩ := hw
  have h4 : j = 0 ∨ j = 1 ∨ j = 2 ∨ j = 3 := by omega
  rcases h4 with rfl | rfl | rfl | rfl
  · have := (w3 h1).1; omega
  · have := (w3 h1).2; omega
  · have := w4 hj; omega
  · have := w5 hj; omega

inductive Utf : List UInt8 → Prop
  | nil : Utf []
  | step {l : List UInt8} : l ≠ [] → Lib.decodeL l ≠ (65533, 1) → Utf (l.drop (Lib.decodeL l).2) → Utf l
theorem utf_inv {l : List UInt8} (h : Utf l) (h0 : l ≠ []) : Lib.decodeL l ≠ (65533, 1) ∧ Utf (l.drop (Lib.decodeL l).2) := by
  cases h with
  | nil => exact absurd rfl h0
  | step _ a b => exact ⟨a, b⟩
theorem check_utf (s : ByteArray) : ∀ k pos, s.size - pos ≤ k → (checkFrom s pos = -1 ↔ Utf (s.data.toList.drop pos)) := by
  intro k
  induction k with
  | zero =>
    intro pos h
    rw [check_end (by omega), List.drop_eq_nil_of_le (by rw [← Lib.size_eq]; omega)]
    exact ⟨fun _ => .nil, fun _ => rfl⟩
  | succ k ih =>
    intro pos h
    by_cases hlt : pos < s.size
    · have hne : s.data.toList.drop pos ≠ [] := fun e => by
        have := congrArg List.length e
        rw [List.length_drop, ← Lib.size_eq] at this
        simp at this; omega
      have hd := decode_step s pos hlt
      cases hb : badAt s pos
      · rw [check_good hlt hb, ih _ (by omega), ← Lib.decodeL_drop, ← List.drop_drop]
        rw [badAt_drop] at hb
        exact ⟨fun h => .step hne ((good_iff _).1 hb) h, fun h => (utf_inv h hne).2⟩
      · rw [check_bad hlt hb]
        rw [badAt_drop] at hb
        refine ⟨fun h => by omega, fun h => ?_⟩
        rw [(good_iff _).2 (utf_inv h hne).1] at hb; simp at hb
    · rw [check_end hlt, List.drop_eq_nil_of_le (by rw [← Lib.size_eq]; omega)]
      exact ⟨fun _ => .nil, fun _ => rfl⟩
theorem check_iff (s : ByteArray) : checkFrom s 0 = -1 ↔ Utf s.data.toList := check_utf s _ 0 (Nat.le_refl _)
/-- where a text may be cut: beside a byte that is a rune of its own -/
def Edge (l : List UInt8) (p : Nat) : Prop := p = 0 ∨ l.length ≤ p ∨ (∃ b, l[p]? = some b ∧ b.toNat < 128) ∨ ∃ b, 0 < p ∧ l[p - 1]? = some b ∧ b.toNat < 128
theorem utf_cut {l : List UInt8} (h : Utf l) : ∀ p, Edge l p → Utf (l.take p) ∧ Utf (l.drop p) := by
  induction h with
  | nil => intro p _; rw [List.take_nil, List.drop_nil]; exact ⟨.nil, .nil⟩
  | @step l h0 hg hu ih =>
    intro p he
    obtain ⟨d1, d2⟩ := dec_le h0
    rcases he with rfl | he | he
    · rw [List.take_zero, List.drop_zero]; exact ⟨.nil, .step h0 hg hu⟩
    · rw [List.take_of_length_le he, List.drop_eq_nil_of_le he]; exact ⟨.step h0 hg hu, .nil⟩
    · by_cases hp0 : p = 0
      · subst hp0; rw [List.take_zero, List.drop_zero]; exact ⟨.nil, .step h0 hg hu⟩
      have hkp : (Lib.decodeL l).2 ≤ p := by
        refine Nat.le_of_not_lt fun hlt => ?_
        have hh := dec_high h0 (by omega)
        rcases he with ⟨b, hb, hb2⟩ | ⟨b, _, hb, hb2⟩
        · have := hh p hlt b hb; omega
        · have := hh (p - 1) (by omega) b hb; omega
      have hE : Edge (l.drop (Lib.decodeL l).2) (p - (Lib.decodeL l).2) := by
        by_cases hk : p = (Lib.decodeL l).2
        · exact .inl (by omega)
        · rcases he with ⟨b, hb, hb2⟩ | ⟨b, _, hb, hb2⟩
          · exact .inr (.inr (.inl ⟨b, by rw [List.getElem?_drop, show (Lib.decodeL l).2 + (p - (Lib.decodeL l).2) = p by omega]; exact hb, hb2⟩))
          · exact .inr (.inr (.inr ⟨b, by omega, by rw [List.getElem?_drop, show (Lib.decodeL l).2 + (p - (Lib.decodeL l).2 - 1) = p - 1 by omega]; exact hb, hb2⟩))
      obtain ⟨i1, i2⟩ := ih _ hE
      rw [List.drop_drop, show (Lib.decodeL l).2 + (p - (Lib.decodeL l).2) = p by omega] at i2
      refine ⟨?_, i2⟩
      by_cases hpl : p ≤ l.length
      · have e : Lib.decodeL (l.take p) = Lib.decodeL l := dec_pre hg h0 (by rw [List.length_take]; omega) fun j hj => List.getElem?_take_of_lt (Nat.lt_of_lt_of_le hj hkp)
        refine .step (fun e => ?_) (by rw [e]; exact hg) ?_
        · have := congrArg List.length e
          rw [List.length_take, List.length_nil] at this
          omega
        · rw [e, List.drop_take]; exact i1
      · rw [List.take_of_length_le (by omega)]; exact .step h0 hg hu
theorem utf_append {a b : List UInt8} (h : Utf a) (hb : Utf b) : Utf (a ++ b) := by
  induction h with
  | nil => exact hb
  | @step l h0 hg hu ih =>
    obtain ⟨d1, d2⟩ := dec_le h0
    have e : Lib.decodeL (l ++ b) = Lib.decodeL l := dec_pre hg h0 (by rw [List.length_append]; omega) fun j hj => List.getElem?_append_left (by omega)
    refine .step (by simp [h0]) (by rw [e]; exact hg) ?_
    rw [e, List.drop_append_of_le_length d2]
    exact ih
theorem utf_ascii1 {b : UInt8} (h : b.toNat < 128) : Utf [b] := by
  have e : Lib.decodeL [b] = (b.toNat, 1) := by
    rw [Lib.decodeL_N]
    unfold Lib.decodeN
    rw [if_pos (show (([b] : List UInt8).getD 0 0).toNat < 128 from h)]; rfl
  refine .step (by simp) (by rw [e]; intro h2; rw [Prod.mk.injEq] at h2; omega) ?_
  rw [e]; exact .nil
theorem utf_ascii : ∀ {l : List UInt8}, (∀ b ∈ l, b.toNat < 128) → Utf l
  | [], _ => .nil
  | b :: r, h => utf_append (a := [b]) (utf_ascii1 (h b (by simp))) (utf_ascii fun x hx => h x (List.mem_cons_of_mem _ hx))
theorem utf_e : Utf [195, 169] := by
  have e : Lib.decodeL [195, 169] = (233, 2) := by rw [Lib.decodeL_N]; decide +kernel
  exact .step (by simp) (by rw [e]; simp) (by rw [e]; exact .nil)
theorem check_of {s : ByteArray} (h : Utf s.data.toList) : checkFrom s 0 = -1 := (check_iff s).2 h
end Go.Proofs.YtiinhkfbgecbjaaGreatDoor
namespace Go.Proofs.YtiinhkfbgecbjaaGreatDoor
set_option linter.unusedSimpArgs false
set_option linter.unusedVariables false
open Go.RowKit Go.Sub

def moreF : Nat → List UInt8 → Nat
  | 0, _ => 0
  | k + 1, l => if Lib.hasPrefix l [58, 58] = true then (if simpleN (l.drop 2) = 0 then 0 else 2 + simpleN (l.drop 2) + moreF k (l.drop (2 + simpleN (l.drop 2)))) else 0
theorem moreF_eq : ∀ k (l : List UInt8), l.length ≤ k → moreF k l = moreN l := by
  intro k
  induction k with
  | zero =>
    intro l h
    obtain rfl := List.length_eq_zero_iff.1 (show l.length = 0 by omega)
    rw [moreN_miss _ rfl]; rfl
  | succ k ih =>
    intro l hl
    rw [moreF]
    cases hp : Lib.hasPrefix l [58, 58]
    · rw [if_neg (by simp), moreN_miss l hp]
    · rw [if_pos rfl]
      by_cases h0 : simpleN (l.drop 2) = 0
      · rw [if_pos h0, moreN_none l hp h0]
      · have h2 := Lib.hasPrefix_le hp
        simp only [List.length_cons, List.length_nil] at h2
        rw [if_neg h0, moreN_hit l _ hp rfl h0, ih _ (by rw [List.length_drop]; omega)]
def wordF (l : List UInt8) : Nat := if simpleN l = 0 then 0 else simpleN l + moreF l.length (l.drop (simpleN l))
theorem wordF_eq (l : List UInt8) : wordF l = wordN l := by
  unfold wordF wordN
  rw [moreF_eq _ _ (by rw [List.length_drop]; omega)]
theorem wordF_fun : wordF = wordN := funext wordF_eq
def linesF : Nat → List UInt8 → Nat
  | 0, l => l.length
  | k + 1, l => if Lib.indexByte l 10 < 0 then l.length
    else if (!oddB (l.take (Lib.indexByte l 10).toNat) && !oddB (Lib.trimSuffix (l.take (Lib.indexByte l 10).toNat) [13])) = true then (Lib.indexByte l 10).toNat
    else (Lib.indexByte l 10).toNat + 1 + linesF k (l.drop ((Lib.indexByte l 10).toNat + 1))
theorem linesF_eq : ∀ k (l : List UInt8), l.length ≤ k → linesF k l = linesN l := by
  intro k
  induction k with
  | zero =>
    intro l h
    obtain rfl := List.length_eq_zero_iff.1 (show l.length = 0 by omega)
    rw [linesN_none _ (by decide)]; rfl
  | succ k ih =>
    intro l hl
    rw [linesF]
    rcases nl_cases l with h0 | ⟨j, hj, hjl⟩
    · rw [if_pos h0, linesN_none l h0]
    · have e : (Lib.indexByte l 10).toNat = j := by omega
      rw [if_neg (by omega), e]
      cases h2 : (!oddB (l.take j) && !oddB (Lib.trimSuffix (l.take j) [13]))
      · rw [if_neg (by simp), linesN_more l j hj h2, ih _ (by rw [List.length_drop]; omega)]
      · rw [if_pos rfl, linesN_end l j hj h2]
def noteF (l : List UInt8) : Nat := match l with
  | [] => 0
  | b :: r => if b == 35 then linesF (b :: r).length (b :: r) else 0
theorem noteF_eq (l : List UInt8) : noteF l = noteN l := by
  match l with
  | [] => rfl
  | b :: r =>
    show (if b == 35 then linesF (b :: r).length (b :: r) else 0) = if b == 35 then linesN (b :: r) else 0
    rw [linesF_eq _ _ (Nat.le_refl _)]
def pieceF : Nat → List UInt8 → Nat
  | 0, _ => 0
  | k + 1, l => match l with
    | [] => 0
    | b :: r => if isQS b = false then 1 + pieceF k r else if escN (b :: r) = 0 then 0 else escN (b :: r) + pieceF k ((b :: r).drop (escN (b :: r)))
theorem pieceF_eq : ∀ k (l : List UInt8), l.length ≤ k → pieceF k l = pieceN l := by
  intro k
  induction k with
  | zero =>
    intro l h
    obtain rfl := List.length_eq_zero_iff.1 (show l.length = 0 by omega)
    rw [piece_nil]; rfl
  | succ k ih =>
    intro l hl
    match l, hl with
    | [], _ => rw [piece_nil]; rfl
    | b :: r, hl =>
      rw [pieceF]
      simp only [List.length_cons] at hl
      cases hq : isQS b
      · rw [if_pos rfl, piece_plain b r hq, ih r (by omega)]
      · rw [if_neg (by simp)]
        by_cases he : escN (b :: r) = 0
        · rw [if_pos he, piece_stop b r hq he]
        · rw [if_neg he, piece_esc _ he, ih _ (by rw [List.length_drop, List.length_cons]; omega)]
/-- the nine kinds, and how many bytes of each stand at the front -/
def kindsL (l : List UInt8) : List (Nat × Nat) := [(1, runOf isBlank l), (2, noteF l), (3, wordF l), (4, behindN 46 simpleN l), (5, behindN 36 wordF l), (12, behindN 64 (runOf isPart) l), (6, numberN l), (7, quoteN l), (13, operN l)]
def outM (ks : List (Nat × Nat)) (l : List UInt8) (st : List Nat) : Step5 := match ks.find? (fun x => decide (0 < x.2)) with
  | none => (0, 0, st, false, 11)
  | some x => ((brkN st x.1 (l.take x.2)).2.1, x.2, (brkN st x.1 (l.take x.2)).1, (brkN st x.1 (l.take x.2)).2.2 || (x.1 == 7), 0)
theorem kinds_eq (l : List UInt8) : triesL.map (fun x => (x.1, x.2.2 l)) = kindsL l := by
  unfold kindsL
  rw [wordF_fun, noteF_eq]; rfl
theorem outM_eq (l : List UInt8) (st : List Nat) : outN l st = outM (kindsL l) l st := by
  rw [← kinds_eq]
  unfold outN outM
  rw [List.find?_map]
  rw [show ((fun x : Nat × Nat => decide (0 < x.2)) ∘ fun x : Nat × Nat × (List UInt8 → Nat) => (x.1, x.2.2 l)) = fun x => decide (0 < x.2.2 l) from rfl]
  cases triesL.find? (fun x => decide (0 < x.2.2 l)) <;> rfl
def insF (l : List UInt8) (st : List Nat) : Step5 :=
  if 0 < pieceF l.length l then (8, pieceF l.length l, st, true, 0)
  else if l[0]? = some 34 then (11, 1, st, false, 0)
  else if Lib.hasPrefix l [92, 40] = false then (0, 0, st, true, 12)
  else if 256 ≤ st.length then (0, 0, st, true, 21)
  else (9, 2, 0 :: st, false, 0)
theorem insF_eq (l : List UInt8) (st : List Nat) : insF l st = insN l st := by
  unfold insF insN
  rw [pieceF_eq _ _ (Nat.le_refl _)]
def stepF (l : List UInt8) (st : List Nat) (inn : Bool) : Step5 := if inn then insF l st else outM (kindsL l) l st
theorem stepF_eq (l : List UInt8) (st : List Nat) (inn : Bool) : stepF l st inn = stepN l st inn := by
  unfold stepF stepN
  rw [insF_eq, outM_eq]
def lexF : Nat → List UInt8 → Nat → List Nat → Bool → List (Nat × Nat × Nat) × Nat × Nat
  | 0, _, at', _, _ => ([], 99, at')
  | fuel + 1, l, at', st, inn =>
    if l.length ≤ at' then ([], (if inn || !st.isEmpty then 13 else 0), at')
    else match stepF (l.drop at') st inn with
      | (k, n, st2, inn2, 0) => ((k, at', n) :: (lexF fuel l (at' + n) st2 inn2).1, (lexF fuel l (at' + n) st2 inn2).2)
      | (_, _, _, _, e + 1) => ([], e + 1, at')
theorem lexF_eq : ∀ k (l : List UInt8) at' st inn, lexF k l at' st inn = lexN k l at' st inn
  | 0, _, _, _, _ => rfl
  | k + 1, l, at', st, inn => by
    rw [lexF, lexN, stepF_eq]
    split
    · rfl
    · generalize stepN (l.drop at') st inn = r
      obtain ⟨kd, n, st2, inn2, er⟩ := r
      cases er with
      | zero =>
        show ((kd, at', n) :: (lexF k l (at' + n) st2 inn2).1, (lexF k l (at' + n) st2 inn2).2) = _
        rw [lexF_eq k]
      | succ e => rfl

theorem tokens_at {s : ByteArray} {ys : List Tok3} {er at' : Nat} (h1 : s.size ≤ 65536) (hu : Utf s.data.toList) (h : lexN (s.size + 1) s.data.toList 0 [] false = (ys, er, at')) : tokensN s = if er = 0 then (ys, 0, 0) else ([], er, (at' : Int)) := by
  unfold tokensN
  rw [if_neg (by omega), if_neg (by rw [check_of hu]; omega), h]
/-- the cells of a list of tokens -/
theorem row_cells {w : World} {base g n cap : Nat} {e : TypeId} {size : Nat} {xs : List Value} (h : w.ownsRow base e size (.slice (some ⟨g, 0, none⟩) n cap) n xs) (j : Nat) {u : Value} (hx : xs[j]? = some u) : w.cell? ⟨g, j, none⟩ = some u := by
  have h2 := h.cells (g := g) rfl j u hx
  rwa [show (⟨g, 0, none⟩ : Addr).add j = ⟨g, j, none⟩ by unfold Addr.add; split <;> simp_all] at h2
def ex1 : List UInt8 := [46, 97, 124, 34, 120, 92, 40, 49, 41, 34]
theorem ex1_run : lexN 11 ex1 0 [] false = ([(4, 0, 2), (13, 2, 1), (7, 3, 1), (8, 4, 1), (9, 5, 2), (6, 7, 1), (10, 8, 1), (11, 9, 1)], 0, 10) := by
  rw [← lexF_eq]; decide +kernel
theorem ex2_run : lexN 4 [49, 32, 126] 0 [] false = ([(6, 0, 1), (1, 1, 1)], 11, 2) := by
  rw [← lexF_eq]; decide +kernel
theorem ex1_told : tokensN ⟨ex1.toArray⟩ = ([(4, 0, 2), (13, 2, 1), (7, 3, 1), (8, 4, 1), (9, 5, 2), (6, 7, 1), (10, 8, 1), (11, 9, 1)], 0, 0) :=
  tokens_at (s := ⟨ex1.toArray⟩) (by decide) (utf_ascii (by decide)) ex1_run
theorem ex2_told : tokensN ⟨#[49, 32, 126]⟩ = ([], 11, 2) :=
  tokens_at (s := ⟨#[49, 32, 126]⟩) (by decide) (utf_ascii (by decide)) ex2_run
end Go.Proofs.YtiinhkfbgecbjaaGreatDoor
namespace Go.Proofs.YtiinhkfbgecbjaaGreatDoor
set_option linter.unusedSimpArgs false
set_option linter.unusedVariables false
open Go.RowKit Go.Sub

/-- the last byte of what is read is ASCII -/
def LastA (f : List UInt8 → Nat) : Prop := ∀ m, 0 < f m → ∃ b, m[f m - 1]? = some b ∧ b.toNat < 128
theorem run_get (p : UInt8 → Bool) : ∀ (l : List UInt8) (j : Nat), j < runOf p l → ∃ b, l[j]? = some b ∧ p b = true
  | [], j, h => by simp [runOf] at h
  | b :: r, j, h => by
    have e : runOf p (b :: r) = if p b = true then runOf p r + 1 else 0 := by
      unfold runOf; rw [List.takeWhile_cons]; split <;> simp_all
    rw [e] at h
    split at h
    · rename_i hb
      match j, h with
      | 0, _ => exact ⟨b, rfl, hb⟩
      | j + 1, h => exact run_get p r j (by omega)
    · omega
theorem lastA_run {p : UInt8 → Bool} (hp : ∀ b, p b = true → b.toNat < 128) : LastA (runOf p) := fun m h => by
  obtain ⟨b, hb, hpb⟩ := run_get p m (runOf p m - 1) (by omega)
  exact ⟨b, hb, hp b hpb⟩
theorem asc_blank : ∀ b, isBlank b = true → b.toNat < 128 := fun b h => by
  have := u8_all (p := fun b => !isBlank b || decide (b.toNat < 128)) (by decide +kernel) b
  simp only [h, Bool.not_true, Bool.false_or, decide_eq_true_eq] at this; exact this
theorem asc_part : ∀ b, isPart b = true → b.toNat < 128 := fun b h => by
  have := u8_all (p := fun b => !isPart b || decide (b.toNat < 128)) (by decide +kernel) b
  simp only [h, Bool.not_true, Bool.false_or, decide_eq_true_eq] at this; exact this
theorem asc_digit : ∀ b, isDigit b = true → b.toNat < 128 := fun b h => by
  have := u8_all (p := fun b => !isDigit b || decide (b.toNat < 128)) (by decide +kernel) b
  simp only [h, Bool.not_true, Bool.false_or, decide_eq_true_eq] at this; exact this
theorem lastA_drop {f : List UInt8 → Nat} (hf : LastA f) (l : List UInt8) (k : Nat) (h : 0 < f (l.drop k)) : ∃ b, l[k + f (l.drop k) - 1]? = some b ∧ b.toNat < 128 := by
  obtain ⟨b, hb, h2⟩ := hf _ h
  rw [List.getElem?_drop, show k + (f (l.drop k) - 1) = k + f (l.drop k) - 1 by omega] at hb
  exact ⟨b, hb, h2⟩
theorem lastA_simple : LastA simpleN := fun m h => by
  match m, h with
  | [], h => simp [simpleN] at h
  | b :: r, h =>
    have e : simpleN (b :: r) = if isLetter b then runOf isPart (b :: r) else 0 := rfl
    rw [e] at h ⊢
    split at h
    · rename_i hb
      rw [if_pos hb]
      exact lastA_run asc_part _ h
    · omega
theorem lastA_more_k : ∀ k (l : List UInt8), l.length ≤ k → 0 < moreN l → ∃ b, l[moreN l - 1]? = some b ∧ b.toNat < 128 := by
  intro k
  induction k with
  | zero =>
    intro l h h0
    obtain rfl := List.length_eq_zero_iff.1 (show l.length = 0 by omega)
    rw [moreN_miss _ rfl] at h0; omega
  | succ k ih =>
    intro l hl h0
    cases hp : Lib.hasPrefix l [58, 58]
    · rw [moreN_miss l hp] at h0; omega
    · by_cases hs : simpleN (l.drop 2) = 0
      · rw [moreN_none l hp hs] at h0; omega
      · have h2 := Lib.hasPrefix_le hp
        simp only [List.length_cons, List.length_nil] at h2
        rw [moreN_hit l _ hp rfl hs]
        by_cases hm : moreN (l.drop (2 + simpleN (l.drop 2))) = 0
        · rw [hm, Nat.add_zero]
          exact lastA_drop lastA_simple l 2 (by omega)
        · obtain ⟨b, hb, hb2⟩ := ih (l.drop (2 + simpleN (l.drop 2))) (by rw [List.length_drop]; omega) (by omega)
          rw [List.getElem?_drop] at hb
          exact ⟨b, by rw [← hb]; congr 1; omega, hb2⟩
theorem lastA_more : LastA moreN := fun l h => lastA_more_k _ l (Nat.le_refl _) h
theorem lastA_word : LastA wordN := fun l h => by
  unfold wordN at h ⊢
  by_cases h0 : simpleN l = 0
  · rw [if_pos h0] at h; omega
  · rw [if_neg h0]
    by_cases hm : moreN (l.drop (simpleN l)) = 0
    · rw [hm, Nat.add_zero]; exact lastA_simple l (by omega)
    · exact lastA_drop lastA_more l (simpleN l) (by omega)
theorem lastA_power : LastA powerN := fun l h => by
  match l, h with
  | [], h => simp [powerN] at h
  | b :: r, h =>
    have e : powerN (b :: r) = if b == 101 || b == 69 then (if runOf isDigit (signOff r) = 0 then 0 else (b :: r).length - (signOff r).length + runOf isDigit (signOff r)) else 0 := rfl
    rw [e] at h ⊢
    split at h
    · rename_i hb
      rw [if_pos hb]
      split at h
      · omega
      · rename_i h0
        rw [if_neg h0]
        have hs : signOff r = (b :: r).drop ((b :: r).length - (signOff r).length) := by
          match r with
          | [] => rfl
          | c :: t =>
            have e2 : signOff (c :: t) = if c == 43 || c == 45 then t else c :: t := rfl
            rw [e2]
            split
            · rw [List.length_cons, List.length_cons, show t.length + 1 + 1 - t.length = 2 by omega]; rfl
            · rw [List.length_cons (a := b), show (c :: t).length + 1 - (c :: t).length = 1 by omega]; rfl
        have hk := lastA_drop (lastA_run asc_digit) (b :: r) ((b :: r).length - (signOff r).length) (by rw [← hs]; omega)
        rw [← hs] at hk
        exact hk
    · omega
theorem lastA_mant : LastA mantN := fun l h => by
  by_cases h46 : l[runOf isDigit l]? = some 46
  · have e : mantN l = if runOf isDigit l + runOf isDigit (l.drop (runOf isDigit l + 1)) = 0 then 0 else runOf isDigit l + (1 + runOf isDigit (l.drop (runOf isDigit l + 1))) := by unfold mantN; rw [if_pos h46]
    rw [e] at h ⊢
    split at h
    · omega
    · rename_i h0
      rw [if_neg h0]
      by_cases hd : runOf isDigit (l.drop (runOf isDigit l + 1)) = 0
      · rw [hd]; exact ⟨46, by rw [← h46]; congr 1, by decide⟩
      · obtain ⟨b, hb, hb2⟩ := lastA_drop (lastA_run asc_digit) l (runOf isDigit l + 1) (by omega)
        exact ⟨b, by rw [← hb]; congr 1; omega, hb2⟩
  · have e : mantN l = runOf isDigit l := by unfold mantN; rw [if_neg h46]
    rw [e] at h ⊢
    exact lastA_run asc_digit l h
theorem lastA_number : LastA numberN := fun l h => by
  unfold numberN at h ⊢
  by_cases h0 : mantN l = 0
  · rw [if_pos h0] at h; omega
  · rw [if_neg h0]
    by_cases hm : powerN (l.drop (mantN l)) = 0
    · rw [hm, Nat.add_zero]; exact lastA_mant l (by omega)
    · exact lastA_drop lastA_power l (mantN l) (by omega)
theorem lastA_behind (c : UInt8) {f : List UInt8 → Nat} (hf : LastA f) : LastA (behindN c f) := fun l h => by
  match l, h with
  | [], h => simp [behindN] at h
  | b :: r, h =>
    have e : behindN c f (b :: r) = if b == c then (if f r = 0 then 0 else f r + 1) else 0 := rfl
    rw [e] at h ⊢
    split at h
    · rename_i hb
      rw [if_pos hb]
      split at h
      · omega
      · rename_i h0
        rw [if_neg h0]
        have := lastA_drop hf (b :: r) 1 (by rw [List.drop_one, List.tail_cons]; omega)
        rw [List.drop_one, List.tail_cons] at this
        rw [Nat.add_comm]; exact this
    · omega
theorem lastA_quote : LastA quoteN := fun l h => by
  match l, h with
  | [], h => simp [quoteN] at h
  | b :: r, h =>
    have e : quoteN (b :: r) = if b == 34 then 1 else 0 := rfl
    rw [e] at h ⊢
    split at h
    · rename_i hb
      rw [if_pos hb]
      exact ⟨b, rfl, by rw [eq_of_beq hb]; decide⟩
    · omega
theorem opsL_ascii : ∀ x ∈ opsL, ∀ b ∈ x, b.toNat < 128 := by decide +kernel
theorem lastA_oper : LastA operN := fun l h => by
  unfold operN at h ⊢
  cases hf : opsL.find? fun o => Lib.hasPrefix l o with
  | none => rw [hf] at h; simp at h
  | some x =>
    rw [hf] at h
    have h0 : 0 < x.length := h
    have h1 := List.find?_some hf
    have hm := List.mem_of_find?_eq_some hf
    unfold Lib.hasPrefix at h1
    obtain ⟨r, rfl⟩ := List.isPrefixOf_iff_prefix.1 h1
    show ∃ b, (x ++ r)[x.length - 1]? = some b ∧ _
    rw [List.getElem?_append_left (by omega), List.getElem?_eq_getElem (by omega)]
    exact ⟨_, rfl, opsL_ascii x hm _ (List.getElem_mem _)⟩
theorem lines_next : ∀ k (l : List UInt8), l.length ≤ k → linesN l = l.length ∨ l[linesN l]? = some 10 := by
  intro k
  induction k with
  | zero =>
    intro l h
    obtain rfl := List.length_eq_zero_iff.1 (show l.length = 0 by omega)
    exact .inl (linesN_none _ (by decide))
  | succ k ih =>
    intro l hl
    rcases nl_cases l with h0 | ⟨j, hj, hjl⟩
    · exact .inl (linesN_none l h0)
    · cases h2 : (!oddB (l.take j) && !oddB (Lib.trimSuffix (l.take j) [13]))
      · rw [linesN_more l j hj h2]
        rcases ih (l.drop (j + 1)) (by rw [List.length_drop]; omega) with h | h
        · rw [List.length_drop] at h; exact .inl (by omega)
        · rw [List.getElem?_drop] at h; exact .inr h
      · rw [linesN_end l j hj h2]; exact .inr (Lib.indexByte_some hj).1
theorem note_next (l : List UInt8) (h : 0 < noteN l) : l.length ≤ noteN l ∨ l[noteN l]? = some 10 := by
  match l, h with
  | [], h => simp [noteN] at h
  | b :: r, h =>
    have e : noteN (b :: r) = if b == 35 then linesN (b :: r) else 0 := rfl
    rw [e] at h ⊢
    split at h
    · rename_i hb
      rw [if_pos hb]
      exact (lines_next _ (b :: r) (Nat.le_refl _)).imp (fun h => by omega) id
    · omega
theorem piece_next : ∀ k (l : List UInt8), l.length ≤ k → pieceN l = l.length ∨ ∃ b, l[pieceN l]? = some b ∧ isQS b = true := by
  intro k
  induction k with
  | zero =>
    intro l h
    obtain rfl := List.length_eq_zero_iff.1 (show l.length = 0 by omega)
    exact .inl piece_nil
  | succ k ih =>
    intro l hl
    match l, hl with
    | [], _ => exact .inl piece_nil
    | b :: r, hl =>
      by_cases hq : isQS b = true
      · by_cases he : escN (b :: r) = 0
        · rw [piece_stop b r hq he]; exact .inr ⟨b, rfl, hq⟩
        · rw [piece_esc (b :: r) he]
          have hle := escN_le (b :: r)
          rcases ih ((b :: r).drop (escN (b :: r))) (by rw [List.length_drop]; omega) with h | ⟨c, h, h2⟩
          · rw [List.length_drop] at h; exact .inl (by omega)
          · rw [List.getElem?_drop] at h; exact .inr ⟨c, h, h2⟩
      · have hq' : isQS b = false := by simpa using hq
        rw [piece_plain b r hq']
        simp only [List.length_cons] at hl
        rcases ih r (by omega) with h | ⟨c, h, h2⟩
        · exact .inl (by rw [List.length_cons]; omega)
        · exact .inr ⟨c, by rw [Nat.add_comm, List.getElem?_cons_succ]; exact h, h2⟩
theorem asc_qs : ∀ b, isQS b = true → b.toNat < 128 := fun b h => by
  have := u8_all (p := fun b => !isQS b || decide (b.toNat < 128)) (by decide +kernel) b
  simp only [h, Bool.not_true, Bool.false_or, decide_eq_true_eq] at this; exact this
/-- where a token ends -/
def Edge1 (m : List UInt8) (n : Nat) : Prop := m.length ≤ n ∨ (∃ b, m[n]? = some b ∧ b.toNat < 128) ∨ ∃ b, 0 < n ∧ m[n - 1]? = some b ∧ b.toNat < 128
theorem tries_edge : ∀ x ∈ triesL, ∀ m, 0 < x.2.2 m → Edge1 m (x.2.2 m) := by
  intro x hx m
  have key : ∀ f, LastA f → 0 < f m → Edge1 m (f m) := fun f hf h => .inr (.inr (by obtain ⟨b, h1, h2⟩ := hf m h; exact ⟨b, h, h1, h2⟩))
  simp only [triesL, List.mem_cons, List.not_mem_nil, or_false] at hx
  rcases hx with rfl | rfl | rfl | rfl | rfl | rfl | rfl | rfl | rfl
  · exact key _ (lastA_run asc_blank)
  · intro h
    rcases note_next m h with h | h
    · exact .inl h
    · exact .inr (.inl ⟨10, h, by decide⟩)
  · exact key _ lastA_word
  · exact key _ (lastA_behind _ lastA_simple)
  · exact key _ (lastA_behind _ lastA_word)
  · exact key _ (lastA_behind _ (lastA_run asc_part))
  · exact key _ lastA_number
  · exact key _ lastA_quote
  · exact key _ lastA_oper
theorem step_edge {m : List UInt8} {st : List Nat} {inn : Bool} {k n : Nat} {st2 : List Nat} {inn2 : Bool} (hs : stepN m st inn = (k, n, st2, inn2, 0)) : Edge1 m n := by
  unfold stepN at hs
  cases inn
  · rw [if_neg (by simp)] at hs
    unfold outN at hs
    cases hf : triesL.find? (fun x => decide (0 < x.2.2 m)) with
    | none => rw [hf] at hs; simp at hs
    | some x =>
      rw [hf] at hs
      have hx : x.2.2 m = n := by simp only [Prod.mk.injEq] at hs; exact hs.2.1
      rw [← hx]
      exact tries_edge x (List.mem_of_find?_eq_some hf) m (by simpa using List.find?_some hf)
  · rw [if_pos rfl] at hs
    unfold insN at hs
    split at hs
    · have hx : pieceN m = n := by simp only [Prod.mk.injEq] at hs; exact hs.2.1
      rw [← hx]
      rcases piece_next _ m (Nat.le_refl _) with h | ⟨b, h, h2⟩
      · exact .inl (by omega)
      · exact .inr (.inl ⟨b, h, asc_qs b h2⟩)
    · split at hs
      · rename_i h34
        have hx : 1 = n := by simp only [Prod.mk.injEq] at hs; exact hs.2.1
        rw [← hx]
        exact .inr (.inr ⟨34, by omega, h34, by decide⟩)
      · split at hs
        · simp at hs
        · split at hs
          · simp at hs
          · rename_i hp _
            have hx : 2 = n := by simp only [Prod.mk.injEq] at hs; exact hs.2.1
            rw [← hx]
            have hp' : Lib.hasPrefix m [92, 40] = true := by simpa using hp
            unfold Lib.hasPrefix at hp'
            obtain ⟨r, rfl⟩ := List.isPrefixOf_iff_prefix.1 hp'
            exact .inr (.inr ⟨40, by omega, rfl, by decide⟩)
theorem reach_edge {l : List UInt8} {pre : List Tok3} {at' : Nat} {st : List Nat} {inn : Bool} (h : Reach l pre at' st inn) : Edge l at' := by
  cases h with
  | nil => exact .inl rfl
  | @snoc pre a st0 inn0 k n _ _ hr hlt hs =>
    rcases step_edge hs with h | ⟨b, h, h2⟩ | ⟨b, h0, h, h2⟩
    · rw [List.length_drop] at h; exact .inr (.inl (by omega))
    · rw [List.getElem?_drop] at h; exact .inr (.inr (.inl ⟨b, h, h2⟩))
    · rw [List.getElem?_drop] at h; exact .inr (.inr (.inr ⟨b, by omega, by rw [← h]; congr 1; omega, h2⟩))
/-- how a run ends -/
theorem lex_reach {l : List UInt8} : ∀ (F : Nat) {pre : List Tok3} {a : Nat} {st : List Nat} {inn : Bool}, Reach l pre a st inn → l.length - a < F →
    ∃ ys b st2 inn2 er, Reach l (pre ++ ys) b st2 inn2 ∧ lexN F l a st inn = (ys, er, b) ∧ ((b < l.length ∧ er ≠ 0 ∧ (stepN (l.drop b) st2 inn2).2.2.2.2 = er) ∨ (b = l.length ∧ er = if inn2 || !st2.isEmpty then 13 else 0))
  | 0, _, _, _, _, _, h => by omega
  | F + 1, pre, a, st, inn, hr, h => by
    obtain ⟨f1, f2, f3, f4⟩ := reach_facts hr
    by_cases hlt : a < l.length
    · generalize hs : stepN (l.drop a) st inn = r
      obtain ⟨k, n, st2, inn2, er⟩ := r
      cases er with
      | zero =>
        have hg := stepN_good (l.drop a) st inn a (fun e => by have := congrArg List.length e; rw [List.length_drop] at this; simp at this; omega) f2 f3
        rw [hs] at hg
        obtain ⟨g1, g2, _, _⟩ := hg rfl
        dsimp only at g1 g2
        rw [List.length_drop] at g2
        obtain ⟨ys, b, st3, inn3, er, h1, h2, h3⟩ := lex_reach F (.snoc hr hlt hs) (by omega)
        refine ⟨(k, a, n) :: ys, b, st3, inn3, er, by rw [List.append_assoc] at h1; exact h1, ?_, h3⟩
        rw [lexN_step hlt hs, h2]
      | succ e =>
        refine ⟨[], a, st, inn, e + 1, by rw [List.append_nil]; exact hr, ?_, .inl ⟨hlt, by omega, by rw [hs]⟩⟩
        rw [lexN, if_neg (by omega), hs]
    · refine ⟨[], a, st, inn, _, by rw [List.append_nil]; exact hr, ?_, .inr ⟨by omega, rfl⟩⟩
      rw [lexN, if_pos (by omega)]
theorem lex_whole (l : List UInt8) : ∃ ys b st2 inn2 er, Reach l ys b st2 inn2 ∧ lexN (l.length + 1) l 0 [] false = (ys, er, b) ∧ ((b < l.length ∧ er ≠ 0 ∧ (stepN (l.drop b) st2 inn2).2.2.2.2 = er) ∨ (b = l.length ∧ er = if inn2 || !st2.isEmpty then 13 else 0)) := by
  obtain ⟨ys, b, st2, inn2, er, h1, h2, h3⟩ := lex_reach (l := l) (l.length + 1) .nil (by omega)
  exact ⟨ys, b, st2, inn2, er, by rwa [List.nil_append] at h1, h2, h3⟩
/-- a text that is cut where the lexer has come is told without an error but that it may end too early -/
theorem cut_told {s : ByteArray} (hs : s.size ≤ 65536) (hu : Utf s.data.toList) {ys : List Tok3} {b : Nat} {st : List Nat} {inn : Bool} (h : Reach s.data.toList ys b st inn) {T : ByteArray} (hT : T.data.toList = s.data.toList.take b) : ∃ zs, tokensN T = if inn || !st.isEmpty then ([], 13, (b : Int)) else (zs, 0, 0) := by
  obtain ⟨f1, f2, f3, f4⟩ := reach_facts h
  have hTs : T.size = b := by rw [Lib.size_eq, hT, List.length_take]; omega
  have hsz := Lib.size_eq s
  have hrun := reach_run (reach_take h (Nat.le_refl b)) (b - ys.length + 1)
  rw [show ys.length + (b - ys.length + 1) = T.size + 1 by omega, ← hT] at hrun
  have hend : lexN (b - ys.length + 1) T.data.toList b st inn = ([], (if inn || !st.isEmpty then 13 else 0), b) := by rw [lexN, if_pos (by rw [← Lib.size_eq]; omega)]
  rw [hend, List.append_nil] at hrun
  have ht := tokens_at (by omega) (by rw [hT]; exact (utf_cut hu b (reach_edge h)).1) hrun
  refine ⟨ys, ?_⟩
  rw [ht]
  cases (inn || !st.isEmpty) <;> simp
end Go.Proofs.YtiinhkfbgecbjaaGreatDoor
namespace Go.Proofs.YtiinhkfbgecbjaaGreatDoor
set_option linter.unusedSimpArgs false
set_option linter.unusedVariables false
open Go.RowKit Go.Sub

/-- what is read ahead of a line's end -/
def ExtB (f : List UInt8 → Nat) : Prop := ∀ m t, f (m ++ 10 :: t) = f (m ++ [10]) ∧ f (m ++ [10]) ≤ m.length
theorem pre_ext : ∀ (m x : List UInt8) (t : List UInt8), (∀ c ∈ x, c ≠ 10) → Lib.hasPrefix (m ++ 10 :: t) x = Lib.hasPrefix (m ++ [10]) x ∧ (Lib.hasPrefix (m ++ [10]) x = true → x.length ≤ m.length)
  | m, [], t, _ => by simp [Lib.hasPrefix]
  | [], c :: x, t, h => by
    have hc : (c == 10) = false := by simpa using h c (by simp)
    have e : ∀ t, Lib.hasPrefix (10 :: t) (c :: x) = false := fun t => by
      show (c == 10 && x.isPrefixOf t) = false
      rw [hc]; rfl
    rw [List.nil_append, List.nil_append, e, e]
    simp
  | b :: m, c :: x, t, h => by
    have ih := pre_ext m x t fun d hd => h d (List.mem_cons_of_mem _ hd)
    unfold Lib.hasPrefix at ih ⊢
    simp only [List.cons_append, List.isPrefixOf_cons_cons, List.length_cons]
    refine ⟨by rw [ih.1], fun hh => ?_⟩
    rw [Bool.and_eq_true] at hh
    have := ih.2 hh.2
    omega
theorem ext_run {p : UInt8 → Bool} (hp : p 10 = false) : ExtB (runOf p) := fun m t => by
  induction m with
  | nil =>
    have e : ∀ t, runOf p (10 :: t) = 0 := fun t => by unfold runOf; rw [List.takeWhile_cons, hp]; rfl
    rw [List.nil_append, List.nil_append, e, e]; simp
  | cons b r ih =>
    have e : ∀ r, runOf p (b :: r) = if p b = true then runOf p r + 1 else 0 := fun r => by
      unfold runOf; rw [List.takeWhile_cons]; split <;> simp_all
    rw [List.cons_append, List.cons_append, e, e, ih.1]
    refine ⟨rfl, ?_⟩
    rw [List.length_cons]
    split <;> omega
theorem ext_simple : ExtB simpleN := fun m t => by
  match m with
  | [] => exact ⟨rfl, Nat.zero_le _⟩
  | b :: r =>
    have e : ∀ r, simpleN (b :: r) = if isLetter b then runOf isPart (b :: r) else 0 := fun _ => rfl
    have h := ext_run (p := isPart) rfl (b :: r) t
    rw [List.cons_append, List.cons_append] at h
    rw [List.cons_append, List.cons_append, e, e]
    split
    · exact h
    · exact ⟨rfl, Nat.zero_le _⟩
theorem drop_ext {m t : List UInt8} {k : Nat} (h : k ≤ m.length) : (m ++ 10 :: t).drop k = m.drop k ++ 10 :: t := List.drop_append_of_le_length h
theorem ext_more_k : ∀ k (m : List UInt8) t, m.length ≤ k → moreN (m ++ 10 :: t) = moreN (m ++ [10]) ∧ moreN (m ++ [10]) ≤ m.length := by
  intro k
  induction k with
  | zero =>
    intro m t h
    obtain rfl := List.length_eq_zero_iff.1 (show m.length = 0 by omega)
    rw [List.nil_append, List.nil_append, moreN_miss _ rfl, moreN_miss _ rfl]; simp
  | succ k ih =>
    intro m t hl
    obtain ⟨p1, p2⟩ := pre_ext m [58, 58] t (by decide)
    cases hp : Lib.hasPrefix (m ++ [10]) [58, 58]
    · rw [hp] at p1
      rw [moreN_miss _ p1, moreN_miss _ hp]; simp
    · have h2 := p2 hp
      rw [hp] at p1
      simp only [List.length_cons, List.length_nil] at h2
      obtain ⟨s1, s2⟩ := ext_simple (m.drop 2) t
      have d1 : (m ++ 10 :: t).drop 2 = m.drop 2 ++ 10 :: t := drop_ext h2
      have d2 : (m ++ [10]).drop 2 = m.drop 2 ++ [10] := drop_ext h2
      rw [List.length_drop] at s2
      by_cases h0 : simpleN (m.drop 2 ++ [10]) = 0
      · rw [moreN_none _ p1 (by rw [d1, s1, h0]), moreN_none _ hp (by rw [d2, h0])]; simp
      · rw [moreN_hit _ _ p1 (by rw [d1, s1]) h0, moreN_hit _ _ hp (by rw [d2]) h0, drop_ext (by omega), drop_ext (by omega)]
        obtain ⟨i1, i2⟩ := ih (m.drop (2 + simpleN (m.drop 2 ++ [10]))) t (by rw [List.length_drop]; omega)
        rw [i1]
        rw [List.length_drop] at i2
        exact ⟨rfl, by omega⟩
theorem ext_more : ExtB moreN := fun m t => ext_more_k _ m t (Nat.le_refl _)
theorem ext_then {f g : List UInt8 → Nat} (hf : ExtB f) (hg : ExtB g) : ExtB (fun l => if f l = 0 then 0 else f l + g (l.drop (f l))) := fun m t => by
  obtain ⟨f1, f2⟩ := hf m t
  dsimp only
  rw [f1]
  by_cases h0 : f (m ++ [10]) = 0
  · rw [if_pos h0, if_pos h0]; simp
  · rw [if_neg h0, if_neg h0, drop_ext f2, drop_ext f2]
    obtain ⟨g1, g2⟩ := hg (m.drop (f (m ++ [10]))) t
    rw [List.length_drop] at g2
    rw [g1]
    exact ⟨rfl, by omega⟩
theorem ext_word : ExtB wordN := ext_then ext_simple ext_more
theorem signOff_ext (r t : List UInt8) : signOff (r ++ 10 :: t) = signOff r ++ 10 :: t := by
  match r with
  | [] => rfl
  | c :: r' =>
    have e : ∀ r, signOff (c :: r) = if c == 43 || c == 45 then r else c :: r := fun _ => rfl
    rw [List.cons_append, e, e]
    split <;> rfl
theorem ext_power : ExtB powerN := fun m t => by
  match m with
  | [] => exact ⟨rfl, Nat.zero_le _⟩
  | b :: r =>
    have e : ∀ r, powerN (b :: r) = if b == 101 || b == 69 then (if runOf isDigit (signOff r) = 0 then 0 else (b :: r).length - (signOff r).length + runOf isDigit (signOff r)) else 0 := fun _ => rfl
    rw [List.cons_append, List.cons_append, e, e]
    split
    · rw [signOff_ext, signOff_ext]
      obtain ⟨r1, r2⟩ := ext_run (p := isDigit) rfl (signOff r) t
      have hs := signOff_le r
      rw [r1]
      by_cases h0 : runOf isDigit (signOff r ++ [10]) = 0
      · rw [if_pos h0, if_pos h0]; simp
      · rw [if_neg h0, if_neg h0]
        simp only [List.length_cons, List.length_append, List.length_nil]
        omega
    · simp
theorem get_ext {m t : List UInt8} {k : Nat} (h : k ≤ m.length) : (m ++ 10 :: t)[k]? = (m ++ [10])[k]? := by
  by_cases hk : k < m.length
  · rw [List.getElem?_append_left hk, List.getElem?_append_left hk]
  · rw [List.getElem?_append_right (by omega), List.getElem?_append_right (by omega), show k - m.length = 0 by omega]; rfl
theorem ext_mant : ExtB mantN := fun m t => by
  obtain ⟨r1, r2⟩ := ext_run (p := isDigit) rfl m t
  have hg := get_ext (t := t) r2
  unfold mantN
  rw [r1, hg]
  by_cases h46 : (m ++ [10])[runOf isDigit (m ++ [10])]? = some 46
  · rw [if_pos h46, if_pos h46]
    have hlt : runOf isDigit (m ++ [10]) < m.length := by
      refine Nat.lt_of_le_of_ne r2 fun e => ?_
      rw [e, List.getElem?_append_right (Nat.le_refl _), Nat.sub_self] at h46
      simp at h46
    rw [drop_ext (k := runOf isDigit (m ++ [10]) + 1) hlt, drop_ext (k := runOf isDigit (m ++ [10]) + 1) hlt]
    obtain ⟨q1, q2⟩ := ext_run (p := isDigit) rfl (m.drop (runOf isDigit (m ++ [10]) + 1)) t
    rw [List.length_drop] at q2
    rw [q1]
    refine ⟨rfl, ?_⟩
    split <;> omega
  · rw [if_neg h46, if_neg h46]
    exact ⟨rfl, r2⟩
theorem ext_number : ExtB numberN := ext_then ext_mant ext_power
theorem ext_quote : ExtB quoteN := fun m t => by
  match m with
  | [] => exact ⟨rfl, Nat.zero_le _⟩
  | b :: r =>
    refine ⟨rfl, ?_⟩
    show (if b == 34 then 1 else 0) ≤ r.length + 1
    split <;> omega
theorem ext_behind {c : UInt8} (hc : c ≠ 10) {f : List UInt8 → Nat} (hf : ExtB f) : ExtB (behindN c f) := fun m t => by
  match m with
  | [] =>
    have e : ∀ t, behindN c f (10 :: t) = 0 := fun t => by
      show (if (10 : UInt8) == c then _ else 0) = 0
      rw [if_neg (by simpa using fun e => hc e.symm)]
    rw [List.nil_append, List.nil_append, e, e]; simp
  | b :: r =>
    obtain ⟨f1, f2⟩ := hf r t
    have e : ∀ r, behindN c f (b :: r) = if b == c then (if f r = 0 then 0 else f r + 1) else 0 := fun _ => rfl
    rw [List.cons_append, List.cons_append, e, e, f1]
    refine ⟨rfl, ?_⟩
    rw [List.length_cons]
    split
    · split <;> omega
    · omega
theorem opsL_no10 : ∀ x ∈ opsL, ∀ c ∈ x, c ≠ 10 := by decide +kernel
theorem ext_oper : ExtB operN := fun m t => by
  unfold operN
  rw [Lib.find_congr (p := fun o => Lib.hasPrefix (m ++ 10 :: t) o) (q := fun o => Lib.hasPrefix (m ++ [10]) o) fun x hx => (pre_ext m x t (opsL_no10 x hx)).1]
  refine ⟨rfl, ?_⟩
  cases hf : opsL.find? fun o => Lib.hasPrefix (m ++ [10]) o with
  | none => simp
  | some x => exact (pre_ext m x t (opsL_no10 x (List.mem_of_find?_eq_some hf))).2 (List.find?_some hf)
theorem ext_esc : ExtB escN := fun m t => by
  match m with
  | [] => cases t <;> exact ⟨rfl, Nat.zero_le _⟩
  | [a] =>
    have e : ∀ r, escN (a :: 10 :: r) = 0 := fun r => by
      show (if a == 92 then (if escPlain 10 then 2 else if (10 : UInt8) == 117 && runOf isHex (r.take 4) == 4 then 6 else 0) else 0) = 0
      split <;> rfl
    show escN (a :: 10 :: t) = escN (a :: 10 :: []) ∧ escN (a :: 10 :: []) ≤ 1
    rw [e, e]; simp
  | a :: c :: r =>
    have e : ∀ r, escN (a :: c :: r) = if a == 92 then (if escPlain c then 2 else if c == 117 && runOf isHex (r.take 4) == 4 then 6 else 0) else 0 := fun _ => rfl
    obtain ⟨r1, r2⟩ := ext_run (p := isHex) rfl r t
    show escN (a :: c :: (r ++ 10 :: t)) = escN (a :: c :: (r ++ [10])) ∧ escN (a :: c :: (r ++ [10])) ≤ r.length + 1 + 1
    rw [e, e, run_take, run_take, r1]
    refine ⟨rfl, ?_⟩
    split
    · split
      · omega
      · split
        · rename_i h
          rw [Bool.and_eq_true, beq_iff_eq, beq_iff_eq] at h
          have := h.2
          omega
        · omega
    · omega
theorem ext_piece_k : ∀ k (m : List UInt8) t, m.length ≤ k → pieceN (m ++ [10]) < m.length + 1 → pieceN (m ++ 10 :: t) = pieceN (m ++ [10]) := by
  intro k
  induction k with
  | zero =>
    intro m t h hlt
    obtain rfl := List.length_eq_zero_iff.1 (show m.length = 0 by omega)
    rw [List.nil_append, piece_plain _ _ rfl, piece_nil] at hlt
    simp at hlt
  | succ k ih =>
    intro m t hl hlt
    match m, hl, hlt with
    | [], _, hlt =>
      rw [List.nil_append, piece_plain _ _ rfl, piece_nil] at hlt
      simp at hlt
    | b :: r, hl, hlt =>
      simp only [List.length_cons] at hl hlt
      by_cases hq : isQS b = true
      · obtain ⟨e1, e2⟩ := ext_esc (b :: r) t
        rw [List.length_cons] at e2
        by_cases he : escN (b :: r ++ [10]) = 0
        · have p1 : pieceN (b :: r ++ 10 :: t) = 0 := piece_stop b _ hq (by rw [← he]; exact e1)
          have p2 : pieceN (b :: r ++ [10]) = 0 := piece_stop b _ hq he
          rw [p1, p2]
        · have p1 := piece_esc (b :: r ++ 10 :: t) (by rw [e1]; exact he)
          have p2 := piece_esc (b :: r ++ [10]) he
          rw [e1, drop_ext (by rw [List.length_cons]; exact e2)] at p1
          rw [drop_ext (by rw [List.length_cons]; exact e2)] at p2
          rw [p1, p2]
          rw [p2] at hlt
          rw [ih _ t (by rw [List.length_drop, List.length_cons]; omega) (by rw [List.length_drop, List.length_cons]; omega)]
      · have hq' : isQS b = false := by simpa using hq
        rw [List.cons_append, List.cons_append, piece_plain _ _ hq', piece_plain _ _ hq'] 
        rw [List.cons_append, piece_plain _ _ hq'] at hlt
        rw [ih r t (by omega) (by omega)]
theorem nl_ext (m t : List UInt8) : ∃ j : Nat, Lib.indexByte (m ++ [10]) 10 = j ∧ Lib.indexByte (m ++ 10 :: t) 10 = j ∧ j ≤ m.length := by
  induction m with
  | nil => exact ⟨0, rfl, rfl, Nat.le_refl _⟩
  | cons b r ih =>
    obtain ⟨j, h1, h2, h3⟩ := ih
    have e : ∀ l, Lib.indexByte (b :: l) 10 = if b == 10 then 0 else if Lib.indexByte l 10 == -1 then -1 else Lib.indexByte l 10 + 1 := fun _ => rfl
    rw [List.cons_append, List.cons_append, e, e, h1, h2]
    cases hb : (b == 10)
    · refine ⟨j + 1, ?_, ?_, by rw [List.length_cons]; omega⟩
      all_goals
        rw [if_neg (by simp), if_neg (by simp)]; omega
    · exact ⟨0, rfl, rfl, Nat.zero_le _⟩
theorem ext_lines_k : ∀ k (m : List UInt8) t, m.length ≤ k → linesN (m ++ [10]) < m.length + 1 → linesN (m ++ 10 :: t) = linesN (m ++ [10]) := by
  intro k
  induction k with
  | zero =>
    intro m t h hlt
    obtain rfl := List.length_eq_zero_iff.1 (show m.length = 0 by omega)
    show linesN (10 :: t) = linesN [10]
    rw [linesN_end [10] 0 rfl rfl, linesN_end (10 :: t) 0 rfl rfl]
  | succ k ih =>
    intro m t hl hlt
    obtain ⟨j, h1, h2, h3⟩ := nl_ext m t
    have t1 : (m ++ [10]).take j = m.take j := List.take_append_of_le_length h3
    have t2 : (m ++ 10 :: t).take j = m.take j := List.take_append_of_le_length h3
    cases hb : (!oddB (m.take j) && !oddB (Lib.trimSuffix (m.take j) [13]))
    · have p1 := linesN_more (m ++ [10]) j h1 (by rw [t1]; exact hb)
      have p2 := linesN_more (m ++ 10 :: t) j h2 (by rw [t2]; exact hb)
      rw [p1] at hlt
      rw [p1, p2]
      by_cases hj : j = m.length
      · rw [hj] at hlt; omega
      · rw [drop_ext (by omega)] at hlt
        rw [drop_ext (by omega), drop_ext (by omega), ih _ t (by rw [List.length_drop]; omega) (by rw [List.length_drop]; omega)]
    · rw [linesN_end (m ++ [10]) j h1 (by rw [t1]; exact hb), linesN_end (m ++ 10 :: t) j h2 (by rw [t2]; exact hb)]
theorem ext_note (m t : List UInt8) (h : noteN (m ++ [10]) < m.length + 1) : noteN (m ++ 10 :: t) = noteN (m ++ [10]) := by
  match m, h with
  | [], _ => rfl
  | b :: r, h =>
    have e : ∀ r, noteN (b :: r) = if b == 35 then linesN (b :: r) else 0 := fun _ => rfl
    rw [List.cons_append, e] at h
    rw [List.cons_append, List.cons_append, e, e]
    split
    · rename_i hb
      rw [if_pos hb] at h
      exact ext_lines_k _ (b :: r) t (Nat.le_refl _) h
    · rfl
theorem run_append {p : UInt8 → Bool} : ∀ (m t : List UInt8), runOf p m < m.length → runOf p (m ++ t) = runOf p m
  | [], t, h => by simp at h
  | b :: r, t, h => by
    have e : ∀ r, runOf p (b :: r) = if p b = true then runOf p r + 1 else 0 := fun r => by
      unfold runOf; rw [List.takeWhile_cons]; split <;> simp_all
    rw [e, List.length_cons] at h
    rw [List.cons_append, e, e]
    split
    · rename_i hb
      rw [if_pos hb] at h
      rw [run_append r t (by omega)]
    · rfl
theorem run_append_all {p : UInt8 → Bool} : ∀ (m t : List UInt8), runOf p m = m.length → (∀ b, t[0]? = some b → p b = false) → runOf p (m ++ t) = m.length
  | [], t, _, h => by
    match t, h with
    | [], _ => rfl
    | b :: t, h =>
      rw [List.nil_append]
      unfold runOf
      rw [List.takeWhile_cons, h b rfl]; rfl
  | b :: r, t, hm, h => by
    have e : ∀ r, runOf p (b :: r) = if p b = true then runOf p r + 1 else 0 := fun r => by
      unfold runOf; rw [List.takeWhile_cons]; split <;> simp_all
    rw [e, List.length_cons] at hm
    rw [List.cons_append, e, List.length_cons]
    split at hm
    · rename_i hb
      rw [if_pos hb, run_append_all r t (by omega) h]
    · omega
end Go.Proofs.YtiinhkfbgecbjaaGreatDoor
namespace Go.Proofs.YtiinhkfbgecbjaaGreatDoor
set_option linter.unusedSimpArgs false
set_option linter.unusedVariables false
open Go.RowKit Go.Sub

def HeadNotBlank (t : List UInt8) : Prop := ∀ b, t[0]? = some b → isBlank b = false
theorem find_same {α : Type} (g g' : α → Nat) : ∀ xs : List α, (∀ x ∈ xs, g x = 0 → g' x = 0) → (∀ x, xs.find? (fun x => decide (0 < g x)) = some x → g' x = g x) → xs.find? (fun x => decide (0 < g' x)) = xs.find? (fun x => decide (0 < g x))
  | [], _, _ => rfl
  | x :: xs, h, hf => by
    rw [List.find?_cons] at hf
    rw [List.find?_cons, List.find?_cons]
    by_cases h0 : 0 < g x
    · rw [decide_eq_true h0] at hf
      rw [hf x rfl, decide_eq_true h0]
    · rw [decide_eq_false h0] at hf
      rw [h x (by simp) (by omega), decide_eq_false h0, decide_eq_false (by omega)]
      exact find_same g g' xs (fun y hy => h y (List.mem_cons_of_mem _ hy)) hf
theorem app_cons (m t : List UInt8) : m ++ 10 :: t = (m ++ [10]) ++ t := by simp
theorem tries_ext (m t : List UInt8) : ∀ x ∈ triesL, (x.2.2 (m ++ [10]) < m.length + 1 ∨ (x.1 = 1 ∧ HeadNotBlank t)) → x.2.2 (m ++ 10 :: t) = x.2.2 (m ++ [10]) := by
  intro x hx
  simp only [triesL, List.mem_cons, List.not_mem_nil, or_false] at hx
  rcases hx with rfl | rfl | rfl | rfl | rfl | rfl | rfl | rfl | rfl
  · intro h
    show runOf isBlank (m ++ 10 :: t) = runOf isBlank (m ++ [10])
    rw [app_cons]
    have hle := runOf_le isBlank (m ++ [10])
    by_cases hlt : runOf isBlank (m ++ [10]) < (m ++ [10]).length
    · exact run_append _ _ hlt
    · have hlen : (m ++ [10]).length = m.length + 1 := by simp
      rcases h with h | h
      · dsimp only at h; omega
      · rw [run_append_all _ _ (by omega) h.2]; omega
  · intro h
    rcases h with h | h
    · exact ext_note m t h
    · exact absurd h.1 (by decide)
  · exact fun _ => (ext_word m t).1
  · exact fun _ => (ext_behind (by decide) ext_simple m t).1
  · exact fun _ => (ext_behind (by decide) ext_word m t).1
  · exact fun _ => (ext_behind (by decide) (ext_run rfl) m t).1
  · exact fun _ => (ext_number m t).1
  · exact fun _ => (ext_quote m t).1
  · exact fun _ => (ext_oper m t).1
theorem brk_which (st : List Nat) (kind : Nat) (x : List UInt8) : (brkN st kind x).2.1 = kind ∨ (brkN st kind x).2.1 = 10 := by
  match st with
  | [] => exact .inl rfl
  | t :: rest =>
    unfold brkN
    dsimp only
    split
    · split
      · exact .inl rfl
      · split
        · split
          · exact .inr rfl
          · exact .inl rfl
        · exact .inl rfl
    · exact .inl rfl
theorem step_ext {m t : List UInt8} {st : List Nat} {inn : Bool} {k n : Nat} {st2 : List Nat} {inn2 : Bool} (hs : stepN (m ++ [10]) st inn = (k, n, st2, inn2, 0)) (hn : n < m.length + 1 ∨ (k = 1 ∧ HeadNotBlank t)) : stepN (m ++ 10 :: t) st inn = (k, n, st2, inn2, 0) := by
  unfold stepN at hs ⊢
  cases inn
  · rw [if_neg (by simp)] at hs ⊢
    unfold outN at hs ⊢
    have hcase : ∀ x, triesL.find? (fun x => decide (0 < x.2.2 (m ++ [10]))) = some x → x.2.2 (m ++ 10 :: t) = x.2.2 (m ++ [10]) ∧ x.2.2 (m ++ [10]) = n := fun x hx => by
      rw [hx] at hs
      simp only [Prod.mk.injEq] at hs
      refine ⟨tries_ext m t x (List.mem_of_find?_eq_some hx) ?_, hs.2.1⟩
      rw [hs.2.1]
      refine hn.imp id fun h => ⟨?_, h.2⟩
      rcases brk_which st x.1 ((m ++ [10]).take (x.2.2 (m ++ [10]))) with e | e
      · rw [← e, hs.1, h.1]
      · rw [hs.1, h.1] at e; simp at e
    rw [find_same (fun x => x.2.2 (m ++ [10])) (fun x => x.2.2 (m ++ 10 :: t)) triesL (fun x hx h0 => by rw [tries_ext m t x hx (.inl (by omega)), h0]) (fun x hx => (hcase x hx).1)]
    cases hf : triesL.find? (fun x => decide (0 < x.2.2 (m ++ [10]))) with
    | none => rw [hf] at hs; simp at hs
    | some x =>
      rw [hf] at hs
      obtain ⟨e1, e2⟩ := hcase x hf
      have hle := tries_le x (List.mem_of_find?_eq_some hf) (m ++ [10])
      have et : (m ++ 10 :: t).take (x.2.2 (m ++ [10])) = (m ++ [10]).take (x.2.2 (m ++ [10])) := by rw [app_cons m t]; exact List.take_append_of_le_length hle
      dsimp only at hs ⊢
      rw [e1, et]
      exact hs
  · rw [if_pos rfl] at hs ⊢
    unfold insN at hs ⊢
    have hk : pieceN (m ++ [10]) < m.length + 1 := by
      by_cases hp : 0 < pieceN (m ++ [10])
      · rw [if_pos hp] at hs
        simp only [Prod.mk.injEq] at hs
        rw [hs.2.1]
        refine hn.resolve_right fun h => ?_
        rw [h.1] at hs; simp at hs
      · omega
    rw [ext_piece_k _ m t (Nat.le_refl _) hk]
    split
    · rename_i hp
      rw [if_pos hp] at hs; exact hs
    · rename_i hp
      rw [if_neg hp] at hs
      rw [get_ext (Nat.zero_le _), (pre_ext m [92, 40] t (by decide)).1]
      exact hs
theorem reach_ext {l t : List UInt8} {ys : List Tok3} {a : Nat} {st : List Nat} {inn : Bool} (h : Reach (l ++ [10]) ys a st inn) : a < l.length + 1 → Reach (l ++ 10 :: t) ys a st inn := by
  induction h with
  | nil => exact fun _ => .nil
  | @snoc pre a st inn k n st2 inn2 hr hlt hs ih =>
    intro hlt2
    refine .snoc (ih (by omega)) (by rw [List.length_append, List.length_cons]; omega) ?_
    rw [drop_ext (by omega)] at hs
    rw [drop_ext (by omega)]
    exact step_ext hs (.inl (by rw [List.length_drop]; omega))
theorem reach_ext_last {l t : List UInt8} {ys : List Tok3} {st : List Nat} {inn : Bool} (h : Reach (l ++ [10]) ys (l.length + 1) st inn) (hk : ys.getLast?.map (·.1) = some 1) (ht : HeadNotBlank t) : Reach (l ++ 10 :: t) ys (l.length + 1) st inn := by
  generalize hb : l.length + 1 = b at h
  cases h with
  | nil => simp at hk
  | @snoc pre a st0 inn0 k n _ _ hr hlt hs =>
    have hk1 : k = 1 := by simpa using hk
    obtain ⟨i1, i2, i3, i4⟩ := reach_facts hr
    rw [List.length_append, List.length_singleton] at hlt
    refine .snoc (reach_ext hr hlt) (by rw [List.length_append, List.length_cons]; omega) ?_
    rw [drop_ext (by omega)] at hs
    rw [drop_ext (by omega)]
    exact step_ext hs (.inr ⟨hk1, ht⟩)
def shiftT (d : Nat) (x : Tok3) : Tok3 := (x.1, d + x.2.1, x.2.2)
theorem lex_shift (a t : List UInt8) : ∀ (F i : Nat) (st : List Nat) (inn : Bool), lexN F (a ++ t) (a.length + i) st inn = ((lexN F t i st inn).1.map (shiftT a.length), (lexN F t i st inn).2.1, if F = 0 then a.length + i else a.length + (lexN F t i st inn).2.2)
  | 0, _, _, _ => rfl
  | F + 1, i, st, inn => by
    rw [if_neg (by omega)]
    have hd : (a ++ t).drop (a.length + i) = t.drop i := by rw [List.drop_append]; simp
    by_cases hlt : i < t.length
    · generalize hs : stepN (t.drop i) st inn = r
      obtain ⟨k, n, st2, inn2, er⟩ := r
      cases er with
      | zero =>
        rw [lexN_step hlt hs, lexN_step (by rw [List.length_append]; omega) (by rw [hd]; exact hs), Nat.add_assoc, lex_shift a t F]
        match F with
        | 0 => simp only [lexN, List.map_nil, List.map_cons, if_true]; simp [shiftT]
        | F + 1 => rw [if_neg (by omega)]; rfl
      | succ e => rw [lexN, if_neg (by rw [List.length_append]; omega), hd, hs, lexN, if_neg (by omega), hs]; rfl
    · rw [lexN, if_pos (show (a ++ t).length ≤ a.length + i by rw [List.length_append]; omega), lexN, if_pos (show t.length ≤ i by omega)]; rfl
theorem reach_in {l : List UInt8} {ys : List Tok3} {a : Nat} {st : List Nat} {inn : Bool} (h : Reach l ys a st inn) : ∀ x ∈ ys, x.2.1 + x.2.2 ≤ a := by
  induction h with
  | nil => intro x hx; simp at hx
  | @snoc pre a st inn k n st2 inn2 hr hlt hs ih =>
    intro x hx
    rcases List.mem_append.1 hx with h | h
    · have := ih x h; omega
    · rw [List.mem_singleton.1 h]; exact Nat.le_refl _
theorem tokC_left {a t : List UInt8} : ∀ ys : List Tok3, (∀ x ∈ ys, x.2.1 + x.2.2 ≤ a.length) → tokC (a ++ t) ys = tokC a ys
  | [], _ => rfl
  | x :: ys, h => by
    have hx := h x (by simp)
    have ih := tokC_left (t := t) ys fun y hy => h y (List.mem_cons_of_mem _ hy)
    unfold tokC at ih ⊢
    rw [List.flatMap_cons, List.flatMap_cons, ih, List.drop_append_of_le_length (by omega), List.take_append_of_le_length (by rw [List.length_drop]; omega)]
theorem tokC_right {a t : List UInt8} : ∀ zs : List Tok3, tokC (a ++ t) (zs.map (shiftT a.length)) = tokC t zs
  | [] => rfl
  | x :: zs => by
    have ih := tokC_right (a := a) (t := t) zs
    unfold tokC at ih ⊢
    rw [List.map_cons, List.flatMap_cons, List.flatMap_cons, ih]
    have hd : (a ++ t).drop (shiftT a.length x).2.1 = t.drop x.2.1 := by show (a ++ t).drop (a.length + x.2.1) = _; rw [List.drop_append]; simp
    rw [hd]; rfl
theorem tokC_append (l : List UInt8) (ys zs : List Tok3) : tokC l (ys ++ zs) = tokC l ys ++ tokC l zs := by unfold tokC; simp
/-- tokens without an error: the run goes to the end, with nothing open -/
theorem told_ok {s : ByteArray} {ys : List Tok3} {z : Int} (hs : s.size ≤ 65536) (hu : Utf s.data.toList) (h : tokensN s = (ys, 0, z)) : Reach s.data.toList ys s.size [] false ∧ lexN (s.size + 1) s.data.toList 0 [] false = (ys, 0, s.size) ∧ z = 0 := by
  obtain ⟨ys', b, st2, inn2, er, h1, h2, h3⟩ := lex_whole s.data.toList
  rw [← Lib.size_eq] at h2 h3
  have ht := tokens_at hs hu h2
  rw [h] at ht
  by_cases he : er = 0
  · rw [if_pos he] at ht
    simp only [Prod.mk.injEq, true_and] at ht
    obtain ⟨rfl, hz⟩ := ht
    rcases h3 with ⟨_, h0, _⟩ | ⟨hb, h0⟩
    · exact absurd he h0
    · rw [he] at h0
      cases hc : (inn2 || !st2.isEmpty)
      · rw [Bool.or_eq_false_iff] at hc
        obtain ⟨rfl, hc2⟩ := hc
        have : st2 = [] := by
          cases st2 with
          | nil => rfl
          | cons a b => simp at hc2
        subst this
        rw [hb] at h1 h2
        rw [he] at h2
        exact ⟨h1, h2, hz⟩
      · rw [hc] at h0; simp at h0
  · rw [if_neg he] at ht
    simp only [Prod.mk.injEq] at ht
    exact absurd ht.2.1.symm he
theorem first_blank {t : List UInt8} {F : Nat} {zs : List Tok3} {er at' : Nat} (h : lexN (F + 1) t 0 [] false = (zs, er, at')) (hz : ∀ z, zs[0]? = some z → z.1 ≠ 1) : HeadNotBlank t := by
  intro b hb
  match t, hb with
  | c :: r, hb =>
    have hcb : c = b := by simpa using hb
    subst hcb
    cases hk : isBlank c
    · rfl
    · exfalso
      have hn : 0 < runOf isBlank (c :: r) := by unfold runOf; rw [List.takeWhile_cons, hk]; simp
      have hs := outN_some (l := c :: r) (st := []) (k := 0) (x := (1, 73, runOf isBlank)) rfl (fun y hy => by simp at hy) hn
      have hs2 : stepN ((c :: r).drop 0) [] false = (1, runOf isBlank (c :: r), [], false, 0) := by
        rw [List.drop_zero]; exact hs
      rw [lexN_step (by simp) hs2] at h
      simp only [Prod.mk.injEq] at h
      rw [← h.1] at hz
      exact hz _ rfl rfl
theorem split_told {S1 S2 S3 : ByteArray} {l t : List UInt8} (h1 : S1.data.toList = l ++ [10]) (h2 : S2.data.toList = t) (h3 : S3.data.toList = l ++ 10 :: t) (s1 : S1.size ≤ 1000) (s2 : S2.size ≤ 1000) (u1 : Utf S1.data.toList) (u2 : Utf S2.data.toList) {ys zs : List Tok3} {z1 z2 : Int}
    (t1 : tokensN S1 = (ys, 0, z1)) (t2 : tokensN S2 = (zs, 0, z2)) (hl : ys.getLast?.map (·.1) = some 1) (hz : ∀ z, zs[0]? = some z → z.1 ≠ 1) :
    tokensN S3 = (ys ++ zs.map (shiftT S1.size), 0, 0) ∧ tokC S3.data.toList (ys ++ zs.map (shiftT S1.size)) = tokC S1.data.toList ys ++ tokC S2.data.toList zs := by
  obtain ⟨r1, _, _⟩ := told_ok (by omega) u1 t1
  obtain ⟨r2, e2, _⟩ := told_ok (by omega) u2 t2
  have hs1 : S1.size = l.length + 1 := by rw [Lib.size_eq, h1]; simp
  have hs2 : S2.size = t.length := by rw [Lib.size_eq, h2]
  have hs3 : S3.size = S1.size + S2.size := by rw [Lib.size_eq, h3, hs1, hs2, List.length_append, List.length_cons]; omega
  have h3' : S3.data.toList = S1.data.toList ++ S2.data.toList := by rw [h3, h1, h2]; simp
  obtain ⟨f1, _, _, f4⟩ := reach_facts r1
  rw [h2] at e2
  have hb := first_blank e2 hz
  have r3 : Reach (l ++ 10 :: t) ys (l.length + 1) [] false := reach_ext_last (by rw [← hs1, ← h1]; exact r1) hl hb
  obtain ⟨_, _, _, g4⟩ := reach_facts r2
  have hrun := reach_run r3 (S3.size + 1 - ys.length)
  have hsh := lex_shift S1.data.toList S2.data.toList (S3.size + 1 - ys.length) 0 [] false
  have hr2 := reach_run r2 (S3.size + 1 - ys.length - zs.length)
  have hr2e : lexN (S3.size + 1 - ys.length - zs.length) S2.data.toList S2.size [] false = ([], 0, S2.size) := by
    obtain ⟨q, hq⟩ : ∃ q, S3.size + 1 - ys.length - zs.length = q + 1 := ⟨S3.size - ys.length - zs.length, by omega⟩
    rw [hq, lexN, if_pos (by rw [← Lib.size_eq]; omega)]; rfl
  rw [hr2e, List.append_nil, show zs.length + (S3.size + 1 - ys.length - zs.length) = S3.size + 1 - ys.length by omega] at hr2
  rw [hr2, if_neg (by omega), ← h3', ← Lib.size_eq, Nat.add_zero, h3, hs1] at hsh
  rw [hsh, show ys.length + (S3.size + 1 - ys.length) = S3.size + 1 by omega] at hrun
  dsimp only at hrun
  have hrun' : lexN (S3.size + 1) S3.data.toList 0 [] false = (ys ++ zs.map (shiftT (l.length + 1)), 0, l.length + 1 + S2.size) := by rw [h3]; exact hrun
  have ht := tokens_at (by omega) (by rw [h3']; exact utf_append u1 u2) hrun'
  rw [if_pos rfl, ← hs1] at ht
  refine ⟨ht, ?_⟩
  rw [tokC_append, h3', tokC_left ys (fun x hx => by rw [← Lib.size_eq]; exact reach_in r1 x hx), Lib.size_eq, tokC_right]
end Go.Proofs.YtiinhkfbgecbjaaGreatDoor
namespace Go.Proofs.YtiinhkfbgecbjaaGreatDoor
set_option linter.unusedSimpArgs false
set_option linter.unusedVariables false
open Go.RowKit Go.Sub

abbrev TokB := Int × ByteArray
/-- a list of tokens as it lies in memory -/
def TokRow (w : World) (v : Value) (xs : List TokB) : Prop := ∃ p cap, v = .slice p xs.length cap ∧ xs.length ≤ 4611686018427387904 ∧ ∀ (i : Nat) x, xs[i]? = some x → ∃ b o, p = some ⟨b, o, none⟩ ∧ w.cell? ⟨b, o + i * 2, none⟩ = some (.int .i64 x.1) ∧ w.cell? ⟨b, o + i * 2 + 1, none⟩ = some (.string x.2)
theorem TokRow.below {w w' : World} {v : Value} {xs : List TokB} (h : TokRow w v xs) (hb : Below w.heap.size w w') : TokRow w' v xs := by
  obtain ⟨p, cap, h1, h2, h3⟩ := h
  refine ⟨p, cap, h1, h2, fun i x hx => ?_⟩
  obtain ⟨b, o, e, c1, c2⟩ := h3 i x hx
  exact ⟨b, o, e, (hb.cell (World.block_lt_of_cell? _ _ c1)).trans c1, (hb.cell (World.block_lt_of_cell? _ _ c2)).trans c2⟩
/-- the tokens that a run tells -/
def tokB (l : List UInt8) (x : Tok3) : TokB := ((x.1 : Int), ⟨((l.drop x.2.1).take x.2.2).toArray⟩)
theorem tokC_get {l : List UInt8} : ∀ {ys : List Tok3} {i : Nat} {x : TokB}, (ys.map (tokB l))[i]? = some x → (tokC l ys)[i * 2]? = some (.int .i64 x.1) ∧ (tokC l ys)[i * 2 + 1]? = some (.string x.2)
  | [], i, x, h => by simp at h
  | y :: ys, 0, x, h => by
    have : tokB l y = x := by simpa using h
    subst this
    exact ⟨rfl, rfl⟩
  | y :: ys, i + 1, x, h => by
    obtain ⟨h1, h2⟩ := tokC_get (ys := ys) (i := i) (x := x) (by simpa using h)
    have e : tokC l (y :: ys) = .int .i64 (y.1 : Int) :: .string ⟨((l.drop y.2.1).take y.2.2).toArray⟩ :: tokC l ys := rfl
    rw [e, show (i + 1) * 2 = i * 2 + 1 + 1 by omega, show i * 2 + 1 + 1 + 1 = (i * 2 + 1) + 1 + 1 by omega]
    simp only [List.getElem?_cons_succ]
    exact ⟨h1, h2⟩
theorem add_plain (g j : Nat) : (⟨g, 0, none⟩ : Addr).add j = ⟨g, j, none⟩ := by unfold Addr.add; split <;> simp_all
theorem tokRow_own {w : World} {base : Nat} {e : TypeId} {v : Value} {l : List UInt8} {ys : List Tok3} (h : w.ownsRow base e 2 v ys.length (tokC l ys)) (hl : ys.length ≤ 4611686018427387904) : TokRow w v (ys.map (tokB l)) := by
  obtain ⟨h1, h2⟩ := h
  rcases h2 with ⟨rfl, h0⟩ | ⟨g, cap, cur, rfl, h3⟩
  · have : ys = [] := List.length_eq_zero_iff.1 h0
    subst this
    exact ⟨none, 0, rfl, by simp, fun i x hx => by simp at hx⟩
  · refine ⟨some ⟨g, 0, none⟩, cap, by rw [List.length_map], by rw [List.length_map]; exact hl, fun i x hx => ?_⟩
    obtain ⟨c1, c2⟩ := tokC_get hx
    have hrow : w.ownsRow base e 2 (.slice (some ⟨g, 0, none⟩) ys.length cap) ys.length (tokC l ys) := ⟨h1, .inr ⟨g, cap, cur, rfl, h3⟩⟩
    exact ⟨g, 0, rfl, by rw [Nat.zero_add]; exact row_cells hrow _ c1, by rw [Nat.zero_add]; exact row_cells hrow _ c2⟩

theorem take_more {xs ys : List TokB} {n : Nat} {x : TokB} (h : xs.take n = ys.take n) (hx : xs[n]? = some x) (hy : ys[n]? = some x) : xs.take (n + 1) = ys.take (n + 1) := by
  rw [List.take_add_one, List.take_add_one, h, hx, hy]
theorem dec_ne {xs ys : List TokB} {n : Nat} {x y : TokB} (hx : xs[n]? = some x) (hy : ys[n]? = some y) (h : x ≠ y) : decide (xs = ys) = false := by
  rw [decide_eq_false_iff_not]
  intro e
  rw [e, hy] at hx
  exact h (Option.some.inj hx).symm
theorem dec_len {xs ys : List TokB} (h : xs.length ≠ ys.length) : decide (xs = ys) = false := by
  rw [decide_eq_false_iff_not]
  intro e
  exact h (by rw [e])
theorem dec_all {xs ys : List TokB} {n : Nat} (h : xs.take n = ys.take n) (hx : xs.length ≤ n) (hy : ys.length ≤ n) : decide (xs = ys) = true := by
  rw [decide_eq_true_iff]
  rwa [List.take_of_length_le hx, List.take_of_length_le hy] at h
theorem tok_ext {x y : TokB} (h1 : x.1 = y.1) (h2 : x.2.toList = y.2.toList) : x = y := by
  obtain ⟨a, b⟩ := x
  obtain ⟨c, d⟩ := y
  dsimp only at h1 h2
  subst h1
  rw [Lib.toList_data, Lib.toList_data] at h2
  have : b = d := by cases b; cases d; simp_all
  rw [this]

set_option maxRecDepth 100000 in
set_option maxHeartbeats 2000000 in
theorem same_calls (v1 v2 : Value) (xs ys : List TokB) (w : World) (h1 : TokRow w v1 xs) (h2 : TokRow w v2 ys) :
    Calls Tryz.prog 46 #[v1, v2] w fun e w' => e = .returned (.bool (decide (xs = ys))) ∧ Below w.heap.size w w' := by
  obtain ⟨p1, cap1, rfl, hl1, hc1⟩ := h1 
  obtain ⟨p2, cap2, rfl, hl2, hc2⟩ := h2 
  by_cases hlen : xs.length = ys.length 
  · have ylen : ((xs.length : Int) = (ys.length : Int)) = True := by apply eq_true; omega 
    have ylen2 : ((xs.length : Int) != (ys.length : Int)) = false := by simp; omega 
    go_enter Tryz.func46, Tryz.ntmps46 
    go_wp2 
    go_loopw [5] (fun i wr => ∃ n : Nat, i = .int .i64 n ∧ n ≤ xs.length ∧ Hid (xs.take n = ys.take n) ∧ ∃ q, wr = w.drewN q) (fun i _ => xs.length - (intOf i).toNat) 
    case atStart => exact ⟨0, rfl, by omega, Lib.hid (by simp), 0, rfl⟩ 
    case round => 
      obtain ⟨n, rfl, hn, Hn, q, rfl⟩ := hrel 
      by_cases hlt : n < xs.length 
      · obtain ⟨x, hx⟩ : ∃ x, xs[n]? = some x := ⟨_, List.getElem?_eq_getElem hlt⟩ 
        obtain ⟨y, hy⟩ : ∃ y, ys[n]? = some y := ⟨_, List.getElem?_eq_getElem (by omega)⟩ 
        obtain ⟨a, o1, rfl, ca1, ca2⟩ := hc1 n x hx 
        obtain ⟨b, o2, rfl, cb1, cb2⟩ := hc2 n y hy 
        have Hx := Lib.hid hx 
        have Hy := Lib.hid hy 
        clear hc1 hc2 hx hy 
        by_cases e1 : x.1 = y.1 
        · by_cases e2 : x.2.toList = y.2.toList 
          · have Hxy := Lib.hid (tok_ext e1 e2) 
            go_wp2 
            go_quiet (fail) 
            go_wp2 
            go_roundw 
            case rel => exact ⟨n + 1, by go_num, by omega, Lib.hid (take_more Hn.out Hx.out (by rw [Hxy.out]; exact Hy.out)), _, by first | rfl | exact drewN_drewN _ _ _⟩ 
            case measure => simp only [intOf]; omega 
          · have Hxy := Lib.hid (fun (e : x = y) => e2 (by rw [e])) 
            go_wp2 
            go_quiet (fail) 
            go_wp2 
            go_ret 
            exact ⟨by rw [dec_ne Hx.out Hy.out Hxy.out]; rfl, by first | exact below_drewN (Below.refl _ _) _ | exact below_drewN (below_drewN (Below.refl _ _) _) _⟩ 
        · have Hxy := Lib.hid (fun (e : x = y) => e1 (by rw [e])) 
          go_wp2 
          go_quiet (fail) 
          go_wp2 
          go_ret 
          exact ⟨by rw [dec_ne Hx.out Hy.out Hxy.out]; rfl, by first | exact below_drewN (Below.refl _ _) _ | exact below_drewN (below_drewN (Below.refl _ _) _) _⟩ 
      · clear hc1 hc2 
        go_wp2 
        go_ret 
        exact ⟨by rw [dec_all Hn.out (by omega) (by omega)]; rfl, by first | exact below_drewN (Below.refl _ _) _ | exact below_drewN (below_drewN (Below.refl _ _) _) _⟩ 
  · have ylen : ((xs.length : Int) = (ys.length : Int)) = False := by apply eq_false; omega 
    have ylen2 : ((xs.length : Int) != (ys.length : Int)) = true := by simp; omega 
    have Hd := Lib.hid (dec_len hlen) 
    clear hc1 hc2 
    go_enter Tryz.func46, Tryz.ntmps46 
    go_wp2 
    go_ret 
    exact ⟨by rw [Hd.out]; rfl, Below.refl _ _⟩
set_option maxRecDepth 100000 in
set_option maxHeartbeats 2000000 in
theorem equal_calls (v1 v2 : Value) (xs ys : List TokB) (w : World) (h1 : TokRow w v1 xs) (h2 : TokRow w v2 ys) :
    Calls Tryz.prog 26 #[v1, v2] w fun e w' => e = .returned (.bool (decide (xs = ys))) ∧ Below w.heap.size w w' := by
  obtain ⟨p1, cap1, rfl, hl1, hc1⟩ := h1 
  obtain ⟨p2, cap2, rfl, hl2, hc2⟩ := h2 
  by_cases hlen : xs.length = ys.length 
  · have ylen : ((xs.length : Int) = (ys.length : Int)) = True := by apply eq_true; omega 
    have ylen2 : ((xs.length : Int) != (ys.length : Int)) = false := by simp; omega 
    go_enter Tryz.func26, Tryz.ntmps26 
    go_wp2 
    go_loopw [13] (fun i wr => ∃ n : Nat, i = .int .i64 n ∧ n ≤ xs.length ∧ Hid (xs.take n = ys.take n) ∧ ∃ q, wr = w.drewN q) (fun i _ => xs.length - (intOf i).toNat) 
    case atStart => exact ⟨0, rfl, by omega, Lib.hid (by simp), 0, rfl⟩ 
    case round => 
      obtain ⟨n, rfl, hn, Hn, q, rfl⟩ := hrel 
      by_cases hlt : n < xs.length 
      · obtain ⟨x, hx⟩ : ∃ x, xs[n]? = some x := ⟨_, List.getElem?_eq_getElem hlt⟩ 
        obtain ⟨y, hy⟩ : ∃ y, ys[n]? = some y := ⟨_, List.getElem?_eq_getElem (by omega)⟩ 
        obtain ⟨a, o1, rfl, ca1, ca2⟩ := hc1 n x hx 
        obtain ⟨b, o2, rfl, cb1, cb2⟩ := hc2 n y hy 
        have Hx := Lib.hid hx 
        have Hy := Lib.hid hy 
        clear hc1 hc2 hx hy 
        by_cases e1 : x.1 = y.1 
        · by_cases e2 : x.2.toList = y.2.toList 
          · have Hxy := Lib.hid (tok_ext e1 e2) 
            go_wp2 
            go_quiet (fail) 
            go_wp2 
            go_roundw 
            case rel => exact ⟨n + 1, by go_num, by omega, Lib.hid (take_more Hn.out Hx.out (by rw [Hxy.out]; exact Hy.out)), _, by first | rfl | exact drewN_drewN _ _ _⟩ 
            case measure => simp only [intOf]; omega 
          · have Hxy := Lib.hid (fun (e : x = y) => e2 (by rw [e])) 
            go_wp2 
            go_quiet (fail) 
            go_wp2 
            go_ret 
            exact ⟨by rw [dec_ne Hx.out Hy.out Hxy.out]; rfl, by first | exact below_drewN (Below.refl _ _) _ | exact below_drewN (below_drewN (Below.refl _ _) _) _⟩ 
        · have Hxy := Lib.hid (fun (e : x = y) => e1 (by rw [e])) 
          go_wp2 
          go_quiet (fail) 
          go_wp2 
          go_ret 
          exact ⟨by rw [dec_ne Hx.out Hy.out Hxy.out]; rfl, by first | exact below_drewN (Below.refl _ _) _ | exact below_drewN (below_drewN (Below.refl _ _) _) _⟩ 
      · clear hc1 hc2 
        go_wp2 
        go_ret 
        exact ⟨by rw [dec_all Hn.out (by omega) (by omega)]; rfl, by first | exact below_drewN (Below.refl _ _) _ | exact below_drewN (below_drewN (Below.refl _ _) _) _⟩ 
  · have ylen : ((xs.length : Int) = (ys.length : Int)) = False := by apply eq_false; omega 
    have ylen2 : ((xs.length : Int) != (ys.length : Int)) = true := by simp; omega 
    have Hd := Lib.hid (dec_len hlen) 
    clear hc1 hc2 
    go_enter Tryz.func26, Tryz.ntmps26 
    go_wp2 
    go_ret 
    exact ⟨by rw [Hd.out]; rfl, Below.refl _ _⟩
end Go.Proofs.YtiinhkfbgecbjaaGreatDoor
namespace Go.Proofs.YtiinhkfbgecbjaaGreatDoor
set_option linter.unusedSimpArgs false
set_option linter.unusedVariables false
open Go.RowKit Go.Sub

theorem row_shapeB {w : World} {base : Nat} {e : TypeId} {size : Nat} {v : Value} {n : Nat} {xs : List Value} (h : w.ownsRow base e size v n xs) : ∃ p c, v = .slice p n c ∧ n ≤ c := by
  rcases h.2 with ⟨rfl, rfl⟩ | ⟨g, cap, cur, rfl, _, _, hc, _⟩
  · exact ⟨none, 0, rfl, Nat.le_refl _⟩
  · exact ⟨_, cap, rfl, hc⟩
theorem b_und : Tryz.prog.underlying 57 = some (.pointer 59) := by kernel_rfl
theorem up_und : Tryz.prog.underlying 98 = some .unsafePointer := by kernel_rfl
theorem b_size : (Tryz.prog.info? 59).map (·.size) = some 2 := by kernel_rfl
theorem b_lies : liesAt Tryz.prog Tryz.prog.depth 59 (2 / Tryz.prog.cellsOf 59) 0 59 1 = true := by kernel_rfl
theorem bytes_und : Tryz.prog.underlying 22 = some (.slice 5) := by kernel_rfl
theorem str_und : Tryz.prog.underlying 9 = some .string := by kernel_rfl
theorem byte_info : (Tryz.prog.info? 5).map (fun i => (i.zero, i.size, i.bytes)) = some (some (.int .u8 0), 1, 1) := by kernel_rfl
set_option maxHeartbeats 1000000 in
set_option maxRecDepth 100000 in
theorem check_used (b : Nat) (w : World) (h0 : w.cell? ⟨b, 0, none⟩ = some (.pointer (some ⟨b, 0, none⟩))) :
    Calls Tryz.prog 43 #[.pointer (some ⟨b, 0, none⟩)] w fun e w' => e = .returned (.tuple #[]) ∧ w' = w := by
  obtain ⟨j, hj, _⟩ := Option.map_eq_some_iff.1 b_size
  go_enter Tryz.func43, Tryz.ntmps43
  go_wp2
  rw [Lib.run_neq_ptr_same w _ b_und hj]
  go_wp2
  go_end0
  exact ⟨rfl, rfl⟩
set_option maxHeartbeats 1000000 in
set_option maxRecDepth 100000 in
theorem check_fresh (b : Nat) (w : World) (h0 : w.cell? ⟨b, 0, none⟩ = some (.pointer none)) (hsh : w.shape? b = some (59, 2)) (hfz : w.frozen? ⟨b, 0, none⟩ = false) :
    Calls Tryz.prog 43 #[.pointer (some ⟨b, 0, none⟩)] w fun e w' => e = .returned (.tuple #[]) ∧ w' = w.setCell ⟨b, 0, none⟩ (.pointer (some ⟨b, 0, none⟩)) := by
  obtain ⟨j, hj, hjs⟩ := Option.map_eq_some_iff.1 b_size
  go_enter Tryz.func43, Tryz.ntmps43
  go_wp2
  rw [Lib.run_to_unsafe w ⟨b, 0, none⟩ b_und up_und hj (by rw [hjs]; decide) hsh (Nat.zero_lt_succ 1)]
  simp only [Result.andThen]
  rw [Oper.upon_value]
  go_wp2
  rw [run_callFunc_extern Tryz.func66 (by kernel_rfl) (by kernel_rfl) (by kernel_rfl) (e := Extern.AbiNoEscape.same) (by kernel_rfl)]
  rw [Lib.run_noEscape]
  simp only [Result.andThen]
  rw [Oper.upon_value]
  go_wp2
  rw [Lib.run_from_unsafe w ⟨b, 0, none⟩ up_und b_und hj hsh b_lies]
  simp only [Result.andThen]
  rw [Oper.upon_value]
  go_wp2
  go_end0
  exact ⟨rfl, rfl⟩
theorem copyCheck_calls (B b : Nat) (bs : List Value) (w : World) (h : Lib.IsBuilder 59 5 B b bs w) :
    Calls Tryz.prog 43 #[.pointer (some ⟨b, 0, none⟩)] w fun e w' => e = .returned (.tuple #[]) ∧ (Lib.BuilderAt 59 5 B b (.pointer (some ⟨b, 0, none⟩)) bs w' ∧ Below B w w') := by
  rcases h with h | h
  · refine (check_fresh b w h.cell0 h.shape h.frozen0).mono ?_
    rintro e w' ⟨rfl, rfl⟩
    exact ⟨rfl, h.used _, (Below.refl B w).setCell (p := ⟨b, 0, none⟩) h.1 _⟩
  · refine (check_used b w h.cell0).mono ?_
    rintro e w' ⟨rfl, rfl⟩
    exact ⟨rfl, h, Below.refl B _⟩
set_option maxHeartbeats 1000000 in
set_option maxRecDepth 100000 in
theorem writeString_calls (B b : Nat) (bs : List Value) (s : ByteArray) (w : World) (h : Lib.IsBuilder 59 5 B b bs w) (hlen : bs.length + s.size ≤ 140737488355328) (hBw : B ≤ w.heap.size) :
    Calls Tryz.prog 28 #[.pointer (some ⟨b, 0, none⟩), .string s] w fun e w' => e = .returned (.tuple #[.int .i64 s.size, .nilIface]) ∧ (Lib.BuilderAt 59 5 B b (.pointer (some ⟨b, 0, none⟩)) (bs ++ Lib.strCells s) w' ∧ Below B w w') := by
  obtain ⟨i0, hi, hz0, hz1, hz2⟩ := info_parts byte_info
  have HH := Lib.hid h
  clear h
  go_enter Tryz.func28, Tryz.ntmps28
  go_wp2_with (first
    | (go_at_call 43; refine (copyCheck_calls B b bs _ HH.out).mono ?_; rintro e w1 ⟨rfl, ⟨hB, v, hbk, hown, hne⟩, hb1⟩; have c1 : w1.cell? ⟨b, 1, none⟩ = some v := (by rw [Lib.cell_of_heap hbk]; rfl))
    | (at_builtin; refine Lib.wpList_append_own_string _ rfl _ _ 22 9 rfl B 5 i0 bytes_und str_und hi hz0 hz1 hz2 _ _ _ rfl hown s rfl (by unfold maxLen; omega) (by omega) (by have := hb1.size; omega) ?_; intro v' w2 hown' hgrow _; have hlt : b < w1.heap.size := heap_lt hbk; have hb2 : w2.heap[b]? = some (.cells #[.pointer (some ⟨b, 0, none⟩), v] 59 (0, 0)) := (by rw [hgrow.block b hlt (fun e => hne e.symm)]; exact hbk); have d1 : w2.cell? ⟨b, 1, none⟩ = some v := (by rw [Lib.cell_of_heap hb2]; rfl); have f1 : w2.frozen? ⟨b, 1, none⟩ = false := Lib.frozen_of_heap hb2 1; obtain ⟨ao, cap, rfl, _⟩ := row_shapeB hown'))
  have hfin : Lib.BuilderAt 59 5 B b (.pointer (some ⟨b, 0, none⟩)) (bs ++ Lib.strCells s) (w2.setCell ⟨b, 1, none⟩ (.slice ao (bs.length + s.size) cap)) := Lib.BuilderAt.put hB hb2 (bs' := bs ++ Lib.strCells s) (by simpa [Lib.strCells_length] using hown') (by decide)
  have hbel : Below B w (w2.setCell ⟨b, 1, none⟩ (.slice ao (bs.length + s.size) cap)) := (hb1.grown hgrow (by have := hb1.size; omega) (fun k hk => (hown.lt k hk).1)).setCell (p := ⟨b, 1, none⟩) hB _
  exact bodyPost_ret (v := .tuple #[.int .i64 s.size, .nilIface]) (by simp [results, Tryz.results28, go_sem]) rfl ⟨rfl, hfin, hbel⟩
end Go.Proofs.YtiinhkfbgecbjaaGreatDoor
namespace Go.Proofs.YtiinhkfbgecbjaaGreatDoor
set_option linter.unusedSimpArgs false
set_option linter.unusedVariables false
open Go.RowKit Go.Sub

theorem isB_below {T e : TypeId} {B b : Nat} {bs : List Value} {w w' : World} (h : Lib.IsBuilder T e B b bs w) (hb : Below w.heap.size w w') : Lib.IsBuilder T e B b bs w' := by
  have k : Keeps (fun _ => False) w w' := Keeps.of_below' hb
  rcases h with ⟨h1, v, h2, h3, h4⟩ | ⟨h1, v, h2, h3, h4⟩
  · exact .inl ⟨h1, v, k.heap h2 (fun h => h), ownsRow_keeps h3 k (fun _ _ h => h), h4⟩
  · exact .inr ⟨h1, v, k.heap h2 (fun h => h), ownsRow_keeps h3 k (fun _ _ h => h), h4⟩
theorem below_c2 {a b : World} {n : Nat} (h : Below n a b) (hn : a.heap.size ≤ n := by exact Nat.le_refl _) {p o : Nat} {v : Value} (hc : a.cell? ⟨p, o, none⟩ = some v) : b.cell? ⟨p, o, none⟩ = some v := (h.cell (Nat.lt_of_lt_of_le (World.block_lt_of_cell? _ _ hc) hn)).trans hc
/-- the bytes of tokens, one behind the other -/
def joinL (xs : List TokB) : List UInt8 := (xs.map fun x => x.2.data.toList).flatten
theorem joinL_take {xs : List TokB} {n : Nat} {x : TokB} (h : xs[n]? = some x) : joinL (xs.take (n + 1)) = joinL (xs.take n) ++ x.2.data.toList := by
  unfold joinL
  rw [List.take_add_one, h]
  simp
theorem joinL_le (xs : List TokB) (n : Nat) : (joinL (xs.take n)).length ≤ (joinL xs).length := by
  have h : joinL xs = joinL (xs.take n) ++ joinL (xs.drop n) := by
    unfold joinL
    rw [← List.flatten_append, ← List.map_append, List.take_append_drop]
  rw [h, List.length_append]; omega
theorem cells_app (l : List UInt8) (s : ByteArray) : Lib.byteCells l ++ Lib.strCells s = Lib.byteCells (l ++ s.data.toList) := by
  unfold Lib.byteCells Lib.strCells
  rw [List.map_append]
/-- are they those of their text? -/
def rightB (xs : List TokB) : Bool := decide ((tokensN ⟨(joinL xs).toArray⟩).2.1 = 0) && decide (xs = (tokensN ⟨(joinL xs).toArray⟩).1.map (tokB (joinL xs)))
end Go.Proofs.YtiinhkfbgecbjaaGreatDoor
namespace Go.Proofs.YtiinhkfbgecbjaaGreatDoor
set_option linter.unusedSimpArgs false
set_option linter.unusedVariables false
open Go.RowKit Go.Sub

theorem step_kind {m : List UInt8} {st : List Nat} {inn : Bool} {k n : Nat} {st2 : List Nat} {inn2 : Bool} (hs : stepN m st inn = (k, n, st2, inn2, 0)) : 1 ≤ k ∧ k ≤ 13 := by
  unfold stepN at hs
  cases inn
  · rw [if_neg (by simp)] at hs
    unfold outN at hs
    cases hf : triesL.find? (fun x => decide (0 < x.2.2 m)) with
    | none => rw [hf] at hs; simp at hs
    | some x =>
      rw [hf] at hs
      have hx := List.mem_of_find?_eq_some hf
      have h1 : 1 ≤ x.1 ∧ x.1 ≤ 13 := by
        simp only [triesL, List.mem_cons, List.not_mem_nil, or_false] at hx
        rcases hx with rfl | rfl | rfl | rfl | rfl | rfl | rfl | rfl | rfl <;> decide
      simp only [Prod.mk.injEq] at hs
      rcases brk_which st x.1 (m.take (x.2.2 m)) with e | e <;> omega
  · rw [if_pos rfl] at hs
    unfold insN at hs
    split at hs
    · simp only [Prod.mk.injEq] at hs; omega
    · split at hs
      · simp only [Prod.mk.injEq] at hs; omega
      · split at hs
        · simp at hs
        · split at hs
          · simp at hs
          · simp only [Prod.mk.injEq] at hs; omega
theorem reach_kinds {l : List UInt8} {ys : List Tok3} {a : Nat} {st : List Nat} {inn : Bool} (h : Reach l ys a st inn) : ∀ x ∈ ys, (1 ≤ x.1 ∧ x.1 ≤ 13) ∧ 0 < x.2.2 ∧ x.2.1 + x.2.2 ≤ l.length := by
  induction h with
  | nil => intro x hx; simp at hx
  | @snoc pre a st inn k n st2 inn2 hr hlt hs ih =>
    intro x hx
    rcases List.mem_append.1 hx with h | h
    · exact ih x h
    · rw [List.mem_singleton.1 h]
      obtain ⟨f1, f2, f3, f4⟩ := reach_facts hr
      have hg := stepN_good (l.drop a) st inn a (fun e => by have := congrArg List.length e; rw [List.length_drop] at this; simp at this; omega) f2 f3
      rw [hs] at hg
      obtain ⟨g1, g2, _, _⟩ := hg rfl
      dsimp only at g1 g2
      rw [List.length_drop] at g2
      exact ⟨step_kind hs, g1, by show a + n ≤ _; omega⟩
theorem reach_join {l : List UInt8} {ys : List Tok3} {a : Nat} {st : List Nat} {inn : Bool} (h : Reach l ys a st inn) : joinL (ys.map (tokB l)) = l.take a := by
  induction h with
  | nil => rfl
  | @snoc pre a st inn k n st2 inn2 hr hlt hs ih =>
    have e : joinL ((pre ++ [(k, a, n)]).map (tokB l)) = joinL (pre.map (tokB l)) ++ (l.drop a).take n := by
      unfold joinL
      simp [tokB]
    rw [e, ih, List.take_add]
theorem tokens_shape {s : ByteArray} (hs : s.size ≤ 65536) {ys : List Tok3} {er : Nat} {z : Int} (h : tokensN s = (ys, er, z)) : (er ≠ 0 → ys = [] ∧ 0 ≤ z ∧ z ≤ s.size) ∧ (er = 0 → z = 0 ∧ (∀ x ∈ ys, (1 ≤ x.1 ∧ x.1 ≤ 13) ∧ 0 < x.2.2 ∧ x.2.1 + x.2.2 ≤ s.size) ∧ joinL (ys.map (tokB s.data.toList)) = s.data.toList ∧ ys.length ≤ s.size) := by
  unfold tokensN at h
  rw [if_neg (by omega)] at h
  split at h
  · simp only [Prod.mk.injEq] at h
    rename_i h0
    rcases check_range s s.size 0 (by omega) with hc | hc
    · omega
    · exact ⟨fun _ => ⟨h.1.symm, by omega, by omega⟩, fun e => by omega⟩
  · obtain ⟨ys', b, st2, inn2, er', h1, h2, h3⟩ := lex_whole s.data.toList
    rw [← Lib.size_eq] at h2 h3
    rw [h2] at h
    dsimp only at h
    obtain ⟨f1, f2, f3, f4⟩ := reach_facts h1
    rw [← Lib.size_eq] at f1
    by_cases he : er' = 0
    · rw [if_pos he] at h
      simp only [Prod.mk.injEq] at h
      obtain ⟨rfl, rfl, rfl⟩ := h
      refine ⟨fun e => absurd rfl e, fun _ => ⟨rfl, fun x hx => ?_, ?_, by omega⟩⟩
      · rw [Lib.size_eq]; exact reach_kinds h1 x hx
      · rw [reach_join h1]
        rcases h3 with ⟨_, h0, _⟩ | ⟨hb, _⟩
        · exact absurd he h0
        · rw [hb, Lib.size_eq, List.take_length]
    · rw [if_neg he] at h
      simp only [Prod.mk.injEq] at h
      obtain ⟨rfl, rfl, rfl⟩ := h
      exact ⟨fun _ => ⟨rfl, by omega, by omega⟩, fun e => absurd e he⟩
theorem right_own {s : ByteArray} (hs : s.size ≤ 65536) {ys : List Tok3} {z : Int} (h : tokensN s = (ys, 0, z)) : rightB (ys.map (tokB s.data.toList)) = true := by
  obtain ⟨_, _, hj, _⟩ := (tokens_shape hs h).2 rfl
  unfold rightB
  rw [hj]
  have e : (⟨s.data.toList.toArray⟩ : ByteArray) = s := by cases s; rfl
  rw [e, h]
  simp
end Go.Proofs.YtiinhkfbgecbjaaGreatDoor
