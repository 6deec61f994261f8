/- Where a token ends a text of whole runes may be cut; a run as a chain of steps. No condition. -/
import Derived.Test.YtfaocpcbejgfjaaDoorLe1
namespace Go.Proofs.YtfaocpcbejgfjaaDoor
open Go.RowKit Go.Sub

/-- the last byte of what is read is ASCII -/
def LastA (f : List UInt8 → Nat) : Prop := ∀ m, 0 < f m → ∃ b, m[f m - 1]? = some b ∧ b.toNat < 128
theorem run_get (p : UInt8 → Bool) : ∀ (l : List UInt8) (j : Nat), j < runOf p l → ∃ b, l[j]? = some b ∧ p b = true
  | [], j, h => by simp [runOf] at h
  | b :: r, j, h => by
    have e : runOf p (b :: r) = if p b = true then runOf p r + 1 else 0 := by
      unfold runOf; rw [List.takeWhile_cons]; split <;> simp_all
    rw [e] at h
    split at h
    · rename_i hb
      match j, h with
      | 0, _ => exact ⟨b, rfl, hb⟩
      | j + 1, h => exact run_get p r j (by omega)
    · omega
theorem lastA_run {p : UInt8 → Bool} (hp : ∀ b, p b = true → b.toNat < 128) : LastA (runOf p) := fun m h => by
  obtain ⟨b, hb, hpb⟩ := run_get p m (runOf p m - 1) (by omega)
  exact ⟨b, hb, hp b hpb⟩
theorem asc_blank : ∀ b, isBlank b = true → b.toNat < 128 := fun b h => by
  have := u8_all (p := fun b => !isBlank b || decide (b.toNat < 128)) (by decide +kernel) b
  simp only [h, Bool.not_true, Bool.false_or, decide_eq_true_eq] at this; exact this
theorem asc_part : ∀ b, isPart b = true → b.toNat < 128 := fun b h => by
  have := u8_all (p := fun b => !isPart b || decide (b.toNat < 128)) (by decide +kernel) b
  simp only [h, Bool.not_true, Bool.false_or, decide_eq_true_eq] at this; exact this
theorem asc_digit : ∀ b, isDigit b = true → b.toNat < 128 := fun b h => by
  have := u8_all (p := fun b => !isDigit b || decide (b.toNat < 128)) (by decide +kernel) b
  simp only [h, Bool.not_true, Bool.false_or, decide_eq_true_eq] at this; exact this
theorem lastA_drop {f : List UInt8 → Nat} (hf : LastA f) (l : List UInt8) (k : Nat) (h : 0 < f (l.drop k)) : ∃ b, l[k + f (l.drop k) - 1]? = some b ∧ b.toNat < 128 := by
  obtain ⟨b, hb, h2⟩ := hf _ h
  rw [List.getElem?_drop, show k + (f (l.drop k) - 1) = k + f (l.drop k) - 1 by omega] at hb
  exact ⟨b, hb, h2⟩
theorem lastA_simple : LastA simpleN := fun m h => by
  match m, h with
  | [], h => simp [simpleN] at h
  | b :: r, h =>
    have e : simpleN (b :: r) = if isLetter b then runOf isPart (b :: r) else 0 := rfl
    rw [e] at h ⊢
    split at h
    · rename_i hb
      rw [if_pos hb]
      exact lastA_run asc_part _ h
    · omega
theorem lastA_more_k : ∀ k (l : List UInt8), l.length ≤ k → 0 < moreN l → ∃ b, l[moreN l - 1]? = some b ∧ b.toNat < 128 := by
  intro k
  induction k with
  | zero =>
    intro l h h0
    obtain rfl := List.length_eq_zero_iff.1 (show l.length = 0 by omega)
    rw [moreN_miss _ rfl] at h0; omega
  | succ k ih =>
    intro l hl h0
    cases hp : Lib.hasPrefix l [58, 58]
    · rw [moreN_miss l hp] at h0; omega
    · by_cases hs : simpleN (l.drop 2) = 0
      · rw [moreN_none l hp hs] at h0; omega
      · have h2 := Lib.hasPrefix_le hp
        simp only [List.length_cons, List.length_nil] at h2
        rw [moreN_hit l _ hp rfl hs]
        by_cases hm : moreN (l.drop (2 + simpleN (l.drop 2))) = 0
        · rw [hm, Nat.add_zero]
          exact lastA_drop lastA_simple l 2 (by omega)
        · obtain ⟨b, hb, hb2⟩ := ih (l.drop (2 + simpleN (l.drop 2))) (by rw [List.length_drop]; omega) (by omega)
          rw [List.getElem?_drop] at hb
          exact ⟨b, by rw [← hb]; congr 1; omega, hb2⟩
theorem lastA_more : LastA moreN := fun l h => lastA_more_k _ l (Nat.le_refl _) h
theorem lastA_word : LastA wordN := fun l h => by
  unfold wordN at h ⊢
  by_cases h0 : simpleN l = 0
  · rw [if_pos h0] at h; omega
  · rw [if_neg h0]
    by_cases hm : moreN (l.drop (simpleN l)) = 0
    · rw [hm, Nat.add_zero]; exact lastA_simple l (by omega)
    · exact lastA_drop lastA_more l (simpleN l) (by omega)
theorem lastA_power : LastA powerN := fun l h => by
  match l, h with
  | [], h => simp [powerN] at h
  | b :: r, h =>
    have e : powerN (b :: r) = if b == 101 || b == 69 then (if runOf isDigit (signOff r) = 0 then 0 else (b :: r).length - (signOff r).length + runOf isDigit (signOff r)) else 0 := rfl
    rw [e] at h ⊢
    split at h
    · rename_i hb
      rw [if_pos hb]
      split at h
      · omega
      · rename_i h0
        rw [if_neg h0]
        have hs : signOff r = (b :: r).drop ((b :: r).length - (signOff r).length) := by
          match r with
          | [] => rfl
          | c :: t =>
            have e2 : signOff (c :: t) = if c == 43 || c == 45 then t else c :: t := rfl
            rw [e2]
            split
            · rw [List.length_cons, List.length_cons, show t.length + 1 + 1 - t.length = 2 by omega]; rfl
            · rw [List.length_cons (a := b), show (c :: t).length + 1 - (c :: t).length = 1 by omega]; rfl
        have hk := lastA_drop (lastA_run asc_digit) (b :: r) ((b :: r).length - (signOff r).length) (by rw [← hs]; omega)
        rw [← hs] at hk
        exact hk
    · omega
theorem lastA_mant : LastA mantN := fun l h => by
  by_cases h46 : l[runOf isDigit l]? = some 46
  · have e : mantN l = if runOf isDigit l + runOf isDigit (l.drop (runOf isDigit l + 1)) = 0 then 0 else runOf isDigit l + (1 + runOf isDigit (l.drop (runOf isDigit l + 1))) := by unfold mantN; rw [if_pos h46]
    rw [e] at h ⊢
    split at h
    · omega
    · rename_i h0
      rw [if_neg h0]
      by_cases hd : runOf isDigit (l.drop (runOf isDigit l + 1)) = 0
      · rw [hd]; exact ⟨46, by rw [← h46]; congr 1, by decide⟩
      · obtain ⟨b, hb, hb2⟩ := lastA_drop (lastA_run asc_digit) l (runOf isDigit l + 1) (by omega)
        exact ⟨b, by rw [← hb]; congr 1; omega, hb2⟩
  · have e : mantN l = runOf isDigit l := by unfold mantN; rw [if_neg h46]
    rw [e] at h ⊢
    exact lastA_run asc_digit l h
theorem lastA_number : LastA numberN := fun l h => by
  unfold numberN at h ⊢
  by_cases h0 : mantN l = 0
  · rw [if_pos h0] at h; omega
  · rw [if_neg h0]
    by_cases hm : powerN (l.drop (mantN l)) = 0
    · rw [hm, Nat.add_zero]; exact lastA_mant l (by omega)
    · exact lastA_drop lastA_power l (mantN l) (by omega)
theorem lastA_behind (c : UInt8) {f : List UInt8 → Nat} (hf : LastA f) : LastA (behindN c f) := fun l h => by
  match l, h with
  | [], h => simp [behindN] at h
  | b :: r, h =>
    have e : behindN c f (b :: r) = if b == c then (if f r = 0 then 0 else f r + 1) else 0 := rfl
    rw [e] at h ⊢
    split at h
    · rename_i hb
      rw [if_pos hb]
      split at h
      · omega
      · rename_i h0
        rw [if_neg h0]
        have := lastA_drop hf (b :: r) 1 (by rw [List.drop_one, List.tail_cons]; omega)
        rw [List.drop_one, List.tail_cons] at this
        rw [Nat.add_comm]; exact this
    · omega
theorem lastA_quote : LastA quoteN := fun l h => by
  match l, h with
  | [], h => simp [quoteN] at h
  | b :: r, h =>
    have e : quoteN (b :: r) = if b == 34 then 1 else 0 := rfl
    rw [e] at h ⊢
    split at h
    · rename_i hb
      rw [if_pos hb]
      exact ⟨b, rfl, by rw [eq_of_beq hb]; decide⟩
    · omega
theorem opsL_ascii : ∀ x ∈ opsL, ∀ b ∈ x, b.toNat < 128 := by decide +kernel
theorem lastA_oper : LastA operN := fun l h => by
  unfold operN at h ⊢
  cases hf : opsL.find? fun o => Lib.hasPrefix l o with
  | none => rw [hf] at h; simp at h
  | some x =>
    rw [hf] at h
    have h0 : 0 < x.length := h
    have h1 := List.find?_some hf
    have hm := List.mem_of_find?_eq_some hf
    unfold Lib.hasPrefix at h1
    obtain ⟨r, rfl⟩ := List.isPrefixOf_iff_prefix.1 h1
    show ∃ b, (x ++ r)[x.length - 1]? = some b ∧ _
    rw [List.getElem?_append_left (by omega), List.getElem?_eq_getElem (by omega)]
    exact ⟨_, rfl, opsL_ascii x hm _ (List.getElem_mem _)⟩
theorem lines_next : ∀ k (l : List UInt8), l.length ≤ k → linesN l = l.length ∨ l[linesN l]? = some 10 := by
  intro k
  induction k with
  | zero =>
    intro l h
    obtain rfl := List.length_eq_zero_iff.1 (show l.length = 0 by omega)
    exact .inl (linesN_none _ (by decide))
  | succ k ih =>
    intro l hl
    rcases nl_cases l with h0 | ⟨j, hj, hjl⟩
    · exact .inl (linesN_none l h0)
    · cases h2 : (!oddB (l.take j) && !oddB (Lib.trimSuffix (l.take j) [13]))
      · rw [linesN_more l j hj h2]
        rcases ih (l.drop (j + 1)) (by rw [List.length_drop]; omega) with h | h
        · rw [List.length_drop] at h; exact .inl (by omega)
        · rw [List.getElem?_drop] at h; exact .inr h
      · rw [linesN_end l j hj h2]; exact .inr (Lib.indexByte_some hj).1
theorem note_next (l : List UInt8) (h : 0 < noteN l) : l.length ≤ noteN l ∨ l[noteN l]? = some 10 := by
  match l, h with
  | [], h => simp [noteN] at h
  | b :: r, h =>
    have e : noteN (b :: r) = if b == 35 then linesN (b :: r) else 0 := rfl
    rw [e] at h ⊢
    split at h
    · rename_i hb
      rw [if_pos hb]
      exact (lines_next _ (b :: r) (Nat.le_refl _)).imp (fun h => by omega) id
    · omega
theorem piece_next : ∀ k (l : List UInt8), l.length ≤ k → pieceN l = l.length ∨ ∃ b, l[pieceN l]? = some b ∧ isQS b = true := by
  intro k
  induction k with
  | zero =>
    intro l h
    obtain rfl := List.length_eq_zero_iff.1 (show l.length = 0 by omega)
    exact .inl piece_nil
  | succ k ih =>
    intro l hl
    match l, hl with
    | [], _ => exact .inl piece_nil
    | b :: r, hl =>
      by_cases hq : isQS b = true
      · by_cases he : escN (b :: r) = 0
        · rw [piece_stop b r hq he]; exact .inr ⟨b, rfl, hq⟩
        · rw [piece_esc (b :: r) he]
          have hle := escN_le (b :: r)
          rcases ih ((b :: r).drop (escN (b :: r))) (by rw [List.length_drop]; omega) with h | ⟨c, h, h2⟩
          · rw [List.length_drop] at h; exact .inl (by omega)
          · rw [List.getElem?_drop] at h; exact .inr ⟨c, h, h2⟩
      · have hq' : isQS b = false := by simpa using hq
        rw [piece_plain b r hq']
        simp only [List.length_cons] at hl
        rcases ih r (by omega) with h | ⟨c, h, h2⟩
        · exact .inl (by rw [List.length_cons]; omega)
        · exact .inr ⟨c, by rw [Nat.add_comm, List.getElem?_cons_succ]; exact h, h2⟩
theorem asc_qs : ∀ b, isQS b = true → b.toNat < 128 := fun b h => by
  have := u8_all (p := fun b => !isQS b || decide (b.toNat < 128)) (by decide +kernel) b
  simp only [h, Bool.not_true, Bool.false_or, decide_eq_true_eq] at this; exact this
/-- where a token ends -/
def Edge1 (m : List UInt8) (n : Nat) : Prop := m.length ≤ n ∨ (∃ b, m[n]? = some b ∧ b.toNat < 128) ∨ ∃ b, 0 < n ∧ m[n - 1]? = some b ∧ b.toNat < 128
theorem tries_edge : ∀ x ∈ triesL, ∀ m, 0 < x.2.2 m → Edge1 m (x.2.2 m) := by
  intro x hx m
  have key : ∀ f, LastA f → 0 < f m → Edge1 m (f m) := fun f hf h => .inr (.inr (by obtain ⟨b, h1, h2⟩ := hf m h; exact ⟨b, h, h1, h2⟩))
  simp only [triesL, List.mem_cons, List.not_mem_nil, or_false] at hx
  rcases hx with rfl | rfl | rfl | rfl | rfl | rfl | rfl | rfl | rfl
  · exact key _ (lastA_run asc_blank)
  · intro h
    rcases note_next m h with h | h
    · exact .inl h
    · exact .inr (.inl ⟨10, h, by decide⟩)
  · exact key _ lastA_word
  · exact key _ (lastA_behind _ lastA_simple)
  · exact key _ (lastA_behind _ lastA_word)
  · exact key _ (lastA_behind _ (lastA_run asc_part))
  · exact key _ lastA_number
  · exact key _ lastA_quote
  · exact key _ lastA_oper
theorem step_edge {m : List UInt8} {st : List Nat} {inn : Bool} {k n : Nat} {st2 : List Nat} {inn2 : Bool} (hs : stepN m st inn = (k, n, st2, inn2, 0)) : Edge1 m n := by
  unfold stepN at hs
  cases inn
  · rw [if_neg (by simp)] at hs
    unfold outN at hs
    cases hf : triesL.find? (fun x => decide (0 < x.2.2 m)) with
    | none => rw [hf] at hs; simp at hs
    | some x =>
      rw [hf] at hs
      have hx : x.2.2 m = n := by simp only [Prod.mk.injEq] at hs; exact hs.2.1
      rw [← hx]
      exact tries_edge x (List.mem_of_find?_eq_some hf) m (by simpa using List.find?_some hf)
  · rw [if_pos rfl] at hs
    unfold insN at hs
    split at hs
    · have hx : pieceN m = n := by simp only [Prod.mk.injEq] at hs; exact hs.2.1
      rw [← hx]
      rcases piece_next _ m (Nat.le_refl _) with h | ⟨b, h, h2⟩
      · exact .inl (by omega)
      · exact .inr (.inl ⟨b, h, asc_qs b h2⟩)
    · split at hs
      · rename_i h34
        have hx : 1 = n := by simp only [Prod.mk.injEq] at hs; exact hs.2.1
        rw [← hx]
        exact .inr (.inr ⟨34, by omega, h34, by decide⟩)
      · split at hs
        · simp at hs
        · split at hs
          · simp at hs
          · rename_i hp _
            have hx : 2 = n := by simp only [Prod.mk.injEq] at hs; exact hs.2.1
            rw [← hx]
            have hp' : Lib.hasPrefix m [92, 40] = true := by simpa using hp
            unfold Lib.hasPrefix at hp'
            obtain ⟨r, rfl⟩ := List.isPrefixOf_iff_prefix.1 hp'
            exact .inr (.inr ⟨40, by omega, rfl, by decide⟩)
theorem reach_edge {l : List UInt8} {pre : List Tok3} {at' : Nat} {st : List Nat} {inn : Bool} (h : Reach l pre at' st inn) : Edge l at' := by
  cases h with
  | nil => exact .inl rfl
  | @snoc pre a st0 inn0 k n _ _ hr hlt hs =>
    rcases step_edge hs with h | ⟨b, h, h2⟩ | ⟨b, h0, h, h2⟩
    · rw [List.length_drop] at h; exact .inr (.inl (by omega))
    · rw [List.getElem?_drop] at h; exact .inr (.inr (.inl ⟨b, h, h2⟩))
    · rw [List.getElem?_drop] at h; exact .inr (.inr (.inr ⟨b, by omega, by rw [← h]; congr 1; omega, h2⟩))
/-- how a run ends -/
theorem lex_reach {l : List UInt8} : ∀ (F : Nat) {pre : List Tok3} {a : Nat} {st : List Nat} {inn : Bool}, Reach l pre a st inn → l.length - a < F →
    ∃ ys b st2 inn2 er, Reach l (pre ++ ys) b st2 inn2 ∧ lexN F l a st inn = (ys, er, b) ∧ ((b < l.length ∧ er ≠ 0 ∧ (stepN (l.drop b) st2 inn2).2.2.2.2 = er) ∨ (b = l.length ∧ er = if inn2 || !st2.isEmpty then 13 else 0))
  | 0, _, _, _, _, _, h => by omega
  | F + 1, pre, a, st, inn, hr, h => by
    obtain ⟨f1, f2, f3, f4⟩ := reach_facts hr
    by_cases hlt : a < l.length
    · generalize hs : stepN (l.drop a) st inn = r
      obtain ⟨k, n, st2, inn2, er⟩ := r
      cases er with
      | zero =>
        have hg := stepN_good (l.drop a) st inn a (fun e => by have := congrArg List.length e; rw [List.length_drop] at this; simp at this; omega) f2 f3
        rw [hs] at hg
        obtain ⟨g1, g2, _, _⟩ := hg rfl
        dsimp only at g1 g2
        rw [List.length_drop] at g2
        obtain ⟨ys, b, st3, inn3, er, h1, h2, h3⟩ := lex_reach F (.snoc hr hlt hs) (by omega)
        refine ⟨(k, a, n) :: ys, b, st3, inn3, er, by rw [List.append_assoc] at h1; exact h1, ?_, h3⟩
        rw [lexN_step hlt hs, h2]
      | succ e =>
        refine ⟨[], a, st, inn, e + 1, by rw [List.append_nil]; exact hr, ?_, .inl ⟨hlt, by omega, by rw [hs]⟩⟩
        rw [lexN, if_neg (by omega), hs]
    · refine ⟨[], a, st, inn, _, by rw [List.append_nil]; exact hr, ?_, .inr ⟨by omega, rfl⟩⟩
      rw [lexN, if_pos (by omega)]
theorem lex_whole (l : List UInt8) : ∃ ys b st2 inn2 er, Reach l ys b st2 inn2 ∧ lexN (l.length + 1) l 0 [] false = (ys, er, b) ∧ ((b < l.length ∧ er ≠ 0 ∧ (stepN (l.drop b) st2 inn2).2.2.2.2 = er) ∨ (b = l.length ∧ er = if inn2 || !st2.isEmpty then 13 else 0)) := by
  obtain ⟨ys, b, st2, inn2, er, h1, h2, h3⟩ := lex_reach (l := l) (l.length + 1) .nil (by omega)
  exact ⟨ys, b, st2, inn2, er, by rwa [List.nil_append] at h1, h2, h3⟩
/-- a text that is cut where the lexer has come is told without an error but that it may end too early -/
theorem cut_told {s : ByteArray} (hs : s.size ≤ 65536) (hu : Utf s.data.toList) {ys : List Tok3} {b : Nat} {st : List Nat} {inn : Bool} (h : Reach s.data.toList ys b st inn) {T : ByteArray} (hT : T.data.toList = s.data.toList.take b) : ∃ zs, tokensN T = if inn || !st.isEmpty then ([], 13, (b : Int)) else (zs, 0, 0) := by
  obtain ⟨f1, f2, f3, f4⟩ := reach_facts h
  have hTs : T.size = b := by rw [Lib.size_eq, hT, List.length_take]; omega
  have hsz := Lib.size_eq s
  have hrun := reach_run (reach_take h (Nat.le_refl b)) (b - ys.length + 1)
  rw [show ys.length + (b - ys.length + 1) = T.size + 1 by omega, ← hT] at hrun
  have hend : lexN (b - ys.length + 1) T.data.toList b st inn = ([], (if inn || !st.isEmpty then 13 else 0), b) := by rw [lexN, if_pos (by rw [← Lib.size_eq]; omega)]
  rw [hend, List.append_nil] at hrun
  have ht := tokens_at (by omega) (by rw [hT]; exact (utf_cut hu b (reach_edge h)).1) hrun
  refine ⟨ys, ?_⟩
  rw [ht]
  cases (inn || !st.isEmpty) <;> simp
end Go.Proofs.YtfaocpcbejgfjaaDoor
