/- The tokens of two texts with a line's end between are those of both. No condition. -/
import Derived.Test.YtfaocpcbejgfjaaDoorLs3
namespace Go.Proofs.YtfaocpcbejgfjaaDoor
open Go.RowKit Go.Sub

def HeadNotBlank (t : List UInt8) : Prop := ∀ b, t[0]? = some b → isBlank b = false
theorem find_same {α : Type} (g g' : α → Nat) : ∀ xs : List α, (∀ x ∈ xs, g x = 0 → g' x = 0) → (∀ x, xs.find? (fun x => decide (0 < g x)) = some x → g' x = g x) → xs.find? (fun x => decide (0 < g' x)) = xs.find? (fun x => decide (0 < g x))
  | [], _, _ => rfl
  | x :: xs, h, hf => by
    rw [List.find?_cons] at hf
    rw [List.find?_cons, List.find?_cons]
    by_cases h0 : 0 < g x
    · rw [decide_eq_true h0] at hf
      rw [hf x rfl, decide_eq_true h0]
    · rw [decide_eq_false h0] at hf
      rw [h x (by simp) (by omega), decide_eq_false h0, decide_eq_false (by omega)]
      exact find_same g g' xs (fun y hy => h y (List.mem_cons_of_mem _ hy)) hf
theorem app_cons (m t : List UInt8) : m ++ 10 :: t = (m ++ [10]) ++ t := by simp
theorem tries_ext (m t : List UInt8) : ∀ x ∈ triesL, (x.2.2 (m ++ [10]) < m.length + 1 ∨ (x.1 = 1 ∧ HeadNotBlank t)) → x.2.2 (m ++ 10 :: t) = x.2.2 (m ++ [10]) := by
  intro x hx
  simp only [triesL, List.mem_cons, List.not_mem_nil, or_false] at hx
  rcases hx with rfl | rfl | rfl | rfl | rfl | rfl | rfl | rfl | rfl
  · intro h
    show runOf isBlank (m ++ 10 :: t) = runOf isBlank (m ++ [10])
    rw [app_cons]
    have hle := runOf_le isBlank (m ++ [10])
    by_cases hlt : runOf isBlank (m ++ [10]) < (m ++ [10]).length
    · exact run_append _ _ hlt
    · have hlen : (m ++ [10]).length = m.length + 1 := by simp
      rcases h with h | h
      · dsimp only at h; omega
      · rw [run_append_all _ _ (by omega) h.2]; omega
  · intro h
    rcases h with h | h
    · exact ext_note m t h
    · exact absurd h.1 (by decide)
  · exact fun _ => (ext_word m t).1
  · exact fun _ => (ext_behind (by decide) ext_simple m t).1
  · exact fun _ => (ext_behind (by decide) ext_word m t).1
  · exact fun _ => (ext_behind (by decide) (ext_run rfl) m t).1
  · exact fun _ => (ext_number m t).1
  · exact fun _ => (ext_quote m t).1
  · exact fun _ => (ext_oper m t).1
theorem brk_which (st : List Nat) (kind : Nat) (x : List UInt8) : (brkN st kind x).2.1 = kind ∨ (brkN st kind x).2.1 = 10 := by
  match st with
  | [] => exact .inl rfl
  | t :: rest =>
    unfold brkN
    dsimp only
    split
    · split
      · exact .inl rfl
      · split
        · split
          · exact .inr rfl
          · exact .inl rfl
        · exact .inl rfl
    · exact .inl rfl
theorem step_ext {m t : List UInt8} {st : List Nat} {inn : Bool} {k n : Nat} {st2 : List Nat} {inn2 : Bool} (hs : stepN (m ++ [10]) st inn = (k, n, st2, inn2, 0)) (hn : n < m.length + 1 ∨ (k = 1 ∧ HeadNotBlank t)) : stepN (m ++ 10 :: t) st inn = (k, n, st2, inn2, 0) := by
  unfold stepN at hs ⊢
  cases inn
  · rw [if_neg (by simp)] at hs ⊢
    unfold outN at hs ⊢
    have hcase : ∀ x, triesL.find? (fun x => decide (0 < x.2.2 (m ++ [10]))) = some x → x.2.2 (m ++ 10 :: t) = x.2.2 (m ++ [10]) ∧ x.2.2 (m ++ [10]) = n := fun x hx => by
      rw [hx] at hs
      simp only [Prod.mk.injEq] at hs
      refine ⟨tries_ext m t x (List.mem_of_find?_eq_some hx) ?_, hs.2.1⟩
      rw [hs.2.1]
      refine hn.imp id fun h => ⟨?_, h.2⟩
      rcases brk_which st x.1 ((m ++ [10]).take (x.2.2 (m ++ [10]))) with e | e
      · rw [← e, hs.1, h.1]
      · rw [hs.1, h.1] at e; simp at e
    rw [find_same (fun x => x.2.2 (m ++ [10])) (fun x => x.2.2 (m ++ 10 :: t)) triesL (fun x hx h0 => by rw [tries_ext m t x hx (.inl (by omega)), h0]) (fun x hx => (hcase x hx).1)]
    cases hf : triesL.find? (fun x => decide (0 < x.2.2 (m ++ [10]))) with
    | none => rw [hf] at hs; simp at hs
    | some x =>
      rw [hf] at hs
      obtain ⟨e1, e2⟩ := hcase x hf
      have hle := tries_le x (List.mem_of_find?_eq_some hf) (m ++ [10])
      have et : (m ++ 10 :: t).take (x.2.2 (m ++ [10])) = (m ++ [10]).take (x.2.2 (m ++ [10])) := by rw [app_cons m t]; exact List.take_append_of_le_length hle
      dsimp only at hs ⊢
      rw [e1, et]
      exact hs
  · rw [if_pos rfl] at hs ⊢
    unfold insN at hs ⊢
    have hk : pieceN (m ++ [10]) < m.length + 1 := by
      by_cases hp : 0 < pieceN (m ++ [10])
      · rw [if_pos hp] at hs
        simp only [Prod.mk.injEq] at hs
        rw [hs.2.1]
        refine hn.resolve_right fun h => ?_
        rw [h.1] at hs; simp at hs
      · omega
    rw [ext_piece_k _ m t (Nat.le_refl _) hk]
    split
    · rename_i hp
      rw [if_pos hp] at hs; exact hs
    · rename_i hp
      rw [if_neg hp] at hs
      rw [get_ext (Nat.zero_le _), (pre_ext m [92, 40] t (by decide)).1]
      exact hs
theorem reach_ext {l t : List UInt8} {ys : List Tok3} {a : Nat} {st : List Nat} {inn : Bool} (h : Reach (l ++ [10]) ys a st inn) : a < l.length + 1 → Reach (l ++ 10 :: t) ys a st inn := by
  induction h with
  | nil => exact fun _ => .nil
  | @snoc pre a st inn k n st2 inn2 hr hlt hs ih =>
    intro hlt2
    refine .snoc (ih (by omega)) (by rw [List.length_append, List.length_cons]; omega) ?_
    rw [drop_ext (by omega)] at hs
    rw [drop_ext (by omega)]
    exact step_ext hs (.inl (by rw [List.length_drop]; omega))
theorem reach_ext_last {l t : List UInt8} {ys : List Tok3} {st : List Nat} {inn : Bool} (h : Reach (l ++ [10]) ys (l.length + 1) st inn) (hk : ys.getLast?.map (·.1) = some 1) (ht : HeadNotBlank t) : Reach (l ++ 10 :: t) ys (l.length + 1) st inn := by
  generalize hb : l.length + 1 = b at h
  cases h with
  | nil => simp at hk
  | @snoc pre a st0 inn0 k n _ _ hr hlt hs =>
    have hk1 : k = 1 := by simpa using hk
    obtain ⟨i1, i2, i3, i4⟩ := reach_facts hr
    rw [List.length_append, List.length_singleton] at hlt
    refine .snoc (reach_ext hr hlt) (by rw [List.length_append, List.length_cons]; omega) ?_
    rw [drop_ext (by omega)] at hs
    rw [drop_ext (by omega)]
    exact step_ext hs (.inr ⟨hk1, ht⟩)
def shiftT (d : Nat) (x : Tok3) : Tok3 := (x.1, d + x.2.1, x.2.2)
theorem lex_shift (a t : List UInt8) : ∀ (F i : Nat) (st : List Nat) (inn : Bool), lexN F (a ++ t) (a.length + i) st inn = ((lexN F t i st inn).1.map (shiftT a.length), (lexN F t i st inn).2.1, if F = 0 then a.length + i else a.length + (lexN F t i st inn).2.2)
  | 0, _, _, _ => rfl
  | F + 1, i, st, inn => by
    rw [if_neg (by omega)]
    have hd : (a ++ t).drop (a.length + i) = t.drop i := by rw [List.drop_append]; simp
    by_cases hlt : i < t.length
    · generalize hs : stepN (t.drop i) st inn = r
      obtain ⟨k, n, st2, inn2, er⟩ := r
      cases er with
      | zero =>
        rw [lexN_step hlt hs, lexN_step (by rw [List.length_append]; omega) (by rw [hd]; exact hs), Nat.add_assoc, lex_shift a t F]
        match F with
        | 0 => simp only [lexN, List.map_nil, List.map_cons, if_true]; simp [shiftT]
        | F + 1 => rw [if_neg (by omega)]; rfl
      | succ e => rw [lexN, if_neg (by rw [List.length_append]; omega), hd, hs, lexN, if_neg (by omega), hs]; rfl
    · rw [lexN, if_pos (show (a ++ t).length ≤ a.length + i by rw [List.length_append]; omega), lexN, if_pos (show t.length ≤ i by omega)]; rfl
theorem reach_in {l : List UInt8} {ys : List Tok3} {a : Nat} {st : List Nat} {inn : Bool} (h : Reach l ys a st inn) : ∀ x ∈ ys, x.2.1 + x.2.2 ≤ a := by
  induction h with
  | nil => intro x hx; simp at hx
  | @snoc pre a st inn k n st2 inn2 hr hlt hs ih =>
    intro x hx
    rcases List.mem_append.1 hx with h | h
    · have := ih x h; omega
    · rw [List.mem_singleton.1 h]; exact Nat.le_refl _
theorem tokC_left {a t : List UInt8} : ∀ ys : List Tok3, (∀ x ∈ ys, x.2.1 + x.2.2 ≤ a.length) → tokC (a ++ t) ys = tokC a ys
  | [], _ => rfl
  | x :: ys, h => by
    have hx := h x (by simp)
    have ih := tokC_left (t := t) ys fun y hy => h y (List.mem_cons_of_mem _ hy)
    unfold tokC at ih ⊢
    rw [List.flatMap_cons, List.flatMap_cons, ih, List.drop_append_of_le_length (by omega), List.take_append_of_le_length (by rw [List.length_drop]; omega)]
theorem tokC_right {a t : List UInt8} : ∀ zs : List Tok3, tokC (a ++ t) (zs.map (shiftT a.length)) = tokC t zs
  | [] => rfl
  | x :: zs => by
    have ih := tokC_right (a := a) (t := t) zs
    unfold tokC at ih ⊢
    rw [List.map_cons, List.flatMap_cons, List.flatMap_cons, ih]
    have hd : (a ++ t).drop (shiftT a.length x).2.1 = t.drop x.2.1 := by show (a ++ t).drop (a.length + x.2.1) = _; rw [List.drop_append]; simp
    rw [hd]; rfl
theorem tokC_append (l : List UInt8) (ys zs : List Tok3) : tokC l (ys ++ zs) = tokC l ys ++ tokC l zs := by unfold tokC; simp
/-- tokens without an error: the run goes to the end, with nothing open -/
theorem told_ok {s : ByteArray} {ys : List Tok3} {z : Int} (hs : s.size ≤ 65536) (hu : Utf s.data.toList) (h : tokensN s = (ys, 0, z)) : Reach s.data.toList ys s.size [] false ∧ lexN (s.size + 1) s.data.toList 0 [] false = (ys, 0, s.size) ∧ z = 0 := by
  obtain ⟨ys', b, st2, inn2, er, h1, h2, h3⟩ := lex_whole s.data.toList
  rw [← Lib.size_eq] at h2 h3
  have ht := tokens_at hs hu h2
  rw [h] at ht
  by_cases he : er = 0
  · rw [if_pos he] at ht
    simp only [Prod.mk.injEq, true_and] at ht
    obtain ⟨rfl, hz⟩ := ht
    rcases h3 with ⟨_, h0, _⟩ | ⟨hb, h0⟩
    · exact absurd he h0
    · rw [he] at h0
      cases hc : (inn2 || !st2.isEmpty)
      · rw [Bool.or_eq_false_iff] at hc
        obtain ⟨rfl, hc2⟩ := hc
        have : st2 = [] := by
          cases st2 with
          | nil => rfl
          | cons a b => simp at hc2
        subst this
        rw [hb] at h1 h2
        rw [he] at h2
        exact ⟨h1, h2, hz⟩
      · rw [hc] at h0; simp at h0
  · rw [if_neg he] at ht
    simp only [Prod.mk.injEq] at ht
    exact absurd ht.2.1.symm he
theorem first_blank {t : List UInt8} {F : Nat} {zs : List Tok3} {er at' : Nat} (h : lexN (F + 1) t 0 [] false = (zs, er, at')) (hz : ∀ z, zs[0]? = some z → z.1 ≠ 1) : HeadNotBlank t := by
  intro b hb
  match t, hb with
  | c :: r, hb =>
    have hcb : c = b := by simpa using hb
    subst hcb
    cases hk : isBlank c
    · rfl
    · exfalso
      have hn : 0 < runOf isBlank (c :: r) := by unfold runOf; rw [List.takeWhile_cons, hk]; simp
      have hs := outN_some (l := c :: r) (st := []) (k := 0) (x := (1, 32, runOf isBlank)) rfl (fun y hy => by simp at hy) hn
      have hs2 : stepN ((c :: r).drop 0) [] false = (1, runOf isBlank (c :: r), [], false, 0) := by
        rw [List.drop_zero]; exact hs
      rw [lexN_step (by simp) hs2] at h
      simp only [Prod.mk.injEq] at h
      rw [← h.1] at hz
      exact hz _ rfl rfl
theorem split_told {S1 S2 S3 : ByteArray} {l t : List UInt8} (h1 : S1.data.toList = l ++ [10]) (h2 : S2.data.toList = t) (h3 : S3.data.toList = l ++ 10 :: t) (s1 : S1.size ≤ 1000) (s2 : S2.size ≤ 1000) (u1 : Utf S1.data.toList) (u2 : Utf S2.data.toList) {ys zs : List Tok3} {z1 z2 : Int}
    (t1 : tokensN S1 = (ys, 0, z1)) (t2 : tokensN S2 = (zs, 0, z2)) (hl : ys.getLast?.map (·.1) = some 1) (hz : ∀ z, zs[0]? = some z → z.1 ≠ 1) :
    tokensN S3 = (ys ++ zs.map (shiftT S1.size), 0, 0) ∧ tokC S3.data.toList (ys ++ zs.map (shiftT S1.size)) = tokC S1.data.toList ys ++ tokC S2.data.toList zs := by
  obtain ⟨r1, _, _⟩ := told_ok (by omega) u1 t1
  obtain ⟨r2, e2, _⟩ := told_ok (by omega) u2 t2
  have hs1 : S1.size = l.length + 1 := by rw [Lib.size_eq, h1]; simp
  have hs2 : S2.size = t.length := by rw [Lib.size_eq, h2]
  have hs3 : S3.size = S1.size + S2.size := by rw [Lib.size_eq, h3, hs1, hs2, List.length_append, List.length_cons]; omega
  have h3' : S3.data.toList = S1.data.toList ++ S2.data.toList := by rw [h3, h1, h2]; simp
  obtain ⟨f1, _, _, f4⟩ := reach_facts r1
  rw [h2] at e2
  have hb := first_blank e2 hz
  have r3 : Reach (l ++ 10 :: t) ys (l.length + 1) [] false := reach_ext_last (by rw [← hs1, ← h1]; exact r1) hl hb
  obtain ⟨_, _, _, g4⟩ := reach_facts r2
  have hrun := reach_run r3 (S3.size + 1 - ys.length)
  have hsh := lex_shift S1.data.toList S2.data.toList (S3.size + 1 - ys.length) 0 [] false
  have hr2 := reach_run r2 (S3.size + 1 - ys.length - zs.length)
  have hr2e : lexN (S3.size + 1 - ys.length - zs.length) S2.data.toList S2.size [] false = ([], 0, S2.size) := by
    obtain ⟨q, hq⟩ : ∃ q, S3.size + 1 - ys.length - zs.length = q + 1 := ⟨S3.size - ys.length - zs.length, by omega⟩
    rw [hq, lexN, if_pos (by rw [← Lib.size_eq]; omega)]; rfl
  rw [hr2e, List.append_nil, show zs.length + (S3.size + 1 - ys.length - zs.length) = S3.size + 1 - ys.length by omega] at hr2
  rw [hr2, if_neg (by omega), ← h3', ← Lib.size_eq, Nat.add_zero, h3, hs1] at hsh
  rw [hsh, show ys.length + (S3.size + 1 - ys.length) = S3.size + 1 by omega] at hrun
  dsimp only at hrun
  have hrun' : lexN (S3.size + 1) S3.data.toList 0 [] false = (ys ++ zs.map (shiftT (l.length + 1)), 0, l.length + 1 + S2.size) := by rw [h3]; exact hrun
  have ht := tokens_at (by omega) (by rw [h3']; exact utf_append u1 u2) hrun'
  rw [if_pos rfl, ← hs1] at ht
  refine ⟨ht, ?_⟩
  rw [tokC_append, h3', tokC_left ys (fun x hx => by rw [← Lib.size_eq]; exact reach_in r1 x hx), Lib.size_eq, tokC_right]
end Go.Proofs.YtfaocpcbejgfjaaDoor
