/- When two tokens may stand side by side, as a plain function; two that stand side by side in a text may, but for a number ahead of a word or a number, and two colons. No condition but the text's size. · A row of tokens as one line, as a plain function; what it is for the chapter's example and for pairs of words and brackets. No condition. · The chapter's example of a line, and pairs of words and brackets, reckoned. No condition. · The tokens that count, with the notes behind each, as a plain function; how many there are, all notes in order, and where each stands. No condition. · How items lie in memory: a row of four cells each, of which the fourth is a row of notes; what a token more does to it. No condition. · Rows of strings and of items that are only read. No condition. · How many tokens a text has at most, and which errors there are. No condition. · Which tokens count, which are of strings, and which may stand side by side: the code's functions. Condition: texts of at most 10^6 bytes. · The builder of a text, and what it leaves alone. Its condition: a text of at most 2^46 bytes. -/
import Derived.Test.YtiinhkfbgecbjaaGreatDoorB1
import Derived.Test.YtiinhkfbgecbjaaGreatDoorAppend
import Derived.Test.YtiinhkfbgecbjaaGreatDoorLx18
import Derived.Deep.Cut
namespace Go.Proofs.YtiinhkfbgecbjaaGreatDoor
set_option linter.unusedSimpArgs false
set_option linter.unusedVariables false
open Go.RowKit Go.Sub

def colonB : ByteArray := ⟨#[58]⟩
/-- the answer as the code has it -/
def tightB (a b : TokB) : Bool :=
  if a.1 = 1 ∨ a.1 = 2 ∨ b.1 = 1 ∨ b.1 = 2 then false
  else if a.1 = 6 ∧ (b.1 = 6 ∨ b.1 = 3) then false
  else if a = b ∧ a.1 = 13 ∧ a.2 = colonB then false
  else if (7 ≤ a.1 ∧ a.1 ≤ 11) ∨ (7 ≤ b.1 ∧ b.1 ≤ 11) then true
  else decide ((tokensN (a.2 ++ b.2)).2.1 = 0) && decide ((tokensN (a.2 ++ b.2)).1.map (tokB (a.2 ++ b.2).data.toList) = [a, b])
/-- the law's word for it -/
def spaceB (a b : TokB) : Bool := decide (a.1 < 3 ∨ b.1 < 3 ∨ (a.1 = 6 ∧ (b.1 = 6 ∨ b.1 = 3)) ∨ (a.2 = colonB ∧ b.2 = colonB ∧ a.1 = 13))
theorem run_end {l : List UInt8} {ys : List Tok3} (h : Reach l ys l.length [] false) : lexN (l.length + 1) l 0 [] false = (ys, 0, l.length) := by
  obtain ⟨f1, f2, f3, f4⟩ := reach_facts h
  have e : lexN (l.length - ys.length + 1) l l.length [] false = ([], 0, l.length) := by rw [lexN, if_pos (by omega)]; rfl
  have hr := reach_run h (l.length - ys.length + 1)
  rw [e, show ys.length + (l.length - ys.length + 1) = l.length + 1 by omega] at hr
  rw [hr]; simp
/-- two tokens that stand side by side -/
theorem reach_pair {l : List UInt8} {ys : List Tok3} {a : Nat} {st : List Nat} {inn : Bool} (h : Reach l ys a st inn) : ∀ i x y, ys[i]? = some x → ys[i + 1]? = some y →
    ∃ p k n st0 inn0 st1 inn1 k' n' st2 inn2, x = (k, p, n) ∧ y = (k', p + n, n') ∧ p + n < l.length ∧ stepN (l.drop p) st0 inn0 = (k, n, st1, inn1, 0) ∧ stepN (l.drop (p + n)) st1 inn1 = (k', n', st2, inn2, 0) ∧ Edge l p ∧ Edge l (p + n + n') ∧ p + n + n' ≤ l.length ∧ 0 < n ∧ 0 < n' := by
  induction h with
  | nil => intro i x y hx; simp at hx
  | @snoc pre a st inn k n st2 inn2 hr hlt hs ih =>
    intro i x y hx hy
    have h1 : Reach l (pre ++ [(k, a, n)]) (a + n) st2 inn2 := .snoc hr hlt hs
    by_cases hi : i + 1 < pre.length
    · rw [List.getElem?_append_left (by omega)] at hx
      rw [List.getElem?_append_left hi] at hy
      exact ih i x y hx hy
    · have hl : i + 1 < pre.length + 1 := by
        have := (List.getElem?_eq_some_iff.1 hy).1
        rwa [List.length_append] at this
      have hi2 : i + 1 = pre.length := by omega
      rw [List.getElem?_append_left (by omega)] at hx
      rw [hi2, List.getElem?_append_right (Nat.le_refl _), Nat.sub_self] at hy
      obtain rfl : (k, a, n) = y := by simpa using hy
      have hk := reach_kinds h1 (k, a, n) (by simp)
      have hf := (reach_facts h1).1
      cases hr with
      | nil => simp at hx
      | @snoc pre0 p st0 inn0 k0 n0 _ _ hr0 hlt0 hs0 =>
        rw [List.length_append, List.length_singleton] at hi2
        rw [List.getElem?_append_right (by omega), show i - pre0.length = 0 by omega] at hx
        obtain rfl : (k0, p, n0) = x := by simpa using hx
        have h2 : Reach l (pre0 ++ [(k0, p, n0)]) (p + n0) st inn := .snoc hr0 hlt0 hs0
        have hk0 := reach_kinds h2 (k0, p, n0) (by simp)
        exact ⟨p, k0, n0, st0, inn0, st, inn, k, n, st2, inn2, rfl, rfl, hlt, hs0, hs, reach_edge hr0, reach_edge h1, hf, hk0.2.1, hk.2.1⟩
/-- a token that may stand outside of strings alone -/
def OutK (k : Nat) : Prop := k ≠ 7 ∧ k ≠ 8 ∧ k ≠ 9 ∧ k ≠ 10 ∧ k ≠ 11
theorem step_out {m : List UInt8} {st : List Nat} {inn : Bool} {k n : Nat} {st2 : List Nat} {inn2 : Bool} (hs : stepN m st inn = (k, n, st2, inn2, 0)) (hk : OutK k) : inn = false ∧ inn2 = false ∧ stepN m [] false = (k, n, [], false, 0) := by
  obtain ⟨k7, k8, k9, k10, k11⟩ := hk
  cases inn
  · refine ⟨rfl, ?_⟩
    unfold stepN at hs ⊢
    rw [if_neg (by simp)] at hs ⊢
    unfold outN at hs ⊢
    cases hf : triesL.find? (fun x => decide (0 < x.2.2 m)) with
    | none => rw [hf] at hs; simp at hs
    | some x =>
      rw [hf] at hs
      simp only [Prod.mk.injEq] at hs
      obtain ⟨e1, e2, e3, e4, _⟩ := hs
      have hx : x.1 = k := by
        rcases brk_which st x.1 (m.take (x.2.2 m)) with e | e
        · omega
        · omega
      have h7 : (x.1 == 7) = false := by rw [hx, beq_eq_false_iff_ne]; exact k7
      refine ⟨?_, ?_⟩
      · rw [h7, Bool.or_false] at e4
        rw [← e4]
        match st, e1 with
        | [], _ => rfl
        | t :: rest, e1 =>
          unfold brkN at e1 ⊢
          dsimp only at e1 ⊢
          split
          · rename_i h13
            rw [if_pos h13] at e1
            split
            · rfl
            · rename_i h40
              rw [if_neg h40] at e1
              split
              · rename_i h41
                rw [if_pos h41] at e1
                split
                · rename_i h0
                  rw [if_pos h0] at e1
                  dsimp only at e1
                  omega
                · rfl
              · rfl
          · rfl
      · unfold brkN
        dsimp only
        rw [h7, hx, e2]; rfl
  · unfold stepN at hs
    rw [if_pos rfl] at hs
    unfold insN at hs
    exfalso
    split at hs
    · simp only [Prod.mk.injEq] at hs; omega
    · split at hs
      · simp only [Prod.mk.injEq] at hs; omega
      · split at hs
        · simp at hs
        · split at hs
          · simp at hs
          · simp only [Prod.mk.injEq] at hs; omega
theorem kinds_colon (r : List UInt8) : (kindsL (58 :: r)).find? (fun x => decide (0 < x.2)) = none ∨ (kindsL (58 :: r)).find? (fun x => decide (0 < x.2)) = some (13, operN (58 :: r)) := by
  have e : kindsL (58 :: r) = [(1, 0), (2, 0), (3, 0), (4, 0), (5, 0), (12, 0), (6, 0), (7, 0), (13, operN (58 :: r))] := rfl
  rw [e]
  by_cases h : 0 < operN (58 :: r)
  · exact .inr (by simp [List.find?, h])
  · exact .inl (by simp [List.find?, h])
theorem step_colon {r : List UInt8} {st : List Nat} {k : Nat} {st2 : List Nat} {inn2 : Bool} (hs : stepN (58 :: r) st false = (k, 1, st2, inn2, 0)) : k = 13 := by
  unfold stepN at hs
  rw [if_neg (by simp), outM_eq] at hs
  unfold outM at hs
  rcases kinds_colon r with e | e
  · rw [e] at hs; simp at hs
  · rw [e] at hs
    simp only [Prod.mk.injEq] at hs
    obtain ⟨e1, e2, _⟩ := hs
    rw [e2] at e1
    rw [← e1]
    match st with
    | [] => rfl
    | t :: rest => rfl
theorem edge_drop {l : List UInt8} {p q : Nat} (h : Edge l (p + q)) (hq : 0 < q) : Edge (l.drop p) q := by
  rcases h with h | h | ⟨b, h, h2⟩ | ⟨b, h0, h, h2⟩
  · omega
  · exact .inr (.inl (by rw [List.length_drop]; omega))
  · exact .inr (.inr (.inl ⟨b, by rw [List.getElem?_drop]; exact h, h2⟩))
  · exact .inr (.inr (.inr ⟨b, hq, by rw [List.getElem?_drop]; rw [← h]; congr 1; omega, h2⟩))
/-- two that stand outside of strings are told by themselves -/
theorem pair_told {l : List UInt8} (hl : l.length ≤ 65536) (hu : Utf l) {p n n' k k' : Nat} {st0 st1 st2 : List Nat} {inn0 inn1 inn2 : Bool} (hlt : p + n < l.length) (h1 : stepN (l.drop p) st0 inn0 = (k, n, st1, inn1, 0)) (h2 : stepN (l.drop (p + n)) st1 inn1 = (k', n', st2, inn2, 0))
    (e1 : Edge l p) (e2 : Edge l (p + n + n')) (hle : p + n + n' ≤ l.length) (hn : 0 < n) (hn' : 0 < n') (hk : OutK k) (hk' : OutK k') {S : ByteArray} (hS : S.data.toList = (l.drop p).take (n + n')) :
    tokensN S = ([(k, 0, n), (k', n, n')], 0, 0) := by
  have hlen : S.data.toList.length = n + n' := by rw [hS, List.length_take, List.length_drop]; omega
  have hsz : S.size = n + n' := by rw [Lib.size_eq, hlen]
  obtain ⟨_, i1, s1⟩ := step_out h1 hk
  obtain ⟨_, i2, s2⟩ := step_out h2 hk'
  have s1' := step_take s1 (show n ≤ n + n' by omega) (by omega)
  have s2' := step_take s2 (Nat.le_refl n') hn'
  have r0 : Reach S.data.toList [] 0 [] false := .nil
  have r1 : Reach S.data.toList ([] ++ [(k, 0, n)]) (0 + n) [] false := .snoc r0 (by omega) (by rw [List.drop_zero, hS]; exact s1')
  have r2 : Reach S.data.toList ([] ++ [(k, 0, n)] ++ [(k', 0 + n, n')]) (0 + n + n') [] false := .snoc r1 (by omega) (by
    rw [hS, List.drop_take, List.drop_drop, show n + n' - (0 + n) = n' by omega, Nat.zero_add]
    exact s2')
  rw [Nat.zero_add, List.nil_append] at r2
  have r3 : Reach S.data.toList [(k, 0, n), (k', n, n')] S.data.toList.length [] false := by rw [hlen]; exact r2
  have hrun := run_end r3
  rw [← Lib.size_eq] at hrun
  have hut : Utf S.data.toList := by
    rw [hS]
    exact (utf_cut (utf_cut hu p e1).2 (n + n') (edge_drop (by rw [← Nat.add_assoc]; exact e2) (by omega))).1
  have ht := tokens_at (by omega) hut hrun
  rw [ht]; rfl
theorem tok_append (l : List UInt8) (p n n' : Nat) : ((⟨((l.drop p).take n).toArray⟩ : ByteArray) ++ ⟨((l.drop (p + n)).take n').toArray⟩).data.toList = (l.drop p).take (n + n') := by
  rw [ByteArray.data_append, Array.toList_append, List.take_add, List.drop_drop]
theorem tight_next {s : ByteArray} (hs : s.size ≤ 65536) (hu : Utf s.data.toList) {ys : List Tok3} (h : Reach s.data.toList ys s.size [] false) {i : Nat} {x y : Tok3} (hx : ys[i]? = some x) (hy : ys[i + 1]? = some y) :
    tightB (tokB s.data.toList x) (tokB s.data.toList y) = !spaceB (tokB s.data.toList x) (tokB s.data.toList y) := by
  obtain ⟨p, k, n, st0, inn0, st1, inn1, k', n', st2, inn2, rfl, rfl, hlt, s1, s2, e1, e2, hle, hn, hn'⟩ := reach_pair h i x y hx hy
  have hsz := Lib.size_eq s
  have k1 := step_kind s1
  have k2 := step_kind s2
  have c1 : ((k : Int) = 1 ∨ (k : Int) = 2 ∨ (k' : Int) = 1 ∨ (k' : Int) = 2) ↔ ((k : Int) < 3 ∨ (k' : Int) < 3) := by omega
  unfold tightB spaceB tokB
  dsimp only
  by_cases q1 : (k : Int) < 3 ∨ (k' : Int) < 3
  · rw [if_pos (c1.2 q1), decide_eq_true (by rcases q1 with h | h; exact .inl h; exact .inr (.inl h))]; rfl
  · rw [if_neg (fun e => q1 (c1.1 e))]
    by_cases q2 : (k : Int) = 6 ∧ ((k' : Int) = 6 ∨ (k' : Int) = 3)
    · rw [if_pos q2, decide_eq_true (.inr (.inr (.inl q2)))]; rfl
    · rw [if_neg q2]
      by_cases q3 : (⟨((s.data.toList.drop p).take n).toArray⟩ : ByteArray) = colonB ∧ (⟨((s.data.toList.drop (p + n)).take n').toArray⟩ : ByteArray) = colonB ∧ (k : Int) = 13
      · obtain ⟨t1, t2, t3⟩ := q3
        have hk13 : OutK k := by unfold OutK; omega
        obtain ⟨_, rfl, _⟩ := step_out s1 hk13
        have hcut : (s.data.toList.drop (p + n)).take n' = [58] := by
          have := congrArg (fun b : ByteArray => b.data.toList) t2
          simpa [colonB] using this
        have hlen : n' = 1 := by
          have := congrArg List.length hcut
          rw [List.length_take, List.length_drop] at this
          simp at this; omega
        subst hlen
        obtain ⟨r, hr⟩ : ∃ r, s.data.toList.drop (p + n) = 58 :: r := by
          cases hd : s.data.toList.drop (p + n) with
          | nil => rw [hd] at hcut; simp at hcut
          | cons c r =>
            rw [hd] at hcut
            simp at hcut
            exact ⟨r, by rw [hcut]⟩
        rw [hr] at s2
        have hk' := step_colon s2
        rw [if_pos ⟨by rw [t1, t2, t3, hk']; rfl, t3, t1⟩, decide_eq_true (.inr (.inr (.inr ⟨t1, t2, t3⟩)))]; rfl
      · have hsp : decide ((k : Int) < 3 ∨ (k' : Int) < 3 ∨ ((k : Int) = 6 ∧ ((k' : Int) = 6 ∨ (k' : Int) = 3)) ∨ ((⟨((s.data.toList.drop p).take n).toArray⟩ : ByteArray) = colonB ∧ (⟨((s.data.toList.drop (p + n)).take n').toArray⟩ : ByteArray) = colonB ∧ (k : Int) = 13)) = false := decide_eq_false (fun e => by
          rcases e with e | e | e | e
          · exact q1 (.inl e)
          · exact q1 (.inr e)
          · exact q2 e
          · exact q3 e)
        rw [if_neg (fun e => q3 ⟨e.2.2, (congrArg Prod.snd e.1).symm.trans e.2.2, e.2.1⟩), hsp]
        by_cases q4 : (7 ≤ (k : Int) ∧ (k : Int) ≤ 11) ∨ (7 ≤ (k' : Int) ∧ (k' : Int) ≤ 11)
        · rw [if_pos q4]; rfl
        · rw [if_neg q4]
          have ht := pair_told (by omega) hu hlt s1 s2 e1 e2 hle hn hn' (by unfold OutK; omega) (by unfold OutK; omega) (tok_append s.data.toList p n n')
          rw [ht, tok_append]
          have a1 : ((s.data.toList.drop p).take (n + n')).take n = (s.data.toList.drop p).take n := by rw [List.take_take, Nat.min_eq_left (by omega)]
          have a2 : (((s.data.toList.drop p).take (n + n')).drop n).take n' = (s.data.toList.drop (p + n)).take n' := by rw [List.drop_take, List.drop_drop, List.take_take, show min n' (n + n' - n) = n' by omega]
          simp [a1, a2]
end Go.Proofs.YtiinhkfbgecbjaaGreatDoor
namespace Go.Proofs.YtiinhkfbgecbjaaGreatDoor
set_option linter.unusedSimpArgs false
set_option linter.unusedVariables false
open Go.RowKit Go.Sub

/-- the state of a line: what is written, and the last token -/
abbrev LineSt := List UInt8 × TokB
def lineStep (st : LineSt) (t : TokB) : LineSt :=
  if t.1 = 1 ∨ t.1 = 2 then st else (st.1 ++ (if tightB st.2 t then [] else [32]) ++ t.2.data.toList, t)
def lineS (xs : List TokB) : LineSt := xs.foldl lineStep ([], (7, ⟨#[]⟩))
def lineL (xs : List TokB) : List UInt8 := (lineS xs).1
theorem lineS_take {xs : List TokB} {n : Nat} {x : TokB} (h : xs[n]? = some x) : lineS (xs.take (n + 1)) = lineStep (lineS (xs.take n)) x := by
  unfold lineS
  rw [List.take_add_one, h, Option.toList_some, List.foldl_append]; rfl
/-- how many bytes there are -/
def sumI (xs : List TokB) : Nat := (xs.map fun x => 1 + x.2.size).sum
theorem sumI_take {xs : List TokB} {n : Nat} {x : TokB} (h : xs[n]? = some x) : sumI (xs.take (n + 1)) = sumI (xs.take n) + (1 + x.2.size) := by
  unfold sumI
  rw [List.take_add_one, h]
  simp
theorem sumI_le (xs : List TokB) (n : Nat) : sumI (xs.take n) ≤ sumI xs := by
  have h : sumI xs = sumI (xs.take n) + sumI (xs.drop n) := by
    unfold sumI
    rw [← List.sum_append, ← List.map_append, List.take_append_drop]
  omega
theorem sumI_mem {xs : List TokB} {x : TokB} (h : x ∈ xs) : 1 + x.2.size ≤ sumI xs := by
  induction xs with
  | nil => cases h
  | cons y ys ih =>
    have e : sumI (y :: ys) = 1 + y.2.size + sumI ys := rfl
    rcases List.mem_cons.1 h with rfl | h
    · omega
    · have := ih h; omega
theorem lineS_size : ∀ (xs : List TokB) (st : LineSt), ((xs.foldl lineStep st).1).length ≤ st.1.length + sumI xs
  | [], st => by simp [sumI]
  | x :: xs, st => by
    have ih := lineS_size xs (lineStep st x)
    have e : sumI (x :: xs) = 1 + x.2.size + sumI xs := rfl
    rw [List.foldl_cons]
    have h1 : (lineStep st x).1.length ≤ st.1.length + (1 + x.2.size) := by
      unfold lineStep
      split
      · omega
      · dsimp only
        rw [List.length_append, List.length_append, ← Lib.size_eq]
        split <;> simp <;> omega
    omega
theorem lineS_last : ∀ (xs : List TokB) (st : LineSt), (xs.foldl lineStep st).2 = st.2 ∨ (xs.foldl lineStep st).2 ∈ xs
  | [], st => .inl rfl
  | x :: xs, st => by
    rw [List.foldl_cons]
    rcases lineS_last xs (lineStep st x) with h | h
    · rw [h]
      unfold lineStep
      split
      · exact .inl rfl
      · exact .inr (by simp)
    · exact .inr (List.mem_cons_of_mem _ h)
/-- tokens by the evaluator, for letters of one byte -/
def tokE (l : List UInt8) : List Tok3 × Nat := if (lexF (l.length + 1) l 0 [] false).2.1 = 0 then ((lexF (l.length + 1) l 0 [] false).1, 0) else ([], (lexF (l.length + 1) l 0 [] false).2.1)
theorem tokE_eq {s : ByteArray} (hs : s.size ≤ 65536) (hu : ∀ b ∈ s.data.toList, b.toNat < 128) : ((tokensN s).1, (tokensN s).2.1) = tokE s.data.toList := by
  obtain ⟨ys, er, a, h⟩ : ∃ ys er a, lexN (s.size + 1) s.data.toList 0 [] false = (ys, er, a) := ⟨_, _, _, rfl⟩
  have ht := tokens_at hs (utf_ascii hu) h
  unfold tokE
  rw [lexF_eq, ← Lib.size_eq, h, ht]
  dsimp only
  by_cases he : er = 0
  · rw [if_pos he, if_pos he]
  · rw [if_neg he, if_neg he]
def tightE (ka : Int) (la : List UInt8) (kb : Int) (lb : List UInt8) : Bool :=
  if ka = 1 ∨ ka = 2 ∨ kb = 1 ∨ kb = 2 then false
  else if ka = 6 ∧ (kb = 6 ∨ kb = 3) then false
  else if ka = kb ∧ la = lb ∧ ka = 13 ∧ la = [58] then false
  else if (7 ≤ ka ∧ ka ≤ 11) ∨ (7 ≤ kb ∧ kb ≤ 11) then true
  else decide ((tokE (la ++ lb)).2 = 0) && decide ((tokE (la ++ lb)).1.map (fun x => ((x.1 : Int), ((la ++ lb).drop x.2.1).take x.2.2)) = [(ka, la), (kb, lb)])
theorem bytes_ext {a b : ByteArray} : a = b ↔ a.data.toList = b.data.toList := by
  constructor
  · rintro rfl; rfl
  · intro h
    cases a; cases b
    simp_all
theorem tight_eval {a b : TokB} (hu : ∀ c ∈ a.2.data.toList ++ b.2.data.toList, c.toNat < 128) (hs : a.2.size + b.2.size ≤ 65536) : tightB a b = tightE a.1 a.2.data.toList b.1 b.2.data.toList := by
  have hd : (a.2 ++ b.2).data.toList = a.2.data.toList ++ b.2.data.toList := by rw [ByteArray.data_append, Array.toList_append]
  have he := tokE_eq (s := a.2 ++ b.2) (by rw [ByteArray.size_append]; exact hs) (by rw [hd]; exact hu)
  rw [hd] at he
  have e1 : (tokensN (a.2 ++ b.2)).1 = (tokE (a.2.data.toList ++ b.2.data.toList)).1 := congrArg Prod.fst he
  have e2 : (tokensN (a.2 ++ b.2)).2.1 = (tokE (a.2.data.toList ++ b.2.data.toList)).2 := congrArg Prod.snd he
  obtain ⟨ka, sa⟩ := a
  obtain ⟨kb, sb⟩ := b
  dsimp only at *
  unfold tightB tightE
  dsimp only
  rw [e1, e2, hd]
  have p3 : ((ka, sa) = (kb, sb) ∧ ka = 13 ∧ sa = colonB) ↔ (ka = kb ∧ sa.data.toList = sb.data.toList ∧ ka = 13 ∧ sa.data.toList = [58]) := by
    rw [Prod.mk.injEq, bytes_ext, bytes_ext (a := sa) (b := colonB), and_assoc]; rfl
  have p4 : (List.map (tokB (sa.data.toList ++ sb.data.toList)) (tokE (sa.data.toList ++ sb.data.toList)).1 = [(ka, sa), (kb, sb)]) ↔ ((tokE (sa.data.toList ++ sb.data.toList)).1.map (fun x => ((x.1 : Int), ((sa.data.toList ++ sb.data.toList).drop x.2.1).take x.2.2)) = [(ka, sa.data.toList), (kb, sb.data.toList)]) := by
    generalize (tokE (sa.data.toList ++ sb.data.toList)).1 = ys
    generalize sa.data.toList ++ sb.data.toList = l
    constructor
    · intro h
      have := congrArg (List.map fun x : TokB => (x.1, x.2.data.toList)) h
      simpa [tokB, Function.comp_def] using this
    · intro h
      have := congrArg (List.map fun x : Int × List UInt8 => (x.1, (⟨x.2.toArray⟩ : ByteArray))) h
      simp only [List.map_map, Function.comp_def, List.map_cons, List.map_nil] at this
      exact this
  simp only [p3, p4]
end Go.Proofs.YtiinhkfbgecbjaaGreatDoor
namespace Go.Proofs.YtiinhkfbgecbjaaGreatDoor
set_option linter.unusedSimpArgs false
set_option linter.unusedVariables false
open Go.RowKit Go.Sub

abbrev TokE := Int × List UInt8
def conv (t : TokB) : TokE := (t.1, t.2.data.toList)
def lineStepE (st : List UInt8 × TokE) (t : TokE) : List UInt8 × TokE :=
  if t.1 = 1 ∨ t.1 = 2 then st else (st.1 ++ (if tightE st.2.1 st.2.2 t.1 t.2 then [] else [32]) ++ t.2, t)
def lineE (xs : List TokE) : List UInt8 := (xs.foldl lineStepE ([], (7, []))).1
def Asc (t : TokB) : Prop := (∀ c ∈ t.2.data.toList, c.toNat < 128) ∧ t.2.size ≤ 1000
theorem line_eval : ∀ (xs : List TokB) (st : LineSt), Asc st.2 → (∀ x ∈ xs, Asc x) → (xs.map conv).foldl lineStepE (st.1, conv st.2) = ((xs.foldl lineStep st).1, conv (xs.foldl lineStep st).2)
  | [], st, _, _ => rfl
  | x :: xs, st, hs, h => by
    have hx := h x (by simp)
    have ht : tightB st.2 x = tightE (conv st.2).1 (conv st.2).2 (conv x).1 (conv x).2 := tight_eval (fun c hc => by
      rcases List.mem_append.1 hc with h | h
      · exact hs.1 c h
      · exact hx.1 c h) (by have := hs.2; have := hx.2; omega)
    have e : lineStepE (st.1, conv st.2) (conv x) = ((lineStep st x).1, conv (lineStep st x).2) := by
      unfold lineStepE lineStep
      rw [ht]
      show (if x.1 = 1 ∨ x.1 = 2 then _ else _) = _
      split
      · rfl
      · rfl
    rw [List.map_cons, List.foldl_cons, List.foldl_cons, e]
    refine line_eval xs (lineStep st x) ?_ fun y hy => h y (List.mem_cons_of_mem _ hy)
    unfold lineStep
    split
    · exact hs
    · exact hx
theorem lineL_eval {xs : List TokB} (h : ∀ x ∈ xs, Asc x) : lineL xs = lineE (xs.map conv) := by
  have := line_eval xs ([], (7, ⟨#[]⟩)) ⟨by simp, by decide⟩ h
  unfold lineL lineE lineS
  rw [show (([] : List UInt8), ((7 : Int), ([] : List UInt8))) = (([] : List UInt8), conv (7, ⟨#[]⟩)) from rfl, this]
def exT : List UInt8 := [49, 32, 32, 43, 32, 46, 32, 32, 46, 32, 97]
def exY : List Tok3 := [(6, 0, 1), (1, 1, 2), (13, 3, 1), (1, 4, 1), (13, 5, 1), (1, 6, 2), (13, 8, 1), (1, 9, 1), (3, 10, 1)]
theorem exT_run : lexN 12 exT 0 [] false = (exY, 0, 11) := by rw [← lexF_eq]; decide +kernel
theorem exT_told : tokensN ⟨exT.toArray⟩ = (exY, 0, 0) := tokens_at (s := ⟨exT.toArray⟩) (by decide) (utf_ascii (by decide)) exT_run
theorem exT_asc : ∀ x ∈ exY.map (tokB exT), Asc x := by
  intro x hx
  obtain ⟨y, hy, rfl⟩ := List.mem_map.1 hx
  refine ⟨fun c hc => ?_, ?_⟩
  · have hm : c ∈ exT := List.mem_of_mem_drop (List.mem_of_mem_take hc)
    exact (show ∀ c ∈ exT, c.toNat < 128 by decide) c hm
  · rw [Lib.size_eq]
    show ((exT.drop y.2.1).take y.2.2).length ≤ 1000
    have : exT.length = 11 := rfl
    rw [List.length_take, List.length_drop]; omega
theorem exT_line : lineL (exY.map (tokB exT)) = [49, 43, 46, 32, 46, 32, 97] := by
  rw [lineL_eval exT_asc]; decide +kernel
def plusB : TokB := (13, ⟨#[43]⟩)
def dotB : TokB := (13, ⟨#[46]⟩)
theorem ex_tight : tightB plusB dotB = true ∧ tightB dotB dotB = false := by
  rw [tight_eval (a := plusB) (b := dotB) (by decide) (by decide), tight_eval (a := dotB) (b := dotB) (by decide) (by decide)]
  decide +kernel
def wordsT : List TokE := [(3, [97]), (3, [97, 110, 100]), (6, [49]), (6, [49, 46, 53])]
def marksT : List TokE := [(13, [40]), (13, [41]), (13, [91]), (13, [93])]
theorem pairs_eval : ∀ x ∈ wordsT, ∀ y ∈ wordsT, ∀ z ∈ marksT, tightE x.1 x.2 y.1 y.2 = false ∧ tightE x.1 x.2 z.1 z.2 = true ∧ tightE z.1 z.2 x.1 x.2 = true ∧ tightE z.1 z.2 z.1 z.2 = true ∧ lineE [x, y, z] = x.2 ++ [32] ++ y.2 ++ z.2 := by decide +kernel
def tokOf (t : TokE) : TokB := (t.1, ⟨t.2.toArray⟩)
theorem conv_tok (t : TokE) : conv (tokOf t) = t := rfl
theorem words_asc : ∀ x ∈ wordsT, Asc (tokOf x) := by
  intro x hx
  simp only [wordsT, List.mem_cons, List.not_mem_nil, or_false] at hx
  rcases hx with rfl | rfl | rfl | rfl <;> exact ⟨by decide, by decide⟩
theorem marks_asc : ∀ x ∈ marksT, Asc (tokOf x) := by
  intro x hx
  simp only [marksT, List.mem_cons, List.not_mem_nil, or_false] at hx
  rcases hx with rfl | rfl | rfl | rfl <;> exact ⟨by decide, by decide⟩
theorem tight_asc {a b : TokE} (ha : Asc (tokOf a)) (hb : Asc (tokOf b)) : tightB (tokOf a) (tokOf b) = tightE a.1 a.2 b.1 b.2 :=
  tight_eval (fun c hc => by
    rcases List.mem_append.1 hc with h | h
    · exact ha.1 c h
    · exact hb.1 c h) (by have := ha.2; have := hb.2; omega)
theorem pairs_law {x y z : TokE} (hx : x ∈ wordsT) (hy : y ∈ wordsT) (hz : z ∈ marksT) : tightB (tokOf x) (tokOf y) = false ∧ tightB (tokOf x) (tokOf z) = true ∧ tightB (tokOf z) (tokOf x) = true ∧ tightB (tokOf z) (tokOf z) = true ∧ lineL [tokOf x, tokOf y, tokOf z] = x.2 ++ [32] ++ y.2 ++ z.2 := by
  have ax := words_asc x hx
  have ay := words_asc y hy
  have az := marks_asc z hz
  rw [tight_asc ax ay, tight_asc ax az, tight_asc az ax, tight_asc az az, lineL_eval (fun t ht => by
    simp only [List.mem_cons, List.not_mem_nil, or_false] at ht
    rcases ht with rfl | rfl | rfl
    · exact ax
    · exact ay
    · exact az)]
  exact pairs_eval x hx y hy z hz
end Go.Proofs.YtiinhkfbgecbjaaGreatDoor
namespace Go.Proofs.YtiinhkfbgecbjaaGreatDoor
set_option linter.unusedSimpArgs false
set_option linter.unusedVariables false
open Go.RowKit Go.Sub

abbrev ItemB := TokB × Nat × List ByteArray
abbrev ItemSt := List ByteArray × List ItemB × Nat
def addNote : List ItemB → ByteArray → List ItemB
  | [], _ => []
  | [x], s => [(x.1, x.2.1, x.2.2 ++ [s])]
  | x :: y :: r, s => x :: addNote (y :: r) s
theorem addNote_snoc (s : ByteArray) (x : ItemB) : ∀ l : List ItemB, addNote (l ++ [x]) s = l ++ [(x.1, x.2.1, x.2.2 ++ [s])]
  | [] => rfl
  | [y] => rfl
  | y :: z :: r => by
    have ih := addNote_snoc s x (z :: r)
    show y :: addNote (z :: (r ++ [x])) s = _
    rw [show z :: (r ++ [x]) = (z :: r) ++ [x] from rfl, ih]; rfl
theorem addNote_length (s : ByteArray) : ∀ l : List ItemB, (addNote l s).length = l.length
  | [] => rfl
  | [_] => rfl
  | x :: y :: r => by
    show (addNote (y :: r) s).length + 1 = (y :: r).length + 1
    rw [addNote_length s (y :: r)]
def plainK (t : TokB) : Bool := decide (t.1 ≠ 1 ∧ t.1 ≠ 2)
def noteK (t : TokB) : Bool := decide (t.1 = 2)
def itStep (st : ItemSt) (t : TokB) : ItemSt :=
  (if t.1 = 2 ∧ st.2.1 = [] then st.1 ++ [t.2] else st.1,
   if t.1 = 1 then st.2.1 else if t.1 = 2 then addNote st.2.1 t.2 else st.2.1 ++ [(t, st.2.2, [])],
   st.2.2 + t.2.size)
def itemsS (xs : List TokB) : ItemSt := xs.foldl itStep ([], [], 0)
theorem itemsS_take {xs : List TokB} {n : Nat} {x : TokB} (h : xs[n]? = some x) : itemsS (xs.take (n + 1)) = itStep (itemsS (xs.take n)) x := by
  unfold itemsS
  rw [List.take_add_one, h, Option.toList_some, List.foldl_append]; rfl
def notesL (xs : List TokB) : List ByteArray := (xs.filter noteK).map (·.2)
def allNotes (st : ItemSt) : List ByteArray := st.1 ++ st.2.1.flatMap (·.2.2)
theorem addNote_notes (s : ByteArray) : ∀ l : List ItemB, l ≠ [] → (addNote l s).flatMap (·.2.2) = l.flatMap (·.2.2) ++ [s]
  | [], h => absurd rfl h
  | [x], _ => by simp [addNote]
  | x :: y :: r, _ => by
    have ih := addNote_notes s (y :: r) (by simp)
    show (x :: addNote (y :: r) s).flatMap (·.2.2) = _
    rw [List.flatMap_cons, ih]; simp
theorem it_notes : ∀ (xs : List TokB) (st : ItemSt), allNotes (xs.foldl itStep st) = allNotes st ++ notesL xs
  | [], st => by simp [notesL]
  | x :: xs, st => by
    rw [List.foldl_cons, it_notes xs (itStep st x)]
    have e : allNotes (itStep st x) = allNotes st ++ notesL [x] := by
      unfold allNotes itStep notesL noteK
      by_cases h1 : x.1 = 1
      · have h2 : ¬ x.1 = 2 := by omega
        simp [h1, h2]
      · by_cases h2 : x.1 = 2
        · by_cases h3 : st.2.1 = []
          · simp [h1, h2, h3, addNote]
          · have := addNote_notes x.2 st.2.1 h3
            simp [h2, h3, this]
        · simp [h1, h2]
    rw [e, List.append_assoc]
    congr 1
    unfold notesL
    rw [← List.map_append, ← List.filter_append]; rfl
theorem items_notes (xs : List TokB) : (itemsS xs).1 ++ (itemsS xs).2.1.flatMap (·.2.2) = notesL xs := by
  have := it_notes xs ([], [], 0)
  unfold allNotes at this
  simpa [itemsS] using this
theorem it_count : ∀ (xs : List TokB) (st : ItemSt), (xs.foldl itStep st).2.1.length = st.2.1.length + (xs.filter plainK).length
  | [], st => by simp
  | x :: xs, st => by
    rw [List.foldl_cons, it_count xs (itStep st x)]
    have e : (itStep st x).2.1.length = st.2.1.length + ([x].filter plainK).length := by
      unfold itStep plainK
      by_cases h1 : x.1 = 1
      · simp [h1]
      · by_cases h2 : x.1 = 2
        · simp [h2, addNote_length]
        · simp [h1, h2]
    rw [e, Nat.add_assoc, ← List.length_append, ← List.filter_append]; rfl
theorem items_count (xs : List TokB) : (itemsS xs).2.1.length = (xs.filter plainK).length := by
  have := it_count xs ([], [], 0)
  simpa [itemsS] using this
theorem items_lead {xs : List TokB} (h : (itemsS xs).2.1 = []) : (itemsS xs).1 = notesL xs := by
  have := items_notes xs
  rw [h] at this
  simpa using this
theorem it_at : ∀ n (xs : List TokB), n ≤ xs.length → (itemsS (xs.take n)).2.2 = (joinL (xs.take n)).length
  | 0, _, _ => rfl
  | n + 1, xs, h => by
    obtain ⟨x, hx⟩ : ∃ x, xs[n]? = some x := ⟨_, List.getElem?_eq_getElem (by omega)⟩
    have ih := it_at n xs (by omega)
    rw [itemsS_take hx, joinL_take hx, List.length_append, ← ih, ← Lib.size_eq]; rfl
theorem addNote_mem (s : ByteArray) : ∀ (l : List ItemB) (x : ItemB), x ∈ addNote l s → ∃ y ∈ l, x.1 = y.1 ∧ x.2.1 = y.2.1
  | [], x, h => by cases h
  | [y], x, h => by
    obtain rfl := List.mem_singleton.1 h
    exact ⟨y, by simp, rfl, rfl⟩
  | y :: z :: r, x, h => by
    rcases List.mem_cons.1 h with rfl | h
    · exact ⟨x, by simp, rfl, rfl⟩
    · obtain ⟨q, hq, e⟩ := addNote_mem s (z :: r) x h
      exact ⟨q, List.mem_cons_of_mem _ hq, e⟩
/-- where each item stands -/
theorem items_at : ∀ n (xs : List TokB), n ≤ xs.length → ∀ x ∈ (itemsS (xs.take n)).2.1, ∃ j, j < n ∧ xs[j]? = some x.1 ∧ x.2.1 = (joinL (xs.take j)).length ∧ plainK x.1 = true
  | 0, _, _, x, hx => by simp [itemsS] at hx
  | n + 1, xs, h, x, hx => by
    obtain ⟨t, ht⟩ : ∃ x, xs[n]? = some x := ⟨_, List.getElem?_eq_getElem (by omega)⟩
    have ih := items_at n xs (by omega)
    rw [itemsS_take ht] at hx
    have ha := it_at n xs (by omega)
    generalize itemsS (xs.take n) = st at hx ih ha
    unfold itStep at hx
    by_cases h1 : t.1 = 1
    · simp only [h1, if_pos] at hx
      obtain ⟨j, hj, e⟩ := ih x hx
      exact ⟨j, by omega, e⟩
    · by_cases h2 : t.1 = 2
      · rw [if_neg h1, if_pos h2] at hx
        obtain ⟨y, hy, e1, e2⟩ := addNote_mem _ _ _ hx
        obtain ⟨j, hj, e⟩ := ih y hy
        exact ⟨j, by omega, by rw [e1, e2]; exact e⟩
      · rw [if_neg h1, if_neg h2] at hx
        rcases List.mem_append.1 hx with hx | hx
        · obtain ⟨j, hj, e⟩ := ih x hx
          exact ⟨j, by omega, e⟩
        · obtain rfl := List.mem_singleton.1 hx
          exact ⟨n, by omega, ht, ha, by unfold plainK; exact decide_eq_true ⟨h1, h2⟩⟩
theorem join_at {xs : List TokB} {j : Nat} {x : TokB} (h : xs[j]? = some x) : ((joinL xs).drop (joinL (xs.take j)).length).take x.2.size = x.2.data.toList ∧ (joinL (xs.take j)).length + x.2.size ≤ (joinL xs).length := by
  have e : joinL xs = joinL (xs.take j) ++ (x.2.data.toList ++ joinL (xs.drop (j + 1))) := by
    have h1 : xs = xs.take j ++ (x :: xs.drop (j + 1)) := by
      obtain ⟨hj, rfl⟩ := List.getElem?_eq_some_iff.1 h
      rw [← List.drop_eq_getElem_cons hj, List.take_append_drop]
    have h2 : joinL (xs.take j ++ (x :: xs.drop (j + 1))) = joinL (xs.take j) ++ (x.2.data.toList ++ joinL (xs.drop (j + 1))) := by
      unfold joinL
      rw [List.map_append, List.flatten_append, List.map_cons, List.flatten_cons]
    exact (congrArg joinL h1).trans h2
  constructor
  · conv => lhs; rw [e]
    rw [List.drop_left, Lib.size_eq, List.take_left]
  · rw [e, List.length_append, List.length_append, ← Lib.size_eq]; omega
end Go.Proofs.YtiinhkfbgecbjaaGreatDoor
namespace Go.Proofs.YtiinhkfbgecbjaaGreatDoor
set_option linter.unusedSimpArgs false
set_option linter.unusedVariables false
open Go.RowKit Go.Sub

def itC (x : ItemB) (u : Value) : List Value := [.int .i64 x.1.1, .string x.1.2, .int .i64 (x.2.1 : Int), u]
def itemsC : List ItemB → List Value → List Value
  | x :: xs, u :: us => itC x u ++ itemsC xs us
  | _, _ => []
def strC (l : List ByteArray) : List Value := l.map .string
theorem itemsC_len : ∀ (xs : List ItemB) (us : List Value), us.length = xs.length → (itemsC xs us).length = xs.length * 4
  | [], [], _ => rfl
  | x :: xs, u :: us, h => by
    have ih := itemsC_len xs us (by simpa using h)
    rw [itemsC, List.length_append, ih, List.length_cons]
    show 4 + _ = _
    omega
theorem itemsC_snoc (x : ItemB) (u : Value) : ∀ (xs : List ItemB) (us : List Value), us.length = xs.length → itemsC (xs ++ [x]) (us ++ [u]) = itemsC xs us ++ itC x u
  | [], [], _ => rfl
  | y :: xs, t :: us, h => by
    have ih := itemsC_snoc x u xs us (by simpa using h)
    show itC y t ++ itemsC (xs ++ [x]) (us ++ [u]) = _
    rw [ih, ← List.append_assoc]; rfl
theorem itemsC_get : ∀ {xs : List ItemB} {us : List Value} {i : Nat} {x : ItemB} {u : Value}, xs[i]? = some x → us[i]? = some u → (itemsC xs us)[i * 4]? = some (.int .i64 x.1.1) ∧ (itemsC xs us)[i * 4 + 1]? = some (.string x.1.2) ∧ (itemsC xs us)[i * 4 + 2]? = some (.int .i64 (x.2.1 : Int)) ∧ (itemsC xs us)[i * 4 + 3]? = some u
  | [], _, i, x, u, h, _ => by simp at h
  | _ :: _, [], i, x, u, _, h => by simp at h
  | y :: xs, t :: us, 0, x, u, h, h2 => by
    obtain rfl : y = x := by simpa using h
    obtain rfl : t = u := by simpa using h2
    exact ⟨rfl, rfl, rfl, rfl⟩
  | y :: xs, t :: us, i + 1, x, u, h, h2 => by
    obtain ⟨e0, e1, e2, e3⟩ := itemsC_get (xs := xs) (us := us) (i := i) (x := x) (u := u) (by simpa using h) (by simpa using h2)
    have e : itemsC (y :: xs) (t :: us) = .int .i64 y.1.1 :: .string y.1.2 :: .int .i64 (y.2.1 : Int) :: t :: itemsC xs us := rfl
    have ee : ∀ r, (itemsC (y :: xs) (t :: us))[(i + 1) * 4 + r]? = (itemsC xs us)[i * 4 + r]? := fun r => by
      rw [e, show (i + 1) * 4 + r = (i * 4 + r) + 1 + 1 + 1 + 1 by omega]
      simp only [List.getElem?_cons_succ]
    exact ⟨by rw [← e0]; exact ee 0, by rw [← e1]; exact ee 1, by rw [← e2]; exact ee 2, by rw [← e3]; exact ee 3⟩
/-- a cell of a row set -/
theorem row_set {w : World} {base g n cap size : Nat} {e : TypeId} {xs : List Value} (h : w.ownsRow base e size (.slice (some ⟨g, 0, none⟩) n cap) n xs) (j : Nat) (hj : j < xs.length) (c : Value) :
    w.frozen? ⟨g, j, none⟩ = false ∧ (w.setCell ⟨g, j, none⟩ c).ownsRow base e size (.slice (some ⟨g, 0, none⟩) n cap) n (xs.set j c) := by
  rcases h.2 with ⟨h1, _⟩ | ⟨g', cap', cur, h1, h2, h3, h4, h5, h6, h7⟩
  · cases h1
  · cases h1
    refine ⟨frozen_of_row w g _ _ _ h3, by rw [List.length_set]; exact h.1, .inr ⟨g, cap, cur.setIfInBounds j c, rfl, h2, heap_setCell_same w g _ _ _ _ h3, h4, h5, by rw [Array.size_setIfInBounds]; exact h6, ?_⟩⟩
    rw [Array.toList_setIfInBounds, List.take_set, h7]
theorem apart_types {w : World} {b1 b2 : Nat} {e1 e2 : TypeId} {s1 s2 : Nat} {v1 v2 : Value} {n1 n2 : Nat} {x1 x2 : List Value} (h1 : w.ownsRow b1 e1 s1 v1 n1 x1) (h2 : w.ownsRow b2 e2 s2 v2 n2 x2) (he : e1 ≠ e2) : ∀ g, some g = v1.ownBlock → ¬ some g = v2.ownBlock := by
  intro g hg hg2
  rcases h1.2 with ⟨rfl, _⟩ | ⟨g1, c1, cur1, rfl, _, hb1, _⟩
  · cases hg
  · rcases h2.2 with ⟨rfl, _⟩ | ⟨g2, c2, cur2, rfl, _, hb2, _⟩
    · cases hg2
    · cases hg; cases hg2
      rw [hb1] at hb2
      simp only [Option.some.injEq, Obj.cells.injEq] at hb2
      exact he hb2.2.1
structure ItemsAt (w : World) (base : Nat) (e : TypeId) (v vl : Value) (st : ItemSt) (us : List Value) : Prop where
  len : us.length = st.2.1.length
  row : w.ownsRow base e 4 v st.2.1.length (itemsC st.2.1 us)
  notes : ∀ (i : Nat) (x : ItemB) (u : Value), st.2.1[i]? = some x → us[i]? = some u → w.ownsRow base 9 1 u x.2.2.length (strC x.2.2)
  apart : ∀ (i j : Nat) (u t : Value), i < j → us[i]? = some u → us[j]? = some t → ∀ g, some g = u.ownBlock → ¬ some g = t.ownBlock
  lead : w.ownsRow base 9 1 vl st.1.length (strC st.1)
  free : ∀ (i : Nat) (u : Value), us[i]? = some u → ∀ g, some g = vl.ownBlock → ¬ some g = u.ownBlock
variable {w w' : World} {base : Nat} {e : TypeId} {v vl : Value} {st : ItemSt} {us : List Value}
theorem ItemsAt.note_at (h : ItemsAt w base e v vl st us) {i : Nat} {u : Value} (hu : us[i]? = some u) : ∃ x, st.2.1[i]? = some x ∧ w.ownsRow base 9 1 u x.2.2.length (strC x.2.2) := by
  have hi : i < st.2.1.length := by rw [← h.len]; exact (List.getElem?_eq_some_iff.1 hu).1
  obtain ⟨x, hx⟩ : ∃ x, st.2.1[i]? = some x := ⟨_, List.getElem?_eq_getElem hi⟩
  exact ⟨x, hx, h.notes i x u hx hu⟩
theorem ItemsAt.keeps (h : ItemsAt w base e v vl st us) {O : Nat → Prop} (k : Keeps O w w') (hv : ∀ g, some g = v.ownBlock → ¬ O g) (hl : ∀ g, some g = vl.ownBlock → ¬ O g) (hn : ∀ (i : Nat) (u : Value), us[i]? = some u → ∀ g, some g = u.ownBlock → ¬ O g) : ItemsAt w' base e v vl st us :=
  ⟨h.len, ownsRow_keeps h.row k hv, fun i x u hx hu => ownsRow_keeps (h.notes i x u hx hu) k (hn i u hu), h.apart, ownsRow_keeps h.lead k hl, h.free⟩
theorem ItemsAt.start (w : World) (base : Nat) (e : TypeId) : ItemsAt w base e (.slice none 0 0) (.slice none 0 0) ([], [], 0) [] :=
  ⟨rfl, World.ownsRow_nil _ _ _ _, fun i x u h => by simp at h, fun i j u t _ h => by simp at h, World.ownsRow_nil _ _ _ _, fun i u h => by simp at h⟩
/-- a token that counts -/
theorem ItemsAt.put (h : ItemsAt w base e v vl st us) (he : e ≠ 9) {t : TokB} {v' : Value} {at2 : Nat} (hr : w'.ownsRow base e 4 v' (st.2.1.length + 1) (itemsC st.2.1 us ++ itC (t, st.2.2, []) (.slice none 0 0))) (hk : Keeps (fun b => some b = v.ownBlock) w w') :
    ItemsAt w' base e v' vl (st.1, st.2.1 ++ [(t, st.2.2, [])], at2) (us ++ [.slice none 0 0]) := by
  refine ⟨by simp [h.len], ?_, ?_, ?_, ownsRow_keeps h.lead hk fun g hg hg2 => apart_types h.row h.lead he g hg2 hg, ?_⟩
  · rw [itemsC_snoc _ _ _ _ h.len, List.length_append]; exact hr
  · intro i x u hx hu
    by_cases hi : i < us.length
    · rw [List.getElem?_append_left (by rw [← h.len]; exact hi)] at hx
      rw [List.getElem?_append_left hi] at hu
      have hn := h.notes i x u hx hu
      exact ownsRow_keeps hn hk fun g hg hg2 => apart_types h.row hn he g hg2 hg
    · have hj : i = us.length := by
        have := (List.getElem?_eq_some_iff.1 hu).1
        rw [List.length_append, List.length_singleton] at this
        omega
      rw [hj, List.getElem?_append_right (Nat.le_refl _), Nat.sub_self] at hu
      rw [hj, h.len, List.getElem?_append_right (Nat.le_refl _), Nat.sub_self] at hx
      obtain rfl : (t, st.2.2, []) = x := by simpa using hx
      obtain rfl : Value.slice none 0 0 = u := by simpa using hu
      exact World.ownsRow_nil _ _ _ _
  · intro i j u t2 hij hu ht g hg hg2
    by_cases hj : j < us.length
    · rw [List.getElem?_append_left (by omega)] at hu
      rw [List.getElem?_append_left hj] at ht
      exact h.apart i j u t2 hij hu ht g hg hg2
    · have hj2 : j = us.length := by
        have := (List.getElem?_eq_some_iff.1 ht).1
        rw [List.length_append, List.length_singleton] at this
        omega
      rw [hj2, List.getElem?_append_right (Nat.le_refl _), Nat.sub_self] at ht
      obtain rfl : Value.slice none 0 0 = t2 := by simpa using ht
      cases hg2
  · intro i u hu g hg hg2
    by_cases hi : i < us.length
    · rw [List.getElem?_append_left hi] at hu
      exact h.free i u hu g hg hg2
    · have hj : i = us.length := by
        have := (List.getElem?_eq_some_iff.1 hu).1
        rw [List.length_append, List.length_singleton] at this
        omega
      rw [hj, List.getElem?_append_right (Nat.le_refl _), Nat.sub_self] at hu
      obtain rfl : Value.slice none 0 0 = u := by simpa using hu
      cases hg2
/-- a note ahead of all -/
theorem ItemsAt.ahead (h : ItemsAt w base e v vl st us) (he : e ≠ 9) (h0 : st.2.1 = []) {s : ByteArray} {vl' : Value} {at2 : Nat} (hr : w'.ownsRow base 9 1 vl' (st.1.length + 1) (strC st.1 ++ [.string s])) (hk : Keeps (fun b => some b = vl.ownBlock) w w') :
    ItemsAt w' base e v vl' (st.1 ++ [s], st.2.1, at2) us := by
  have hus : us = [] := List.length_eq_zero_iff.1 (by rw [h.len, h0]; rfl)
  subst hus
  refine ⟨h.len, ownsRow_keeps h.row hk fun g hg hg2 => apart_types h.row h.lead he g hg hg2, fun i x u _ hu => by simp at hu, fun i j u t _ hu => by simp at hu, ?_, fun i u hu => by simp at hu⟩
  rw [List.length_append]
  show w'.ownsRow base 9 1 vl' (st.1.length + 1) (strC (st.1 ++ [s]))
  unfold strC at *
  rw [List.map_append]
  exact hr
/-- a note behind the last one -/
theorem ItemsAt.behind {pre : List ItemB} {x : ItemB} {pus : List Value} {u : Value} {lead : List ByteArray} {at1 : Nat} {g cap : Nat} (h : ItemsAt w base e (.slice (some ⟨g, 0, none⟩) (pre.length + 1) cap) vl (lead, pre ++ [x], at1) (pus ++ [u])) (hp : pus.length = pre.length) (he : e ≠ 9) {s : ByteArray} {u' : Value} {at2 : Nat}
    (hr : w'.ownsRow base 9 1 u' (x.2.2.length + 1) (strC x.2.2 ++ [.string s])) (hk : Keeps (fun b => some b = u.ownBlock) w w') (hnew : u'.ownBlock = u.ownBlock ∨ ∃ q, u'.ownBlock = some q ∧ w.heap.size ≤ q) :
    w'.cell? ⟨g, pre.length * 4 + 3, none⟩ = some u ∧ w'.frozen? ⟨g, pre.length * 4 + 3, none⟩ = false ∧ ItemsAt (w'.setCell ⟨g, pre.length * 4 + 3, none⟩ u') base e (.slice (some ⟨g, 0, none⟩) (pre.length + 1) cap) vl (lead, pre ++ [(x.1, x.2.1, x.2.2 ++ [s])], at2) (pus ++ [u']) ∧ w.cell? ⟨g, pre.length * 4 + 3, none⟩ = some u := by
  have hu : (pus ++ [u])[pre.length]? = some u := by rw [← hp, List.getElem?_append_right (Nat.le_refl _), Nat.sub_self]; rfl
  have hx : (pre ++ [x])[pre.length]? = some x := by rw [List.getElem?_append_right (Nat.le_refl _), Nat.sub_self]; rfl
  have hun := h.notes pre.length x u hx hu
  have hlt : ∀ (i : Nat) (t : Value), (pus ++ [u])[i]? = some t → ∀ q, some q = t.ownBlock → q < w.heap.size := fun i t ht q hq => by
    obtain ⟨y, _, hy⟩ := h.note_at ht
    exact (hy.lt q hq.symm).2
  have hrow0 := h.row
  rw [show (pre ++ [x] : List ItemB).length = pre.length + 1 by simp] at hrow0
  have hrow : w'.ownsRow base e 4 (.slice (some ⟨g, 0, none⟩) (pre.length + 1) cap) (pre.length + 1) (itemsC (pre ++ [x]) (pus ++ [u])) := ownsRow_keeps hrow0 hk fun q hq hq2 => apart_types h.row hun he q hq hq2
  have hil : (itemsC (pre ++ [x]) (pus ++ [u])).length = (pre.length + 1) * 4 := by rw [itemsC_len _ _ (by simp [hp])]; simp
  have hcell := (itemsC_get hx hu).2.2.2
  have hget : ∀ {W : World}, W.ownsRow base e 4 (.slice (some ⟨g, 0, none⟩) (pre.length + 1) cap) (pre.length + 1) (itemsC (pre ++ [x]) (pus ++ [u])) → W.cell? ⟨g, pre.length * 4 + 3, none⟩ = some u := fun hr => by
    have h2 := hr.cells (g := g) rfl _ _ hcell
    rwa [show (⟨g, 0, none⟩ : Addr).add (pre.length * 4 + 3) = ⟨g, pre.length * 4 + 3, none⟩ by unfold Addr.add; split <;> simp_all] at h2
  obtain ⟨hf, hset⟩ := row_set hrow (pre.length * 4 + 3) (by rw [hil]; omega) u'
  have ks : Keeps (fun b => b = g) w' (w'.setCell ⟨g, pre.length * 4 + 3, none⟩ u') := keeps_setCell w' g _ u' rfl
  have hne : ∀ {n : Nat} {t : Value} {xs : List Value}, w'.ownsRow base 9 1 t n xs → ∀ q, some q = t.ownBlock → ¬ q = g := fun ht q hq e2 => apart_types hrow ht he g (by rfl) (by rw [← e2]; exact hq)
  refine ⟨hget hrow, hf, ⟨by simp [hp], ?_, ?_, ?_, ?_, ?_⟩, hget hrow0⟩
  · have e1 : (itemsC (pre ++ [x]) (pus ++ [u])).set (pre.length * 4 + 3) u' = itemsC (pre ++ [(x.1, x.2.1, x.2.2 ++ [s])]) (pus ++ [u']) := by
      rw [itemsC_snoc _ _ _ _ hp, itemsC_snoc _ _ _ _ hp, List.set_append_right _ _ (by rw [itemsC_len _ _ hp]; omega), itemsC_len _ _ hp, show pre.length * 4 + 3 - pre.length * 4 = 3 by omega]
      rfl
    rw [e1] at hset
    rw [show (pre ++ [(x.1, x.2.1, x.2.2 ++ [s])] : List ItemB).length = pre.length + 1 by simp]
    exact hset
  · intro i y t hy ht
    by_cases hi : i < pre.length
    · rw [List.getElem?_append_left hi] at hy
      rw [List.getElem?_append_left (by omega)] at ht
      have ht0 : (pus ++ [u])[i]? = some t := by rw [List.getElem?_append_left (by omega)]; exact ht
      have hn := h.notes i y t (by rw [List.getElem?_append_left hi]; exact hy) ht0
      have hn1 := ownsRow_keeps hn hk fun q hq hq2 => h.apart i pre.length t u hi ht0 hu q hq hq2
      exact ownsRow_keeps hn1 ks (hne hn1)
    · have hj : i = pre.length := by
        have := (List.getElem?_eq_some_iff.1 hy).1
        rw [List.length_append, List.length_singleton] at this
        omega
      subst hj
      rw [List.getElem?_append_right (Nat.le_refl _), Nat.sub_self] at hy
      rw [← hp, List.getElem?_append_right (Nat.le_refl _), Nat.sub_self] at ht
      obtain rfl : (x.1, x.2.1, x.2.2 ++ [s]) = y := by simpa using hy
      obtain rfl : u' = t := by simpa using ht
      have hr2 : w'.ownsRow base 9 1 u' (x.2.2 ++ [s]).length (strC (x.2.2 ++ [s])) := by
        unfold strC at *
        rw [List.length_append, List.map_append]; exact hr
      exact ownsRow_keeps hr2 ks (hne hr2)
  · intro i j a b hij ha hb q hq hq2
    have hjl : j ≤ pre.length := by
      have := (List.getElem?_eq_some_iff.1 hb).1
      rw [List.length_append, List.length_singleton, hp] at this
      omega
    rw [List.getElem?_append_left (by omega)] at ha
    have ha0 : (pus ++ [u])[i]? = some a := by rw [List.getElem?_append_left (by omega)]; exact ha
    by_cases hj : j < pre.length
    · rw [List.getElem?_append_left (by omega)] at hb
      exact h.apart i j a b hij ha0 (by rw [List.getElem?_append_left (by omega)]; exact hb) q hq hq2
    · have hj2 : j = pus.length := by omega
      rw [hj2, List.getElem?_append_right (Nat.le_refl _), Nat.sub_self] at hb
      obtain rfl : u' = b := by simpa using hb
      rcases hnew with hn | ⟨q', hn, hq'⟩
      · exact h.apart i pre.length a u (by omega) ha0 hu q hq (by rw [← hn]; exact hq2)
      · have := hlt i a ha0 q hq
        rw [hn] at hq2
        cases hq2
        omega
  · have hl1 : w'.ownsRow base 9 1 vl lead.length (strC lead) := ownsRow_keeps h.lead hk fun q hq hq2 => h.free pre.length u hu q hq hq2
    exact ownsRow_keeps hl1 ks (hne hl1)
  · intro i t ht q hq hq2
    by_cases hi : i < pus.length
    · rw [List.getElem?_append_left hi] at ht
      exact h.free i t (by rw [List.getElem?_append_left hi]; exact ht) q hq hq2
    · have hj : i = pus.length := by
        have := (List.getElem?_eq_some_iff.1 ht).1
        rw [List.length_append, List.length_singleton] at this
        omega
      rw [hj, List.getElem?_append_right (Nat.le_refl _), Nat.sub_self] at ht
      obtain rfl : u' = t := by simpa using ht
      rcases hnew with hn | ⟨q', hn, hq'⟩
      · exact h.free pre.length u hu q hq (by rw [← hn]; exact hq2)
      · have := (h.lead.lt q hq.symm).2
        rw [hn] at hq2
        cases hq2
        omega
end Go.Proofs.YtiinhkfbgecbjaaGreatDoor
namespace Go.Proofs.YtiinhkfbgecbjaaGreatDoor
set_option linter.unusedSimpArgs false
set_option linter.unusedVariables false
open Go.RowKit Go.Sub

def StrRow (w : World) (u : Value) (ns : List ByteArray) : Prop := ∃ p cap, u = .slice p ns.length cap ∧ ns.length ≤ 4611686018427387904 ∧ ∀ (k : Nat) (s : ByteArray), ns[k]? = some s → ∃ b o, p = some ⟨b, o, none⟩ ∧ w.cell? ⟨b, o + k, none⟩ = some (.string s)
theorem StrRow.below {w w' : World} {u : Value} {ns : List ByteArray} (h : StrRow w u ns) (hb : Below w.heap.size w w') : StrRow w' u ns := by
  obtain ⟨p, cap, h1, h2, h3⟩ := h
  refine ⟨p, cap, h1, h2, fun k s hs => ?_⟩
  obtain ⟨b, o, e, c⟩ := h3 k s hs
  exact ⟨b, o, e, (hb.cell (World.block_lt_of_cell? _ _ c)).trans c⟩
theorem strRow_own {w : World} {base : Nat} {e : TypeId} {u : Value} {ns : List ByteArray} (h : w.ownsRow base e 1 u ns.length (strC ns)) (hl : ns.length ≤ 4611686018427387904) : StrRow w u ns := by
  obtain ⟨h1, h2⟩ := h
  rcases h2 with ⟨rfl, h0⟩ | ⟨g, cap, cur, rfl, h3⟩
  · have : ns = [] := List.length_eq_zero_iff.1 h0
    subst this
    exact ⟨none, 0, rfl, by simp, fun i x hx => by simp at hx⟩
  · refine ⟨some ⟨g, 0, none⟩, cap, rfl, hl, fun k s hs => ⟨g, 0, rfl, ?_⟩⟩
    have hrow : w.ownsRow base e 1 (.slice (some ⟨g, 0, none⟩) ns.length cap) ns.length (strC ns) := ⟨h1, .inr ⟨g, cap, cur, rfl, h3⟩⟩
    rw [Nat.zero_add]
    exact row_cells hrow k (by unfold strC; rw [List.getElem?_map, hs]; rfl)
def ItemRow (w : World) (v : Value) (out : List ItemB) : Prop := ∃ p cap, v = .slice p out.length cap ∧ out.length ≤ 4611686018427387904 ∧ ∀ (i : Nat) (x : ItemB), out[i]? = some x → ∃ b o u, p = some ⟨b, o, none⟩ ∧
  w.cell? ⟨b, o + i * 4, none⟩ = some (.int .i64 x.1.1) ∧ w.cell? ⟨b, o + i * 4 + 1, none⟩ = some (.string x.1.2) ∧ w.cell? ⟨b, o + i * 4 + 2, none⟩ = some (.int .i64 (x.2.1 : Int)) ∧ w.cell? ⟨b, o + i * 4 + 3, none⟩ = some u ∧ StrRow w u x.2.2
theorem ItemRow.below {w w' : World} {v : Value} {out : List ItemB} (h : ItemRow w v out) (hb : Below w.heap.size w w') : ItemRow w' v out := by
  obtain ⟨p, cap, h1, h2, h3⟩ := h
  refine ⟨p, cap, h1, h2, fun i x hx => ?_⟩
  obtain ⟨b, o, u, e, c0, c1, c2, c3, hn⟩ := h3 i x hx
  have cc : ∀ {a : Addr} {c : Value}, w.cell? a = some c → w'.cell? a = some c := fun h => (hb.cell (World.block_lt_of_cell? _ _ h)).trans h
  exact ⟨b, o, u, e, cc c0, cc c1, cc c2, cc c3, hn.below hb⟩
theorem itemRow_own {w : World} {base : Nat} {e : TypeId} {v vl : Value} {st : ItemSt} {us : List Value} (h : ItemsAt w base e v vl st us) (hl : st.2.1.length ≤ 4611686018427387904) (hn : ∀ x ∈ st.2.1, x.2.2.length ≤ 4611686018427387904) : ItemRow w v st.2.1 := by
  have hr := h.row
  obtain ⟨h1, h2⟩ := hr
  rcases h2 with ⟨e1, h0⟩ | ⟨g, cap, cur, e1, h3⟩
  · have : st.2.1 = [] := List.length_eq_zero_iff.1 h0
    rw [this]
    exact ⟨none, 0, e1, by simp, fun i x hx => by simp at hx⟩
  · refine ⟨some ⟨g, 0, none⟩, cap, e1, hl, fun i x hx => ?_⟩
    have hi : i < us.length := by rw [h.len]; exact (List.getElem?_eq_some_iff.1 hx).1
    obtain ⟨u, hu⟩ : ∃ u, us[i]? = some u := ⟨_, List.getElem?_eq_getElem hi⟩
    obtain ⟨c0, c1, c2, c3⟩ := itemsC_get hx hu
    have hrow : w.ownsRow base e 4 (.slice (some ⟨g, 0, none⟩) st.2.1.length cap) st.2.1.length (itemsC st.2.1 us) := ⟨h1, .inr ⟨g, cap, cur, rfl, h3⟩⟩
    exact ⟨g, 0, u, rfl, by rw [Nat.zero_add]; exact row_cells hrow _ c0, by rw [Nat.zero_add]; exact row_cells hrow _ c1, by rw [Nat.zero_add]; exact row_cells hrow _ c2, by rw [Nat.zero_add]; exact row_cells hrow _ c3, strRow_own (h.notes i x u hx hu) (hn x (List.mem_of_getElem? hx))⟩
/-- how much there is: no list of notes is longer than the tokens -/
theorem addNote_each (s : ByteArray) (n : Nat) : ∀ l : List ItemB, (∀ x ∈ l, x.2.2.length ≤ n) → ∀ x ∈ addNote l s, x.2.2.length ≤ n + 1
  | [], _, x, h => by cases h
  | [y], hl, x, h => by
    obtain rfl := List.mem_singleton.1 h
    have := hl y (by simp)
    simp; omega
  | y :: z :: r, hl, x, h => by
    rcases List.mem_cons.1 h with rfl | h
    · have := hl x (by simp); omega
    · exact addNote_each s n (z :: r) (fun q hq => hl q (List.mem_cons_of_mem _ hq)) x h
theorem items_small : ∀ (xs : List TokB) (st : ItemSt) (n : Nat), st.1.length ≤ n → st.2.1.length ≤ n → (∀ x ∈ st.2.1, x.2.2.length ≤ n) → (xs.foldl itStep st).1.length ≤ n + xs.length ∧ (xs.foldl itStep st).2.1.length ≤ n + xs.length ∧ ∀ x ∈ (xs.foldl itStep st).2.1, x.2.2.length ≤ n + xs.length
  | [], st, n, h1, h2, h3 => ⟨h1, h2, h3⟩
  | t :: xs, st, n, h1, h2, h3 => by
    have ih := items_small xs (itStep st t) (n + 1) ?_ ?_ ?_
    · rw [List.foldl_cons, List.length_cons, show n + (xs.length + 1) = n + 1 + xs.length by omega]
      exact ih
    · unfold itStep
      dsimp only
      split
      · rw [List.length_append]; simp; omega
      · omega
    · unfold itStep
      dsimp only
      split
      · omega
      · split
        · rw [addNote_length]; omega
        · rw [List.length_append]; simp; omega
    · unfold itStep
      dsimp only
      split
      · intro x hx; have := h3 x hx; omega
      · split
        · exact addNote_each _ _ _ h3
        · intro x hx
          rcases List.mem_append.1 hx with h | h
          · have := h3 x h; omega
          · obtain rfl := List.mem_singleton.1 h
            simp
end Go.Proofs.YtiinhkfbgecbjaaGreatDoor
namespace Go.Proofs.YtiinhkfbgecbjaaGreatDoor
set_option linter.unusedSimpArgs false
set_option linter.unusedVariables false
open Go.RowKit Go.Sub

theorem step_err (l : List UInt8) (st : List Nat) (inn : Bool) : (stepN l st inn).2.2.2.2 ≤ 21 := by
  unfold stepN
  split
  · unfold insN
    repeat' split
    all_goals simp
  · unfold outN
    split <;> simp
theorem lexN_err : ∀ (F : Nat) (l : List UInt8) (a : Nat) (st : List Nat) (inn : Bool), (lexN F l a st inn).2.1 ≤ 99
  | 0, _, _, _, _ => Nat.le_refl _
  | F + 1, l, a, st, inn => by
    unfold lexN
    split
    · dsimp only
      split <;> omega
    · have h := step_err (l.drop a) st inn
      generalize stepN (l.drop a) st inn = r at h
      obtain ⟨k, n, st2, inn2, e⟩ := r
      cases e with
      | zero => exact lexN_err F l _ _ _
      | succ e => dsimp only at h ⊢; omega
theorem tokensN_facts (s : ByteArray) : (tokensN s).2.1 ≤ 99 ∧ (tokensN s).1.length ≤ s.size := by
  unfold tokensN
  split
  · exact ⟨by decide, by simp⟩
  · split
    · exact ⟨by show 10 ≤ 99; omega, by simp⟩
    · obtain ⟨ys, b, st2, inn2, er, h1, h2, h3⟩ := lex_whole s.data.toList
      have he := lexN_err (s.data.toList.length + 1) s.data.toList 0 [] false
      rw [← Lib.size_eq] at h2 he
      have hf := reach_facts h1
      rw [← Lib.size_eq] at hf
      rw [h2] at he ⊢
      split
      · exact ⟨by simp, by dsimp only; omega⟩
      · exact ⟨he, by simp⟩
end Go.Proofs.YtiinhkfbgecbjaaGreatDoor
namespace Go.Proofs.YtiinhkfbgecbjaaGreatDoor
set_option linter.unusedSimpArgs false
set_option linter.unusedVariables false
open Go.RowKit Go.Sub

def tokV2 (k : Int) (s : ByteArray) : Value := .agg #[.int .i64 k, .string s]
theorem plain_calls (k : Int) (s : ByteArray) (w : World) :
    Calls Tryz.prog 23 #[.agg #[.int .i64 k, .string s]] w fun e w' => e = .returned (.bool (decide (k ≠ 1 ∧ k ≠ 2))) ∧ Below w.heap.size w w' := by
  by_cases h1 : k = 1 
  · rw [show decide (k ≠ 1 ∧ k ≠ 2) = false from decide_eq_false (fun e => e.1 h1)] 
    subst h1 
    go_enter Tryz.func23, Tryz.ntmps23 
    go_wp2 
    go_ret 
    exact ⟨rfl, (Below.refl _ _).alloc (Nat.le_refl _) _⟩ 
  · have y1 : (k == 1) = false := beq_eq_false_iff_ne.2 h1 
    have y2 : (k != 1) = true := bne_iff_ne.2 h1 
    by_cases h2 : k = 2 
    · rw [show decide (k ≠ 1 ∧ k ≠ 2) = false from decide_eq_false (fun e => e.2 h2)] 
      subst h2 
      go_enter Tryz.func23, Tryz.ntmps23 
      go_wp2 
      go_ret 
      exact ⟨rfl, (Below.refl _ _).alloc (Nat.le_refl _) _⟩ 
    · have y3 : (k != 2) = true := bne_iff_ne.2 h2 
      rw [show decide (k ≠ 1 ∧ k ≠ 2) = true from decide_eq_true ⟨h1, h2⟩] 
      go_enter Tryz.func23, Tryz.ntmps23 
      go_wp2 
      go_ret 
      exact ⟨rfl, (Below.refl _ _).alloc (Nat.le_refl _) _⟩
theorem text_of_calls (k : Int) (s : ByteArray) (w : World) :
    Calls Tryz.prog 24 #[.agg #[.int .i64 k, .string s]] w fun e w' => e = .returned (.bool (decide (7 ≤ k ∧ k ≤ 11))) ∧ Below w.heap.size w w' := by
  by_cases h1 : 7 ≤ k 
  · have y1 : (7 ≤ k) = True := eq_true h1 
    by_cases h2 : k ≤ 11 
    · have y2 : (k ≤ 11) = True := eq_true h2 
      rw [show decide (7 ≤ k ∧ k ≤ 11) = true from decide_eq_true ⟨h1, h2⟩] 
      go_enter Tryz.func24, Tryz.ntmps24 
      go_wp2 
      go_ret 
      exact ⟨by simp, (Below.refl _ _).alloc (Nat.le_refl _) _⟩ 
    · have y2 : (k ≤ 11) = False := eq_false h2 
      rw [show decide (7 ≤ k ∧ k ≤ 11) = false from decide_eq_false (fun e => h2 e.2)] 
      go_enter Tryz.func24, Tryz.ntmps24 
      go_wp2 
      go_ret 
      exact ⟨by simp, (Below.refl _ _).alloc (Nat.le_refl _) _⟩ 
  · have y1 : (7 ≤ k) = False := eq_false h1 
    rw [show decide (7 ≤ k ∧ k ≤ 11) = false from decide_eq_false (fun e => h1 e.1)] 
    go_enter Tryz.func24, Tryz.ntmps24 
    go_wp2 
    go_ret 
    exact ⟨by simp, (Below.refl _ _).alloc (Nat.le_refl _) _⟩
theorem rplain_calls (k : Int) (s : ByteArray) (w : World) :
    Calls Tryz.prog 44 #[.agg #[.int .i64 k, .string s]] w fun e w' => e = .returned (.bool (decide (k ≠ 1 ∧ k ≠ 2))) ∧ Below w.heap.size w w' := by
  by_cases h1 : k = 1 
  · rw [show decide (k ≠ 1 ∧ k ≠ 2) = false from decide_eq_false (fun e => e.1 h1)] 
    subst h1 
    go_enter Tryz.func44, Tryz.ntmps44 
    go_wp2 
    go_ret 
    exact ⟨rfl, (Below.refl _ _).alloc (Nat.le_refl _) _⟩ 
  · have y1 : (k == 1) = false := beq_eq_false_iff_ne.2 h1 
    have y2 : (k != 1) = true := bne_iff_ne.2 h1 
    by_cases h2 : k = 2 
    · rw [show decide (k ≠ 1 ∧ k ≠ 2) = false from decide_eq_false (fun e => e.2 h2)] 
      subst h2 
      go_enter Tryz.func44, Tryz.ntmps44 
      go_wp2 
      go_ret 
      exact ⟨rfl, (Below.refl _ _).alloc (Nat.le_refl _) _⟩ 
    · have y3 : (k != 2) = true := bne_iff_ne.2 h2 
      rw [show decide (k ≠ 1 ∧ k ≠ 2) = true from decide_eq_true ⟨h1, h2⟩] 
      go_enter Tryz.func44, Tryz.ntmps44 
      go_wp2 
      go_ret 
      exact ⟨rfl, (Below.refl _ _).alloc (Nat.le_refl _) _⟩
theorem rtext_of_calls (k : Int) (s : ByteArray) (w : World) :
    Calls Tryz.prog 45 #[.agg #[.int .i64 k, .string s]] w fun e w' => e = .returned (.bool (decide (7 ≤ k ∧ k ≤ 11))) ∧ Below w.heap.size w w' := by
  by_cases h1 : 7 ≤ k 
  · have y1 : (7 ≤ k) = True := eq_true h1 
    by_cases h2 : k ≤ 11 
    · have y2 : (k ≤ 11) = True := eq_true h2 
      rw [show decide (7 ≤ k ∧ k ≤ 11) = true from decide_eq_true ⟨h1, h2⟩] 
      go_enter Tryz.func45, Tryz.ntmps45 
      go_wp2 
      go_ret 
      exact ⟨by simp, (Below.refl _ _).alloc (Nat.le_refl _) _⟩ 
    · have y2 : (k ≤ 11) = False := eq_false h2 
      rw [show decide (7 ≤ k ∧ k ≤ 11) = false from decide_eq_false (fun e => h2 e.2)] 
      go_enter Tryz.func45, Tryz.ntmps45 
      go_wp2 
      go_ret 
      exact ⟨by simp, (Below.refl _ _).alloc (Nat.le_refl _) _⟩ 
  · have y1 : (7 ≤ k) = False := eq_false h1 
    rw [show decide (7 ≤ k ∧ k ≤ 11) = false from decide_eq_false (fun e => h1 e.1)] 
    go_enter Tryz.func45, Tryz.ntmps45 
    go_wp2 
    go_ret 
    exact ⟨by simp, (Below.refl _ _).alloc (Nat.le_refl _) _⟩
/-- two tokens that lie in blocks of their own -/
def Two (W : World) (B : Nat) (a b : TokB) : Prop := W.cell? ⟨B, 0, none⟩ = some (.int .i64 a.1) ∧ W.cell? ⟨B, 1, none⟩ = some (.string a.2) ∧ W.cell? ⟨B + 1, 0, none⟩ = some (.int .i64 b.1) ∧ W.cell? ⟨B + 1, 1, none⟩ = some (.string b.2)
theorem Two.below {W W' : World} {B : Nat} {a b : TokB} (h : Two W B a b) (hb : Below W.heap.size W W') : Two W' B a b := by
  have cc : ∀ {a : Addr} {c : Value}, W.cell? a = some c → W'.cell? a = some c := fun h => (hb.cell (World.block_lt_of_cell? _ _ h)).trans h
  exact ⟨cc h.1, cc h.2.1, cc h.2.2.1, cc h.2.2.2⟩
theorem two_new (w : World) (a b : TokB) : Two ((w.alloc (.cells #[.int .i64 a.1, .string a.2] 29)).alloc (.cells #[.int .i64 b.1, .string b.2] 29)) w.heap.size a b ∧ Below w.heap.size w ((w.alloc (.cells #[.int .i64 a.1, .string a.2] 29)).alloc (.cells #[.int .i64 b.1, .string b.2] 29)) := by
  have h1 := World.alloc_heap_new w (.cells #[.int .i64 a.1, .string a.2] 29)
  have h2 := World.alloc_heap_new (w.alloc (.cells #[.int .i64 a.1, .string a.2] 29)) (.cells #[.int .i64 b.1, .string b.2] 29)
  rw [World.size_alloc] at h2
  have h3 := (Below.heap_alloc (w.alloc (.cells #[.int .i64 a.1, .string a.2] 29)) (.cells #[.int .i64 b.1, .string b.2] 29) w.heap.size (by simp)).trans h1
  exact ⟨⟨cell_of_block h3 rfl, cell_of_block h3 rfl, cell_of_block h2 rfl, cell_of_block h2 rfl⟩, ((Below.refl _ _).alloc (Nat.le_refl _) _).alloc (by simp) _⟩
theorem bytes_same {a b : ByteArray} (h : a.toList = b.toList) : a = b := congrArg Prod.snd (tok_ext (x := ((0 : Int), a)) (y := ((0 : Int), b)) rfl h)
theorem tokens_told (s : ByteArray) (w : World) (hs : s.size ≤ 1000000) :
    Calls Tryz.prog 25 #[.string s] w fun e w' => ∃ p c, e = .returned (.tuple #[.slice p ((tokensN s).1.map (tokB s.data.toList)).length c, .int .u16 ((tokensN s).2.1 : Int), .int .i64 (tokensN s).2.2]) ∧ TokRow w' (.slice p ((tokensN s).1.map (tokB s.data.toList)).length c) ((tokensN s).1.map (tokB s.data.toList)) ∧ Below w.heap.size w w' := by
  refine (tokens_calls s w (by omega)).mono ?_
  rintro e w' ⟨v, rfl, hr, hb⟩
  have ht := tokRow_own hr (by have := (tokensN_facts s).2; omega)
  obtain ⟨p, c, e, h1⟩ := ht
  subst e
  exact ⟨p, c, rfl, ⟨p, c, rfl, h1⟩, hb⟩
theorem pair_row (W : World) (a b : TokB) : TokRow (W.alloc (.cells #[.int .i64 a.1, .string a.2, .int .i64 b.1, .string b.2] 29)) (.slice (some ⟨W.heap.size, 0, none⟩) 2 2) [a, b] := by
  have hb := World.alloc_heap_new W (.cells #[.int .i64 a.1, .string a.2, .int .i64 b.1, .string b.2] 29)
  refine ⟨some ⟨W.heap.size, 0, none⟩, 2, rfl, by simp, fun i x hx => ?_⟩
  match i, hx with
  | 0, hx => simp at hx; subst hx; exact ⟨_, 0, rfl, cell_of_block hb rfl, cell_of_block hb rfl⟩
  | 1, hx => simp at hx; subst hx; exact ⟨_, 0, rfl, cell_of_block hb rfl, cell_of_block hb rfl⟩
  | i + 2, hx => simp at hx
set_option maxRecDepth 100000 in
set_option maxHeartbeats 4000000 in
theorem itight_calls (a b : TokB) (w : World) (hs : a.2.size + b.2.size ≤ 1000000) :
    Calls Tryz.prog 12 #[.agg #[.int .i64 a.1, .string a.2], .agg #[.int .i64 b.1, .string b.2]] w fun e w' => e = .returned (.bool (tightB a b)) ∧ Below w.heap.size w w' := by
  obtain ⟨ka, sa⟩ := a
  obtain ⟨kb, sb⟩ := b
  obtain ⟨tt, hb0⟩ := two_new w (ka, sa) (kb, sb)
  have TT := Lib.hid tt
  have HB := Lib.hid hb0
  obtain ⟨x0, x1, x2, x3⟩ := tt
  dsimp only at x0 x1 x2 x3 hs
  have Pc := Lib.hid plain_calls
  have Tc := Lib.hid text_of_calls
  clear hb0
  by_cases h1 : ka ≠ 1 ∧ ka ≠ 2
  · by_cases h2 : kb ≠ 1 ∧ kb ≠ 2
    · have d1 : decide (ka ≠ 1 ∧ ka ≠ 2) = true := decide_eq_true h1
      have d2 : decide (kb ≠ 1 ∧ kb ≠ 2) = true := decide_eq_true h2
      have n0 : ¬ (ka = 1 ∨ ka = 2 ∨ kb = 1 ∨ kb = 2) := by omega
      by_cases hB : ka = 6 ∧ (kb = 6 ∨ kb = 3)
      · rw [show tightB (ka, sa) (kb, sb) = false by unfold tightB; rw [if_neg n0, if_pos hB]]
        clear n0
        obtain ⟨rfl, rfl | rfl⟩ := hB
        · go_enter Tryz.func12, Tryz.ntmps12 
          go_wp2_with (first 
            | (go_at_call 23; refine (Pc.out _ _ _).mono ?_; rintro e w1 ⟨rfl, hb⟩; have TT := Lib.hid (TT.out.below hb); have HB := Lib.hid (HB.out.trans (hb.mono HB.out.size)); obtain ⟨x0, x1, x2, x3⟩ := TT.out; dsimp only at x0 x1 x2 x3; clear hb) 
            | (go_at_call 24; refine (Tc.out _ _ _).mono ?_; rintro e w1 ⟨rfl, hb⟩; have TT := Lib.hid (TT.out.below hb); have HB := Lib.hid (HB.out.trans (hb.mono HB.out.size)); obtain ⟨x0, x1, x2, x3⟩ := TT.out; dsimp only at x0 x1 x2 x3; clear hb)) 
          go_ret 
          exact ⟨rfl, HB.out⟩
        · go_enter Tryz.func12, Tryz.ntmps12 
          go_wp2_with (first 
            | (go_at_call 23; refine (Pc.out _ _ _).mono ?_; rintro e w1 ⟨rfl, hb⟩; have TT := Lib.hid (TT.out.below hb); have HB := Lib.hid (HB.out.trans (hb.mono HB.out.size)); obtain ⟨x0, x1, x2, x3⟩ := TT.out; dsimp only at x0 x1 x2 x3; clear hb) 
            | (go_at_call 24; refine (Tc.out _ _ _).mono ?_; rintro e w1 ⟨rfl, hb⟩; have TT := Lib.hid (TT.out.below hb); have HB := Lib.hid (HB.out.trans (hb.mono HB.out.size)); obtain ⟨x0, x1, x2, x3⟩ := TT.out; dsimp only at x0 x1 x2 x3; clear hb)) 
          go_ret 
          exact ⟨rfl, HB.out⟩
      · by_cases hC : ka = kb ∧ sa.toList = sb.toList ∧ ka = 13 ∧ sa = colonB
        · rw [show tightB (ka, sa) (kb, sb) = false by unfold tightB; rw [if_neg n0, if_neg hB, if_pos ⟨tok_ext hC.1 hC.2.1, hC.2.2.1, hC.2.2.2⟩]]
          clear n0 hB
          obtain ⟨rfl, e2, rfl, rfl⟩ := hC
          obtain rfl : colonB = sb := congrArg Prod.snd (tok_ext (x := (13, colonB)) (y := (13, sb)) rfl e2)
          unfold colonB at *
          go_enter Tryz.func12, Tryz.ntmps12 
          go_wp2_with (first 
            | (go_at_call 23; refine (Pc.out _ _ _).mono ?_; rintro e w1 ⟨rfl, hb⟩; have TT := Lib.hid (TT.out.below hb); have HB := Lib.hid (HB.out.trans (hb.mono HB.out.size)); obtain ⟨x0, x1, x2, x3⟩ := TT.out; dsimp only at x0 x1 x2 x3; clear hb) 
            | (go_at_call 24; refine (Tc.out _ _ _).mono ?_; rintro e w1 ⟨rfl, hb⟩; have TT := Lib.hid (TT.out.below hb); have HB := Lib.hid (HB.out.trans (hb.mono HB.out.size)); obtain ⟨x0, x1, x2, x3⟩ := TT.out; dsimp only at x0 x1 x2 x3; clear hb)) 
          go_ret 
          exact ⟨rfl, HB.out⟩
        · have nC : ¬ ((ka, sa) = (kb, sb) ∧ ka = 13 ∧ sa = colonB) := fun e => hC ⟨congrArg Prod.fst e.1, by rw [show sa = sb from congrArg Prod.snd e.1], e.2⟩
          have h6 : (ka = 6 ∧ kb ≠ 6 ∧ kb ≠ 3) ∨ ka ≠ 6 := by omega
          have hE : ka ≠ kb ∨ (ka = kb ∧ sa.toList ≠ sb.toList) ∨ (ka = kb ∧ sa.toList = sb.toList ∧ ka ≠ 13) ∨ (ka = kb ∧ sa.toList = sb.toList ∧ ka = 13 ∧ sa ≠ colonB) := by
            by_cases e1 : ka = kb
            · by_cases e2 : sa.toList = sb.toList
              · by_cases e3 : ka = 13
                · exact .inr (.inr (.inr ⟨e1, e2, e3, fun e => hC ⟨e1, e2, e3, e⟩⟩))
                · exact .inr (.inr (.inl ⟨e1, e2, e3⟩))
              · exact .inr (.inl ⟨e1, e2⟩)
            · exact .inl e1
          obtain ⟨T, hT⟩ : ∃ T, T = tightB (ka, sa) (kb, sb) := ⟨_, rfl⟩
          have hT2 := hT
          unfold tightB at hT2
          rw [if_neg n0, if_neg hB, if_neg nC] at hT2
          rw [← hT]
          have HT := Lib.hid hT2
          have HE := Lib.hid hE
          have H6 := Lib.hid h6
          clear hT hT2 n0 hB nC hE h6 hC h1 h2
          by_cases hta : 7 ≤ ka ∧ ka ≤ 11
          · have d3 : decide (7 ≤ ka ∧ ka ≤ 11) = true := decide_eq_true hta
            obtain rfl : T = true := by rw [HT.out, if_pos (.inl hta)]
            clear HT
            have h6 : ka ≠ 6 := (by rcases H6.out with ⟨rfl, -, -⟩ | h; exact absurd hta.1 (by decide); exact h) 
            have e1 : (ka == 6) = false := beq_eq_false_iff_ne.2 h6 
            rcases HE.out with h | ⟨rfl, h⟩ | ⟨rfl, h, h'⟩ | ⟨rfl, h, rfl, h'⟩ 
            · have e3 : (ka == kb) = false := beq_eq_false_iff_ne.2 h 
              clear h h6 HE H6 
              go_enter Tryz.func12, Tryz.ntmps12 
              go_wp2_with (first 
                | (go_at_call 23; refine (Pc.out _ _ _).mono ?_; rintro e w1 ⟨rfl, hb⟩; have TT := Lib.hid (TT.out.below hb); have HB := Lib.hid (HB.out.trans (hb.mono HB.out.size)); obtain ⟨x0, x1, x2, x3⟩ := TT.out; dsimp only at x0 x1 x2 x3; clear hb) 
                  | (go_at_call 24; refine (Tc.out _ _ _).mono ?_; rintro e w1 ⟨rfl, hb⟩; have TT := Lib.hid (TT.out.below hb); have HB := Lib.hid (HB.out.trans (hb.mono HB.out.size)); obtain ⟨x0, x1, x2, x3⟩ := TT.out; dsimp only at x0 x1 x2 x3; clear hb)) 
              go_ret 
              exact ⟨rfl, HB.out⟩ 
            · have e3 : (sa.toList == sb.toList) = false := beq_eq_false_iff_ne.2 h 
              clear h h6 HE H6 
              go_enter Tryz.func12, Tryz.ntmps12 
              go_wp2_with (first 
                | (go_at_call 23; refine (Pc.out _ _ _).mono ?_; rintro e w1 ⟨rfl, hb⟩; have TT := Lib.hid (TT.out.below hb); have HB := Lib.hid (HB.out.trans (hb.mono HB.out.size)); obtain ⟨x0, x1, x2, x3⟩ := TT.out; dsimp only at x0 x1 x2 x3; clear hb) 
                  | (go_at_call 24; refine (Tc.out _ _ _).mono ?_; rintro e w1 ⟨rfl, hb⟩; have TT := Lib.hid (TT.out.below hb); have HB := Lib.hid (HB.out.trans (hb.mono HB.out.size)); obtain ⟨x0, x1, x2, x3⟩ := TT.out; dsimp only at x0 x1 x2 x3; clear hb)) 
              go_ret 
              exact ⟨rfl, HB.out⟩ 
            · obtain rfl : sa = sb := bytes_same h 
              have e3 : (ka == 13) = false := beq_eq_false_iff_ne.2 h' 
              clear h h' h6 HE H6 
              go_enter Tryz.func12, Tryz.ntmps12 
              go_wp2_with (first 
                | (go_at_call 23; refine (Pc.out _ _ _).mono ?_; rintro e w1 ⟨rfl, hb⟩; have TT := Lib.hid (TT.out.below hb); have HB := Lib.hid (HB.out.trans (hb.mono HB.out.size)); obtain ⟨x0, x1, x2, x3⟩ := TT.out; dsimp only at x0 x1 x2 x3; clear hb) 
                  | (go_at_call 24; refine (Tc.out _ _ _).mono ?_; rintro e w1 ⟨rfl, hb⟩; have TT := Lib.hid (TT.out.below hb); have HB := Lib.hid (HB.out.trans (hb.mono HB.out.size)); obtain ⟨x0, x1, x2, x3⟩ := TT.out; dsimp only at x0 x1 x2 x3; clear hb)) 
              go_ret 
              exact ⟨rfl, HB.out⟩ 
            · exact absurd hta.2 (by decide)
          · by_cases htb : 7 ≤ kb ∧ kb ≤ 11
            · have d3 : decide (7 ≤ ka ∧ ka ≤ 11) = false := decide_eq_false hta
              have d4 : decide (7 ≤ kb ∧ kb ≤ 11) = true := decide_eq_true htb
              obtain rfl : T = true := by rw [HT.out, if_pos (.inr htb)]
              have hne : ka ≠ kb := by rintro rfl; exact hta htb
              clear HT hta htb
              rcases H6.out with ⟨rfl, h6a, h6b⟩ | h6 
              · have e1 : (kb == 6) = false := beq_eq_false_iff_ne.2 h6a 
                have e2 : (kb == 3) = false := beq_eq_false_iff_ne.2 h6b 
                have e3 : ((6 : Int) == kb) = false := beq_eq_false_iff_ne.2 (fun e => h6a e.symm) 
                clear h6a h6b HE H6 hne 
                go_enter Tryz.func12, Tryz.ntmps12 
                go_wp2_with (first 
                  | (go_at_call 23; refine (Pc.out _ _ _).mono ?_; rintro e w1 ⟨rfl, hb⟩; have TT := Lib.hid (TT.out.below hb); have HB := Lib.hid (HB.out.trans (hb.mono HB.out.size)); obtain ⟨x0, x1, x2, x3⟩ := TT.out; dsimp only at x0 x1 x2 x3; clear hb) 
                    | (go_at_call 24; refine (Tc.out _ _ _).mono ?_; rintro e w1 ⟨rfl, hb⟩; have TT := Lib.hid (TT.out.below hb); have HB := Lib.hid (HB.out.trans (hb.mono HB.out.size)); obtain ⟨x0, x1, x2, x3⟩ := TT.out; dsimp only at x0 x1 x2 x3; clear hb)) 
                go_ret 
                exact ⟨rfl, HB.out⟩ 
              · have e1 : (ka == 6) = false := beq_eq_false_iff_ne.2 h6 
                have e3 : (ka == kb) = false := beq_eq_false_iff_ne.2 hne 
                clear hne h6 HE H6 
                go_enter Tryz.func12, Tryz.ntmps12 
                go_wp2_with (first 
                  | (go_at_call 23; refine (Pc.out _ _ _).mono ?_; rintro e w1 ⟨rfl, hb⟩; have TT := Lib.hid (TT.out.below hb); have HB := Lib.hid (HB.out.trans (hb.mono HB.out.size)); obtain ⟨x0, x1, x2, x3⟩ := TT.out; dsimp only at x0 x1 x2 x3; clear hb) 
                    | (go_at_call 24; refine (Tc.out _ _ _).mono ?_; rintro e w1 ⟨rfl, hb⟩; have TT := Lib.hid (TT.out.below hb); have HB := Lib.hid (HB.out.trans (hb.mono HB.out.size)); obtain ⟨x0, x1, x2, x3⟩ := TT.out; dsimp only at x0 x1 x2 x3; clear hb)) 
                go_ret 
                exact ⟨rfl, HB.out⟩
            · have d3 : decide (7 ≤ ka ∧ ka ≤ 11) = false := decide_eq_false hta
              have d4 : decide (7 ≤ kb ∧ kb ≤ 11) = false := decide_eq_false htb
              have hT2 : T = (decide ((tokensN (sa ++ sb)).2.1 = 0) && decide ((tokensN (sa ++ sb)).1.map (tokB (sa ++ sb).data.toList) = [(ka, sa), (kb, sb)])) := by rw [HT.out, if_neg (fun h => by rcases h with h | h; exact hta h; exact htb h)]
              have hcat : (sa ++ sb).size ≤ 1000000 := by rw [ByteArray.size_append]; exact hs
              have HTok := Lib.hid (fun W => tokens_told (sa ++ sb) W hcat)
              clear HT hta htb hcat
              obtain ⟨er, her⟩ : ∃ er, er = (tokensN (sa ++ sb)).2.1 := ⟨_, rfl⟩
              obtain ⟨zs, hzs⟩ : ∃ zs, zs = (tokensN (sa ++ sb)).1.map (tokB (sa ++ sb).data.toList) := ⟨_, rfl⟩
              obtain ⟨pa, hpa⟩ : ∃ pa, pa = (tokensN (sa ++ sb)).2.2 := ⟨_, rfl⟩
              rw [← her, ← hzs] at hT2
              have HTok : Hid (∀ W, Calls Tryz.prog 25 #[.string (sa ++ sb)] W fun e w' => ∃ p c, e = .returned (.tuple #[.slice p zs.length c, .int .u16 (er : Int), .int .i64 pa]) ∧ TokRow w' (.slice p zs.length c) zs ∧ Below W.heap.size W w') := Lib.hid (by rw [her, hzs, hpa]; exact HTok.out)
              have HEq := Lib.hid (fun v1 W (h1 : TokRow W v1 zs) v2 (h2 : TokRow W v2 [(ka, sa), (kb, sb)]) => equal_calls v1 v2 zs [(ka, sa), (kb, sb)] W h1 h2)
              clear her hzs hpa
              by_cases h0 : er = 0
              · subst h0
                have HT := Lib.hid hT2
                clear hT2
                rcases H6.out with ⟨rfl, h6a, h6b⟩ | h6 
                · have e1 : (kb == 6) = false := beq_eq_false_iff_ne.2 h6a 
                  have e2 : (kb == 3) = false := beq_eq_false_iff_ne.2 h6b 
                  have e3 : ((6 : Int) == kb) = false := beq_eq_false_iff_ne.2 (fun e => h6a e.symm) 
                  clear h6a h6b HE H6 
                  go_enter Tryz.func12, Tryz.ntmps12 
                  go_wp2_with (first 
                    | (go_at_call 23; refine (Pc.out _ _ _).mono ?_; rintro e w1 ⟨rfl, hb⟩; have TT := Lib.hid (TT.out.below hb); have HB := Lib.hid (HB.out.trans (hb.mono HB.out.size)); obtain ⟨x0, x1, x2, x3⟩ := TT.out; dsimp only at x0 x1 x2 x3; clear hb) 
                      | (go_at_call 24; refine (Tc.out _ _ _).mono ?_; rintro e w1 ⟨rfl, hb⟩; have TT := Lib.hid (TT.out.below hb); have HB := Lib.hid (HB.out.trans (hb.mono HB.out.size)); obtain ⟨x0, x1, x2, x3⟩ := TT.out; dsimp only at x0 x1 x2 x3; clear hb) 
                    | (go_at_call 25; refine (HTok.out _).mono ?_; rintro e w1 ⟨pt, ct, rfl, hr, hb⟩; have TT := Lib.hid (TT.out.below hb); have HB := Lib.hid (HB.out.trans (hb.mono HB.out.size)); obtain ⟨x0, x1, x2, x3⟩ := TT.out; dsimp only at x0 x1 x2 x3; clear hb; have HR := Lib.hid hr; clear hr) 
                    | (go_at_call 26; refine (HEq.out _ _ (HR.out.below ((Below.refl _ _).alloc (Nat.le_refl _) _)) _ (pair_row _ _ _)).mono ?_; rintro e w5 ⟨rfl, hb5⟩; have HB5 := Lib.hid ((HB.out.alloc HB.out.size _).trans (hb5.mono (by have := HB.out.size; simp; omega))); clear hb5)) 
                  go_ret 
                  exact ⟨by rw [HT.out]; simp, HB5.out⟩ 
                · have e1 : (ka == 6) = false := beq_eq_false_iff_ne.2 h6 
                  rcases HE.out with h | ⟨rfl, h⟩ | ⟨rfl, h, h'⟩ | ⟨rfl, h, rfl, h'⟩ 
                  · have e3 : (ka == kb) = false := beq_eq_false_iff_ne.2 h 
                    clear h h6 HE H6 
                    go_enter Tryz.func12, Tryz.ntmps12 
                    go_wp2_with (first 
                      | (go_at_call 23; refine (Pc.out _ _ _).mono ?_; rintro e w1 ⟨rfl, hb⟩; have TT := Lib.hid (TT.out.below hb); have HB := Lib.hid (HB.out.trans (hb.mono HB.out.size)); obtain ⟨x0, x1, x2, x3⟩ := TT.out; dsimp only at x0 x1 x2 x3; clear hb) 
                        | (go_at_call 24; refine (Tc.out _ _ _).mono ?_; rintro e w1 ⟨rfl, hb⟩; have TT := Lib.hid (TT.out.below hb); have HB := Lib.hid (HB.out.trans (hb.mono HB.out.size)); obtain ⟨x0, x1, x2, x3⟩ := TT.out; dsimp only at x0 x1 x2 x3; clear hb) 
                      | (go_at_call 25; refine (HTok.out _).mono ?_; rintro e w1 ⟨pt, ct, rfl, hr, hb⟩; have TT := Lib.hid (TT.out.below hb); have HB := Lib.hid (HB.out.trans (hb.mono HB.out.size)); obtain ⟨x0, x1, x2, x3⟩ := TT.out; dsimp only at x0 x1 x2 x3; clear hb; have HR := Lib.hid hr; clear hr) 
                      | (go_at_call 26; refine (HEq.out _ _ (HR.out.below ((Below.refl _ _).alloc (Nat.le_refl _) _)) _ (pair_row _ _ _)).mono ?_; rintro e w5 ⟨rfl, hb5⟩; have HB5 := Lib.hid ((HB.out.alloc HB.out.size _).trans (hb5.mono (by have := HB.out.size; simp; omega))); clear hb5)) 
                    go_ret 
                    exact ⟨by rw [HT.out]; simp, HB5.out⟩ 
                  · have e3 : (sa.toList == sb.toList) = false := beq_eq_false_iff_ne.2 h 
                    clear h h6 HE H6 
                    go_enter Tryz.func12, Tryz.ntmps12 
                    go_wp2_with (first 
                      | (go_at_call 23; refine (Pc.out _ _ _).mono ?_; rintro e w1 ⟨rfl, hb⟩; have TT := Lib.hid (TT.out.below hb); have HB := Lib.hid (HB.out.trans (hb.mono HB.out.size)); obtain ⟨x0, x1, x2, x3⟩ := TT.out; dsimp only at x0 x1 x2 x3; clear hb) 
                        | (go_at_call 24; refine (Tc.out _ _ _).mono ?_; rintro e w1 ⟨rfl, hb⟩; have TT := Lib.hid (TT.out.below hb); have HB := Lib.hid (HB.out.trans (hb.mono HB.out.size)); obtain ⟨x0, x1, x2, x3⟩ := TT.out; dsimp only at x0 x1 x2 x3; clear hb) 
                      | (go_at_call 25; refine (HTok.out _).mono ?_; rintro e w1 ⟨pt, ct, rfl, hr, hb⟩; have TT := Lib.hid (TT.out.below hb); have HB := Lib.hid (HB.out.trans (hb.mono HB.out.size)); obtain ⟨x0, x1, x2, x3⟩ := TT.out; dsimp only at x0 x1 x2 x3; clear hb; have HR := Lib.hid hr; clear hr) 
                      | (go_at_call 26; refine (HEq.out _ _ (HR.out.below ((Below.refl _ _).alloc (Nat.le_refl _) _)) _ (pair_row _ _ _)).mono ?_; rintro e w5 ⟨rfl, hb5⟩; have HB5 := Lib.hid ((HB.out.alloc HB.out.size _).trans (hb5.mono (by have := HB.out.size; simp; omega))); clear hb5)) 
                    go_ret 
                    exact ⟨by rw [HT.out]; simp, HB5.out⟩ 
                  · obtain rfl : sa = sb := bytes_same h 
                    have e3 : (ka == 13) = false := beq_eq_false_iff_ne.2 h' 
                    clear h h' h6 HE H6 
                    go_enter Tryz.func12, Tryz.ntmps12 
                    go_wp2_with (first 
                      | (go_at_call 23; refine (Pc.out _ _ _).mono ?_; rintro e w1 ⟨rfl, hb⟩; have TT := Lib.hid (TT.out.below hb); have HB := Lib.hid (HB.out.trans (hb.mono HB.out.size)); obtain ⟨x0, x1, x2, x3⟩ := TT.out; dsimp only at x0 x1 x2 x3; clear hb) 
                        | (go_at_call 24; refine (Tc.out _ _ _).mono ?_; rintro e w1 ⟨rfl, hb⟩; have TT := Lib.hid (TT.out.below hb); have HB := Lib.hid (HB.out.trans (hb.mono HB.out.size)); obtain ⟨x0, x1, x2, x3⟩ := TT.out; dsimp only at x0 x1 x2 x3; clear hb) 
                      | (go_at_call 25; refine (HTok.out _).mono ?_; rintro e w1 ⟨pt, ct, rfl, hr, hb⟩; have TT := Lib.hid (TT.out.below hb); have HB := Lib.hid (HB.out.trans (hb.mono HB.out.size)); obtain ⟨x0, x1, x2, x3⟩ := TT.out; dsimp only at x0 x1 x2 x3; clear hb; have HR := Lib.hid hr; clear hr) 
                      | (go_at_call 26; refine (HEq.out _ _ (HR.out.below ((Below.refl _ _).alloc (Nat.le_refl _) _)) _ (pair_row _ _ _)).mono ?_; rintro e w5 ⟨rfl, hb5⟩; have HB5 := Lib.hid ((HB.out.alloc HB.out.size _).trans (hb5.mono (by have := HB.out.size; simp; omega))); clear hb5)) 
                    go_ret 
                    exact ⟨by rw [HT.out]; simp, HB5.out⟩ 
                  · obtain rfl : sa = sb := bytes_same h 
                    have e3 : (sa.toList == [58]) = false := beq_eq_false_iff_ne.2 (fun e => h' (bytes_same (b := ⟨#[58]⟩) (e.trans (by rw [ByteArray.toList_eq])))) 
                    clear h h' h6 HE H6 
                    go_enter Tryz.func12, Tryz.ntmps12 
                    go_wp2_with (first 
                      | (go_at_call 23; refine (Pc.out _ _ _).mono ?_; rintro e w1 ⟨rfl, hb⟩; have TT := Lib.hid (TT.out.below hb); have HB := Lib.hid (HB.out.trans (hb.mono HB.out.size)); obtain ⟨x0, x1, x2, x3⟩ := TT.out; dsimp only at x0 x1 x2 x3; clear hb) 
                        | (go_at_call 24; refine (Tc.out _ _ _).mono ?_; rintro e w1 ⟨rfl, hb⟩; have TT := Lib.hid (TT.out.below hb); have HB := Lib.hid (HB.out.trans (hb.mono HB.out.size)); obtain ⟨x0, x1, x2, x3⟩ := TT.out; dsimp only at x0 x1 x2 x3; clear hb) 
                      | (go_at_call 25; refine (HTok.out _).mono ?_; rintro e w1 ⟨pt, ct, rfl, hr, hb⟩; have TT := Lib.hid (TT.out.below hb); have HB := Lib.hid (HB.out.trans (hb.mono HB.out.size)); obtain ⟨x0, x1, x2, x3⟩ := TT.out; dsimp only at x0 x1 x2 x3; clear hb; have HR := Lib.hid hr; clear hr) 
                      | (go_at_call 26; refine (HEq.out _ _ (HR.out.below ((Below.refl _ _).alloc (Nat.le_refl _) _)) _ (pair_row _ _ _)).mono ?_; rintro e w5 ⟨rfl, hb5⟩; have HB5 := Lib.hid ((HB.out.alloc HB.out.size _).trans (hb5.mono (by have := HB.out.size; simp; omega))); clear hb5)) 
                    go_ret 
                    exact ⟨by rw [HT.out]; simp, HB5.out⟩
              · obtain rfl : T = false := by rw [hT2, decide_eq_false h0, Bool.false_and]
                have g0 : (((er : Nat) : Int) == 0) = false := by rw [beq_eq_false_iff_ne]; omega
                clear hT2 HEq
                rcases H6.out with ⟨rfl, h6a, h6b⟩ | h6 
                · have e1 : (kb == 6) = false := beq_eq_false_iff_ne.2 h6a 
                  have e2 : (kb == 3) = false := beq_eq_false_iff_ne.2 h6b 
                  have e3 : ((6 : Int) == kb) = false := beq_eq_false_iff_ne.2 (fun e => h6a e.symm) 
                  clear h6a h6b HE H6 
                  go_enter Tryz.func12, Tryz.ntmps12 
                  go_wp2_with (first 
                    | (go_at_call 23; refine (Pc.out _ _ _).mono ?_; rintro e w1 ⟨rfl, hb⟩; have TT := Lib.hid (TT.out.below hb); have HB := Lib.hid (HB.out.trans (hb.mono HB.out.size)); obtain ⟨x0, x1, x2, x3⟩ := TT.out; dsimp only at x0 x1 x2 x3; clear hb) 
                      | (go_at_call 24; refine (Tc.out _ _ _).mono ?_; rintro e w1 ⟨rfl, hb⟩; have TT := Lib.hid (TT.out.below hb); have HB := Lib.hid (HB.out.trans (hb.mono HB.out.size)); obtain ⟨x0, x1, x2, x3⟩ := TT.out; dsimp only at x0 x1 x2 x3; clear hb) 
                    | (go_at_call 25; refine (HTok.out _).mono ?_; rintro e w1 ⟨pt, ct, rfl, hr, hb⟩; have TT := Lib.hid (TT.out.below hb); have HB := Lib.hid (HB.out.trans (hb.mono HB.out.size)); obtain ⟨x0, x1, x2, x3⟩ := TT.out; dsimp only at x0 x1 x2 x3; clear hb; clear hr)) 
                  go_ret 
                  exact ⟨rfl, HB.out⟩ 
                · have e1 : (ka == 6) = false := beq_eq_false_iff_ne.2 h6 
                  rcases HE.out with h | ⟨rfl, h⟩ | ⟨rfl, h, h'⟩ | ⟨rfl, h, rfl, h'⟩ 
                  · have e3 : (ka == kb) = false := beq_eq_false_iff_ne.2 h 
                    clear h h6 HE H6 
                    go_enter Tryz.func12, Tryz.ntmps12 
                    go_wp2_with (first 
                      | (go_at_call 23; refine (Pc.out _ _ _).mono ?_; rintro e w1 ⟨rfl, hb⟩; have TT := Lib.hid (TT.out.below hb); have HB := Lib.hid (HB.out.trans (hb.mono HB.out.size)); obtain ⟨x0, x1, x2, x3⟩ := TT.out; dsimp only at x0 x1 x2 x3; clear hb) 
                        | (go_at_call 24; refine (Tc.out _ _ _).mono ?_; rintro e w1 ⟨rfl, hb⟩; have TT := Lib.hid (TT.out.below hb); have HB := Lib.hid (HB.out.trans (hb.mono HB.out.size)); obtain ⟨x0, x1, x2, x3⟩ := TT.out; dsimp only at x0 x1 x2 x3; clear hb) 
                      | (go_at_call 25; refine (HTok.out _).mono ?_; rintro e w1 ⟨pt, ct, rfl, hr, hb⟩; have TT := Lib.hid (TT.out.below hb); have HB := Lib.hid (HB.out.trans (hb.mono HB.out.size)); obtain ⟨x0, x1, x2, x3⟩ := TT.out; dsimp only at x0 x1 x2 x3; clear hb; clear hr)) 
                    go_ret 
                    exact ⟨rfl, HB.out⟩ 
                  · have e3 : (sa.toList == sb.toList) = false := beq_eq_false_iff_ne.2 h 
                    clear h h6 HE H6 
                    go_enter Tryz.func12, Tryz.ntmps12 
                    go_wp2_with (first 
                      | (go_at_call 23; refine (Pc.out _ _ _).mono ?_; rintro e w1 ⟨rfl, hb⟩; have TT := Lib.hid (TT.out.below hb); have HB := Lib.hid (HB.out.trans (hb.mono HB.out.size)); obtain ⟨x0, x1, x2, x3⟩ := TT.out; dsimp only at x0 x1 x2 x3; clear hb) 
                        | (go_at_call 24; refine (Tc.out _ _ _).mono ?_; rintro e w1 ⟨rfl, hb⟩; have TT := Lib.hid (TT.out.below hb); have HB := Lib.hid (HB.out.trans (hb.mono HB.out.size)); obtain ⟨x0, x1, x2, x3⟩ := TT.out; dsimp only at x0 x1 x2 x3; clear hb) 
                      | (go_at_call 25; refine (HTok.out _).mono ?_; rintro e w1 ⟨pt, ct, rfl, hr, hb⟩; have TT := Lib.hid (TT.out.below hb); have HB := Lib.hid (HB.out.trans (hb.mono HB.out.size)); obtain ⟨x0, x1, x2, x3⟩ := TT.out; dsimp only at x0 x1 x2 x3; clear hb; clear hr)) 
                    go_ret 
                    exact ⟨rfl, HB.out⟩ 
                  · obtain rfl : sa = sb := bytes_same h 
                    have e3 : (ka == 13) = false := beq_eq_false_iff_ne.2 h' 
                    clear h h' h6 HE H6 
                    go_enter Tryz.func12, Tryz.ntmps12 
                    go_wp2_with (first 
                      | (go_at_call 23; refine (Pc.out _ _ _).mono ?_; rintro e w1 ⟨rfl, hb⟩; have TT := Lib.hid (TT.out.below hb); have HB := Lib.hid (HB.out.trans (hb.mono HB.out.size)); obtain ⟨x0, x1, x2, x3⟩ := TT.out; dsimp only at x0 x1 x2 x3; clear hb) 
                        | (go_at_call 24; refine (Tc.out _ _ _).mono ?_; rintro e w1 ⟨rfl, hb⟩; have TT := Lib.hid (TT.out.below hb); have HB := Lib.hid (HB.out.trans (hb.mono HB.out.size)); obtain ⟨x0, x1, x2, x3⟩ := TT.out; dsimp only at x0 x1 x2 x3; clear hb) 
                      | (go_at_call 25; refine (HTok.out _).mono ?_; rintro e w1 ⟨pt, ct, rfl, hr, hb⟩; have TT := Lib.hid (TT.out.below hb); have HB := Lib.hid (HB.out.trans (hb.mono HB.out.size)); obtain ⟨x0, x1, x2, x3⟩ := TT.out; dsimp only at x0 x1 x2 x3; clear hb; clear hr)) 
                    go_ret 
                    exact ⟨rfl, HB.out⟩ 
                  · obtain rfl : sa = sb := bytes_same h 
                    have e3 : (sa.toList == [58]) = false := beq_eq_false_iff_ne.2 (fun e => h' (bytes_same (b := ⟨#[58]⟩) (e.trans (by rw [ByteArray.toList_eq])))) 
                    clear h h' h6 HE H6 
                    go_enter Tryz.func12, Tryz.ntmps12 
                    go_wp2_with (first 
                      | (go_at_call 23; refine (Pc.out _ _ _).mono ?_; rintro e w1 ⟨rfl, hb⟩; have TT := Lib.hid (TT.out.below hb); have HB := Lib.hid (HB.out.trans (hb.mono HB.out.size)); obtain ⟨x0, x1, x2, x3⟩ := TT.out; dsimp only at x0 x1 x2 x3; clear hb) 
                        | (go_at_call 24; refine (Tc.out _ _ _).mono ?_; rintro e w1 ⟨rfl, hb⟩; have TT := Lib.hid (TT.out.below hb); have HB := Lib.hid (HB.out.trans (hb.mono HB.out.size)); obtain ⟨x0, x1, x2, x3⟩ := TT.out; dsimp only at x0 x1 x2 x3; clear hb) 
                      | (go_at_call 25; refine (HTok.out _).mono ?_; rintro e w1 ⟨pt, ct, rfl, hr, hb⟩; have TT := Lib.hid (TT.out.below hb); have HB := Lib.hid (HB.out.trans (hb.mono HB.out.size)); obtain ⟨x0, x1, x2, x3⟩ := TT.out; dsimp only at x0 x1 x2 x3; clear hb; clear hr)) 
                    go_ret 
                    exact ⟨rfl, HB.out⟩
    · rw [show tightB (ka, sa) (kb, sb) = false by unfold tightB; rw [if_pos (by dsimp only; omega)]]
      have d1 : decide (ka ≠ 1 ∧ ka ≠ 2) = true := decide_eq_true h1
      have d2 : decide (kb ≠ 1 ∧ kb ≠ 2) = false := decide_eq_false h2
      go_enter Tryz.func12, Tryz.ntmps12 
      go_wp2_with (first 
        | (go_at_call 23; refine (Pc.out _ _ _).mono ?_; rintro e w1 ⟨rfl, hb⟩; have TT := Lib.hid (TT.out.below hb); have HB := Lib.hid (HB.out.trans (hb.mono HB.out.size)); obtain ⟨x0, x1, x2, x3⟩ := TT.out; dsimp only at x0 x1 x2 x3; clear hb) 
        | (go_at_call 24; refine (Tc.out _ _ _).mono ?_; rintro e w1 ⟨rfl, hb⟩; have TT := Lib.hid (TT.out.below hb); have HB := Lib.hid (HB.out.trans (hb.mono HB.out.size)); obtain ⟨x0, x1, x2, x3⟩ := TT.out; dsimp only at x0 x1 x2 x3; clear hb)) 
      go_ret 
      exact ⟨rfl, HB.out⟩
  · rw [show tightB (ka, sa) (kb, sb) = false by unfold tightB; rw [if_pos (by dsimp only; omega)]]
    have d1 : decide (ka ≠ 1 ∧ ka ≠ 2) = false := decide_eq_false h1
    go_enter Tryz.func12, Tryz.ntmps12 
    go_wp2_with (first 
      | (go_at_call 23; refine (Pc.out _ _ _).mono ?_; rintro e w1 ⟨rfl, hb⟩; have TT := Lib.hid (TT.out.below hb); have HB := Lib.hid (HB.out.trans (hb.mono HB.out.size)); obtain ⟨x0, x1, x2, x3⟩ := TT.out; dsimp only at x0 x1 x2 x3; clear hb) 
      | (go_at_call 24; refine (Tc.out _ _ _).mono ?_; rintro e w1 ⟨rfl, hb⟩; have TT := Lib.hid (TT.out.below hb); have HB := Lib.hid (HB.out.trans (hb.mono HB.out.size)); obtain ⟨x0, x1, x2, x3⟩ := TT.out; dsimp only at x0 x1 x2 x3; clear hb)) 
    go_ret 
    exact ⟨rfl, HB.out⟩
end Go.Proofs.YtiinhkfbgecbjaaGreatDoor
namespace Go.Proofs.YtiinhkfbgecbjaaGreatDoor
set_option linter.unusedSimpArgs false
set_option linter.unusedVariables false
open Go.RowKit Go.Sub

/-- all but b, and what is no row of bytes, stays -/
def Kept (b : Nat) (w w' : World) : Prop := ∀ (X : Nat) (o : Obj), w.heap[X]? = some o → X ≠ b → (∀ cs f, o ≠ .cells cs 5 f) → w'.heap[X]? = some o
theorem Kept.refl (b : Nat) (w : World) : Kept b w w := fun _ _ h _ _ => h
theorem Kept.trans {b : Nat} {w w1 w2 : World} (h : Kept b w w1) (h' : Kept b w1 w2) : Kept b w w2 := fun X o hx hb ho => h' X o (h X o hx hb ho) hb ho
theorem Kept.setCell {b o : Nat} (w : World) (v : Value) : Kept b w (w.setCell ⟨b, o, none⟩ v) := fun X o' hx hb _ => by
  rw [heap_setCell_other w ⟨b, o, none⟩ X v hb]; exact hx
theorem Kept.grown {B b n : Nat} {w w' : World} {v : Value} {xs : List Value} (h : w.ownsRow B 5 1 v n xs) (hg : w.grownBy w' v.ownBlock) : Kept b w w' := fun X o hx _ ho => by
  have hne : v.ownBlock ≠ some X := fun e => by
    rcases h.2 with ⟨rfl, _⟩ | ⟨g, cap, cur, rfl, _, hc, _⟩
    · cases e
    · cases e
      rw [hc] at hx
      exact ho _ _ (Option.some.inj hx).symm
  have hlt := (Array.getElem?_eq_some_iff.1 hx).1
  rw [hg.block X hlt (Ne.symm hne)]; exact hx
theorem copyCheck_kept (B b : Nat) (bs : List Value) (w : World) (h : Lib.IsBuilder 59 5 B b bs w) :
    Calls Tryz.prog 43 #[.pointer (some ⟨b, 0, none⟩)] w fun e w' => e = .returned (.tuple #[]) ∧ (Lib.BuilderAt 59 5 B b (.pointer (some ⟨b, 0, none⟩)) bs w' ∧ Below B w w' ∧ Kept b w w') := by
  rcases h with h | h
  · refine (check_fresh b w h.cell0 h.shape h.frozen0).mono ?_
    rintro e w' ⟨rfl, rfl⟩
    exact ⟨rfl, h.used _, (Below.refl B w).setCell (p := ⟨b, 0, none⟩) h.1 _, Kept.setCell _ _⟩
  · refine (check_used b w h.cell0).mono ?_
    rintro e w' ⟨rfl, rfl⟩
    exact ⟨rfl, h, Below.refl B _, Kept.refl _ _⟩
set_option maxHeartbeats 1000000 in
set_option maxRecDepth 100000 in
theorem writeString_kept (B b : Nat) (bs : List Value) (s : ByteArray) (w : World) (h : Lib.IsBuilder 59 5 B b bs w) (hlen : bs.length + s.size ≤ 140737488355328) (hBw : B ≤ w.heap.size) :
    Calls Tryz.prog 28 #[.pointer (some ⟨b, 0, none⟩), .string s] w fun e w' => e = .returned (.tuple #[.int .i64 s.size, .nilIface]) ∧ (Lib.BuilderAt 59 5 B b (.pointer (some ⟨b, 0, none⟩)) (bs ++ Lib.strCells s) w' ∧ Below B w w' ∧ Kept b w w') := by
  obtain ⟨i0, hi, hz0, hz1, hz2⟩ := info_parts byte_info
  have HH := Lib.hid h
  clear h
  go_enter Tryz.func28, Tryz.ntmps28
  go_wp2_with (first
    | (go_at_call 43; refine (copyCheck_kept B b bs _ HH.out).mono ?_; rintro e w1 ⟨rfl, ⟨hB, v, hbk, hown, hne⟩, hb1, hk1⟩; have c1 : w1.cell? ⟨b, 1, none⟩ = some v := (by rw [Lib.cell_of_heap hbk]; rfl))
    | (at_builtin; refine Lib.wpList_append_own_string _ rfl _ _ 22 9 rfl B 5 i0 bytes_und str_und hi hz0 hz1 hz2 _ _ _ rfl hown s rfl (by unfold maxLen; omega) (by omega) (by have := hb1.size; omega) ?_; intro v' w2 hown' hgrow _; have hlt : b < w1.heap.size := heap_lt hbk; have hb2 : w2.heap[b]? = some (.cells #[.pointer (some ⟨b, 0, none⟩), v] 59 (0, 0)) := (by rw [hgrow.block b hlt (fun e => hne e.symm)]; exact hbk); have d1 : w2.cell? ⟨b, 1, none⟩ = some v := (by rw [Lib.cell_of_heap hb2]; rfl); have f1 : w2.frozen? ⟨b, 1, none⟩ = false := Lib.frozen_of_heap hb2 1; obtain ⟨ao, cap, rfl, _⟩ := row_shapeB hown'))
  have hfin : Lib.BuilderAt 59 5 B b (.pointer (some ⟨b, 0, none⟩)) (bs ++ Lib.strCells s) (w2.setCell ⟨b, 1, none⟩ (.slice ao (bs.length + s.size) cap)) := Lib.BuilderAt.put hB hb2 (bs' := bs ++ Lib.strCells s) (by simpa [Lib.strCells_length] using hown') (by decide)
  have hbel : Below B w (w2.setCell ⟨b, 1, none⟩ (.slice ao (bs.length + s.size) cap)) := (hb1.grown hgrow (by have := hb1.size; omega) (fun k hk => (hown.lt k hk).1)).setCell (p := ⟨b, 1, none⟩) hB _
  exact bodyPost_ret (v := .tuple #[.int .i64 s.size, .nilIface]) (by simp [results, Tryz.results28, go_sem]) rfl ⟨rfl, hfin, hbel, (hk1.trans (Kept.grown hown hgrow)).trans (Kept.setCell _ _)⟩
theorem Kept.alloc {b : Nat} (w : World) (o : Obj) : Kept b w (w.alloc o) := fun X o' hx _ _ => by
  rw [Below.heap_alloc _ _ _ (Array.getElem?_eq_some_iff.1 hx).1]; exact hx
theorem Kept.keeps {B b n : Nat} {w w' : World} {v : Value} {xs : List Value} (h : w.ownsRow B 5 1 v n xs) (hk : Keeps (fun g => some g = v.ownBlock) w w') : Kept b w w' := fun X o hx _ ho => by
  refine hk.heap hx fun e => ?_
  rcases h.2 with ⟨rfl, _⟩ | ⟨g, cap, cur, rfl, _, hc, _⟩
  · cases e
  · cases e
    rw [hc] at hx
    exact ho _ _ (Option.some.inj hx).symm
theorem Kept.below {b : Nat} {w w' : World} (h : Below w.heap.size w w') : Kept b w w' := fun X o hx _ _ => (h.block X (Array.getElem?_eq_some_iff.1 hx).1).trans hx
set_option maxHeartbeats 1000000 in
set_option maxRecDepth 100000 in
theorem writeByte_kept (B b : Nat) (bs : List Value) (c : Nat) (w : World) (h : Lib.IsBuilder 59 5 B b bs w) (hlen : bs.length + 1 ≤ 140737488355328) (hBw : B ≤ w.heap.size) :
    Calls Tryz.prog 27 #[.pointer (some ⟨b, 0, none⟩), .int .u8 (c : Int)] w fun e w' => e = .returned (.nilIface) ∧ (Lib.BuilderAt 59 5 B b (.pointer (some ⟨b, 0, none⟩)) (bs ++ [.int .u8 (c : Int)]) w' ∧ Below B w w' ∧ Kept b w w') := by
  obtain ⟨i0, hi, hz0, hz1, hz2⟩ := info_parts byte_info
  have HH := Lib.hid h
  clear h
  go_enter Tryz.func27, Tryz.ntmps27
  go_wp2_with (first
    | (go_at_call 43; refine (copyCheck_kept B b bs _ HH.out).mono ?_; rintro e w1 ⟨rfl, ⟨hB, v, hbk, hown, hne⟩, hb1, hk1⟩; have c1 : w1.cell? ⟨b, 1, none⟩ = some v := (by rw [Lib.cell_of_heap hbk]; rfl); have hbk1 : (w1.alloc (.cells #[.int .u8 (c : Int)] 5)).heap[b]? = some (.cells #[.pointer (some ⟨b, 0, none⟩), v] 59 (0, 0)) := (Below.heap_alloc _ _ _ (heap_lt hbk)).trans hbk; have hnw : ∀ (j : Nat) u, ([.int .u8 (c : Int)] : List Value)[j]? = some u → (w1.alloc (.cells #[.int .u8 (c : Int)] 5)).cell? ((⟨w1.heap.size, 0, none⟩ : Addr).add j) = some u := by intro j u hu; match j, hu with | 0, hu => simp at hu; subst hu; exact cell_of_block (World.alloc_heap_new w1 _) rfl | j + 1, hu => simp at hu)
    | (at_builtin; refine wpList_append_O _ rfl _ _ 22 rfl B 5 i0 _ 1 1 bytes_und hi hz0 hz1 hz2 rfl (by decide) v bs.length bs rfl (hown.alloc _) ⟨w1.heap.size, 0, none⟩ 1 1 [.int .u8 (c : Int)] rfl rfl hnw (by intro u hu; simp at hu; subst hu; rfl) (by unfold maxLen; omega) (by omega) (by have := hb1.size; simp; omega) ?_; intro v' w2 hown' hkeep hblk _; have hlt : b < w1.heap.size := heap_lt hbk; have hb2 : w2.heap[b]? = some (.cells #[.pointer (some ⟨b, 0, none⟩), v] 59 (0, 0)) := hkeep.heap hbk1 (fun e => hne e.symm); have d1 : w2.cell? ⟨b, 1, none⟩ = some v := (by rw [Lib.cell_of_heap hb2]; rfl); have f1 : w2.frozen? ⟨b, 1, none⟩ = false := Lib.frozen_of_heap hb2 1; obtain ⟨ao, cap, rfl, _⟩ := row_shapeB hown'))
  have hfin : Lib.BuilderAt 59 5 B b (.pointer (some ⟨b, 0, none⟩)) (bs ++ [.int .u8 (c : Int)]) (w2.setCell ⟨b, 1, none⟩ (.slice ao (bs.length + 1) cap)) := Lib.BuilderAt.put hB hb2 (bs' := bs ++ [.int .u8 (c : Int)]) (by simpa using hown') (by decide)
  have hbel : Below B w (w2.setCell ⟨b, 1, none⟩ (.slice ao (bs.length + 1) cap)) := ((hb1.trans (((Below.refl _ w1).alloc (Nat.le_refl _) (.cells #[.int .u8 (c : Int)] 5)).mono (Nat.le_trans hBw hb1.size))).trans (hkeep.below (n := B) (by have := hb1.size; simp; omega) fun k hk => (hown.lt k hk.symm).1)).setCell (p := ⟨b, 1, none⟩) hB _
  go_ret
  exact ⟨rfl, hfin, hbel, ((hk1.trans (Kept.alloc _ _)).trans (Kept.keeps (hown.alloc _) hkeep)).trans (Kept.setCell _ _)⟩
theorem builder_stays {B b : Nat} {p : Value} {bs : List Value} {w w' : World} (h : Lib.BuilderAt 59 5 B b p bs w) (hb : Below w.heap.size w w') : Lib.BuilderAt 59 5 B b p bs w' := by
  obtain ⟨hB, v, hbk, hown, hne⟩ := h
  exact ⟨hB, v, (hb.block _ (heap_lt hbk)).trans hbk, ownsRow_keeps hown (Keeps.of_below' (O := fun _ => False) hb) (fun _ _ h => h), hne⟩
end Go.Proofs.YtiinhkfbgecbjaaGreatDoor
