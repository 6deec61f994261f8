/- What a run's tokens are, one behind the other. No condition. -/
import Derived.Test.YtfaocpcbejgfjaaDoorSm3
namespace Go.Proofs.YtfaocpcbejgfjaaDoor
open Go.RowKit Go.Sub

theorem step_kind {m : List UInt8} {st : List Nat} {inn : Bool} {k n : Nat} {st2 : List Nat} {inn2 : Bool} (hs : stepN m st inn = (k, n, st2, inn2, 0)) : 1 ≤ k ∧ k ≤ 13 := by
  unfold stepN at hs
  cases inn
  · rw [if_neg (by simp)] at hs
    unfold outN at hs
    cases hf : triesL.find? (fun x => decide (0 < x.2.2 m)) with
    | none => rw [hf] at hs; simp at hs
    | some x =>
      rw [hf] at hs
      have hx := List.mem_of_find?_eq_some hf
      have h1 : 1 ≤ x.1 ∧ x.1 ≤ 13 := by
        simp only [triesL, List.mem_cons, List.not_mem_nil, or_false] at hx
        rcases hx with rfl | rfl | rfl | rfl | rfl | rfl | rfl | rfl | rfl <;> decide
      simp only [Prod.mk.injEq] at hs
      rcases brk_which st x.1 (m.take (x.2.2 m)) with e | e <;> omega
  · rw [if_pos rfl] at hs
    unfold insN at hs
    split at hs
    · simp only [Prod.mk.injEq] at hs; omega
    · split at hs
      · simp only [Prod.mk.injEq] at hs; omega
      · split at hs
        · simp at hs
        · split at hs
          · simp at hs
          · simp only [Prod.mk.injEq] at hs; omega
theorem reach_kinds {l : List UInt8} {ys : List Tok3} {a : Nat} {st : List Nat} {inn : Bool} (h : Reach l ys a st inn) : ∀ x ∈ ys, (1 ≤ x.1 ∧ x.1 ≤ 13) ∧ 0 < x.2.2 ∧ x.2.1 + x.2.2 ≤ l.length := by
  induction h with
  | nil => intro x hx; simp at hx
  | @snoc pre a st inn k n st2 inn2 hr hlt hs ih =>
    intro x hx
    rcases List.mem_append.1 hx with h | h
    · exact ih x h
    · rw [List.mem_singleton.1 h]
      obtain ⟨f1, f2, f3, f4⟩ := reach_facts hr
      have hg := stepN_good (l.drop a) st inn a (fun e => by have := congrArg List.length e; rw [List.length_drop] at this; simp at this; omega) f2 f3
      rw [hs] at hg
      obtain ⟨g1, g2, _, _⟩ := hg rfl
      dsimp only at g1 g2
      rw [List.length_drop] at g2
      exact ⟨step_kind hs, g1, by show a + n ≤ _; omega⟩
theorem reach_join {l : List UInt8} {ys : List Tok3} {a : Nat} {st : List Nat} {inn : Bool} (h : Reach l ys a st inn) : joinL (ys.map (tokB l)) = l.take a := by
  induction h with
  | nil => rfl
  | @snoc pre a st inn k n st2 inn2 hr hlt hs ih =>
    have e : joinL ((pre ++ [(k, a, n)]).map (tokB l)) = joinL (pre.map (tokB l)) ++ (l.drop a).take n := by
      unfold joinL
      simp [tokB]
    rw [e, ih, List.take_add]
theorem tokens_shape {s : ByteArray} (hs : s.size ≤ 65536) {ys : List Tok3} {er : Nat} {z : Int} (h : tokensN s = (ys, er, z)) : (er ≠ 0 → ys = [] ∧ 0 ≤ z ∧ z ≤ s.size) ∧ (er = 0 → z = 0 ∧ (∀ x ∈ ys, (1 ≤ x.1 ∧ x.1 ≤ 13) ∧ 0 < x.2.2 ∧ x.2.1 + x.2.2 ≤ s.size) ∧ joinL (ys.map (tokB s.data.toList)) = s.data.toList ∧ ys.length ≤ s.size) := by
  unfold tokensN at h
  rw [if_neg (by omega)] at h
  split at h
  · simp only [Prod.mk.injEq] at h
    rename_i h0
    rcases check_range s s.size 0 (by omega) with hc | hc
    · omega
    · exact ⟨fun _ => ⟨h.1.symm, by omega, by omega⟩, fun e => by omega⟩
  · obtain ⟨ys', b, st2, inn2, er', h1, h2, h3⟩ := lex_whole s.data.toList
    rw [← Lib.size_eq] at h2 h3
    rw [h2] at h
    dsimp only at h
    obtain ⟨f1, f2, f3, f4⟩ := reach_facts h1
    rw [← Lib.size_eq] at f1
    by_cases he : er' = 0
    · rw [if_pos he] at h
      simp only [Prod.mk.injEq] at h
      obtain ⟨rfl, rfl, rfl⟩ := h
      refine ⟨fun e => absurd rfl e, fun _ => ⟨rfl, fun x hx => ?_, ?_, by omega⟩⟩
      · rw [Lib.size_eq]; exact reach_kinds h1 x hx
      · rw [reach_join h1]
        rcases h3 with ⟨_, h0, _⟩ | ⟨hb, _⟩
        · exact absurd he h0
        · rw [hb, Lib.size_eq, List.take_length]
    · rw [if_neg he] at h
      simp only [Prod.mk.injEq] at h
      obtain ⟨rfl, rfl, rfl⟩ := h
      exact ⟨fun _ => ⟨rfl, by omega, by omega⟩, fun e => absurd e he⟩
theorem right_own {s : ByteArray} (hs : s.size ≤ 65536) {ys : List Tok3} {z : Int} (h : tokensN s = (ys, 0, z)) : rightB (ys.map (tokB s.data.toList)) = true := by
  obtain ⟨_, _, hj, _⟩ := (tokens_shape hs h).2 rfl
  unfold rightB
  rw [hj]
  have e : (⟨s.data.toList.toArray⟩ : ByteArray) = s := by cases s; rfl
  rw [e, h]
  simp
end Go.Proofs.YtfaocpcbejgfjaaDoor
