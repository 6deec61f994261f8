/- The lexer's stack of brackets that are open: what lies on top, and what is laid there and taken off. Its condition: how the lexer lies in memory. -/
import Derived.Test.YtiinhkfbgecbjaaGreatDoorLx6
import Derived.Test.YtiinhkfbgecbjaaGreatDoorAppend
import Derived.OneCell
import Derived.Laws.Rows
namespace Go.Proofs.YtiinhkfbgecbjaaGreatDoor
set_option linter.unusedSimpArgs false
set_option linter.unusedVariables false
open Go.RowKit Go.Sub

def stackC (st : List Nat) : List Value := st.reverse.map fun n : Nat => Value.int .i64 (n : Int)
/-- how a lexer lies: its block, and the row of its stack -/
structure LexSt (w : World) (X : Nat) (s : ByteArray) (at' : Nat) (v : Value) (st : List Nat) (inn : Bool) (er : Int) : Prop where
  blk : w.heap[X]? = some (.cells #[.string s, .int .i64 at', v, .bool inn, .int .u16 er] 80 (0, 0))
  own : w.ownsRow (X + 1) 3 1 v st.length (stackC st)
variable {w : World} {X : Nat} {s : ByteArray} {at' : Nat} {v : Value} {st : List Nat} {inn : Bool} {er : Int}
theorem LexSt.c0 (h : LexSt w X s at' v st inn er) : w.cell? ⟨X, 0, none⟩ = some (.string s) := cell_of_block h.blk rfl
theorem LexSt.c1 (h : LexSt w X s at' v st inn er) : w.cell? ⟨X, 1, none⟩ = some (.int .i64 at') := cell_of_block h.blk rfl
theorem LexSt.c2 (h : LexSt w X s at' v st inn er) : w.cell? ⟨X, 2, none⟩ = some v := cell_of_block h.blk rfl
theorem LexSt.c3 (h : LexSt w X s at' v st inn er) : w.cell? ⟨X, 3, none⟩ = some (.bool inn) := cell_of_block h.blk rfl
theorem LexSt.c4 (h : LexSt w X s at' v st inn er) : w.cell? ⟨X, 4, none⟩ = some (.int .u16 er) := cell_of_block h.blk rfl
theorem LexSt.free (h : LexSt w X s at' v st inn er) (o : Nat) : w.frozen? ⟨X, o, none⟩ = false := frozen_of_row w X o _ _ h.blk
theorem LexSt.apart (h : LexSt w X s at' v st inn er) : v.ownBlock ≠ some X := by
  intro e
  have := h.own.lt X e
  omega
/-- the stack is empty, or a row whose last cell is on top -/
theorem LexSt.nil_or (h : LexSt w X s at' v st inn er) : st = [] ∧ (∃ p cap, v = .slice p 0 cap) ∨ ∃ t rest g cap cur, st = t :: rest ∧ v = .slice (some ⟨g, 0, none⟩) (rest.length + 1) cap ∧ X + 1 ≤ g ∧ w.heap[g]? = some (.cells cur 3 (0, 0)) ∧ rest.length + 1 ≤ cap ∧ cap ≤ maxLen ∧ cur.size = cap ∧ cur.toList.take (rest.length + 1) = stackC (t :: rest) := by
  obtain ⟨_, h2⟩ := h.own
  match st, h2 with
  | [], .inl ⟨h, _⟩ => exact .inl ⟨rfl, none, 0, h⟩
  | [], .inr ⟨g, cap, cur, h, _⟩ => exact .inl ⟨rfl, some ⟨g, 0, none⟩, cap, h⟩
  | t :: rest, .inl ⟨_, h⟩ => simp at h
  | t :: rest, .inr ⟨g, cap, cur, h1, h2, h3, h4, h5, h6, h7⟩ =>
    exact .inr ⟨t, rest, g, cap, cur, rfl, h1, h2, h3, h4, h5, by rw [h6]; omega, by rw [← h7, Nat.mul_one]; rfl⟩
theorem stack_top (t : Nat) (rest : List Nat) : (stackC (t :: rest))[rest.length]? = some (.int .i64 (t : Int)) := by
  unfold stackC
  simp

set_option maxRecDepth 100000 in
theorem top_nil (h : LexSt w X s at' v [] inn er) :
    Calls Tryz.prog 65 #[.pointer (some ⟨X, 2, none⟩)] w fun e w' => e = .returned (.pointer none) ∧ w' = w := by
  rcases h.nil_or with ⟨_, p, cap, rfl⟩ | ⟨t, rest, g, cap, cur, h1, _⟩
  · have c2 := h.c2
    go_enter Tryz.func65, Tryz.ntmps65
    go_wp2
    go_ret
    exact ⟨rfl, rfl⟩
  · simp at h1
set_option maxRecDepth 100000 in
set_option maxHeartbeats 1000000 in
theorem top_some {t : Nat} {rest : List Nat} {g cap : Nat} (h : LexSt w X s at' (.slice (some ⟨g, 0, none⟩) (rest.length + 1) cap) (t :: rest) inn er) :
    Calls Tryz.prog 65 #[.pointer (some ⟨X, 2, none⟩)] w fun e w' => e = .returned (.pointer (some ⟨g, rest.length, none⟩)) ∧ ∃ n, w' = w.drewN n := by
  have c2 := h.c2
  have hl : rest.length + 1 ≤ 9223372036854775807 := by
    rcases h.nil_or with ⟨h1, _⟩ | ⟨t', rest', g', cap', cur, h1, h2, h3, h4, h5, h6, h7, h8⟩
    · simp at h1
    · cases h1
      simp only [maxLen] at h6; omega
  generalize rest.length = n at *
  clear h
  have w1 : IntKind.i64.wrap (((n : Int) + 1) - 1) = (n : Int) := by rw [IntWalk.i64_in _ (by omega)]; omega
  have w2 : ((n : Int) + 1) - 1 = (n : Int) := by omega
  go_enter Tryz.func65, Tryz.ntmps65
  go_wp2
  go_quiet (fail)
  go_wp2
  go_ret
  exact ⟨rfl, _, rfl⟩
end Go.Proofs.YtiinhkfbgecbjaaGreatDoor
