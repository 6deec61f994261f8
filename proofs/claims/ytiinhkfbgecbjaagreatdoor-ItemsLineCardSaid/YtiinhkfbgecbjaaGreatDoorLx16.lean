/- The lexer's run as a plain function of the text. No condition. -/
import Derived.Test.YtiinhkfbgecbjaaGreatDoorLx15
namespace Go.Proofs.YtiinhkfbgecbjaaGreatDoor
set_option linter.unusedSimpArgs false
set_option linter.unusedVariables false
open Go.RowKit Go.Sub

theorem lexN_step {l : List UInt8} {at' : Nat} {st : List Nat} {inn : Bool} {k n : Nat} {st2 : List Nat} {inn2 : Bool} (h : at' < l.length) (hs : stepN (l.drop at') st inn = (k, n, st2, inn2, 0)) (F : Nat) :
    lexN (F + 1) l at' st inn = ((k, at', n) :: (lexN F l (at' + n) st2 inn2).1, (lexN F l (at' + n) st2 inn2).2) := by
  rw [lexN, if_neg (by omega), hs]
theorem reach_run {l : List UInt8} {pre : List Tok3} {at' : Nat} {st : List Nat} {inn : Bool} (h : Reach l pre at' st inn) : ∀ F, lexN (pre.length + F) l 0 [] false = (pre ++ (lexN F l at' st inn).1, (lexN F l at' st inn).2) := by
  induction h with
  | nil => intro F; simp
  | @snoc pre at' st inn k n st2 inn2 _ hlt hs ih =>
    intro F
    have e := ih (F + 1)
    rw [lexN_step hlt hs] at e
    rw [List.length_append, show pre.length + [(k, at', n)].length + F = pre.length + (F + 1) by simp only [List.length_cons, List.length_nil]; omega, e]
    simp
theorem done_run {s : ByteArray} {X : Nat} {ys : List Tok3} {W : World} (h : Done s X ys W) : ∃ (at' : Nat) (v : Value) (st2 : List Nat) (inn2 : Bool) (er : Nat), LexSt W X s at' v st2 inn2 (er : Int) ∧ ∀ F, lexN (ys.length + (F + 1)) s.data.toList 0 [] false = (ys, er, at') := by
  obtain ⟨at', st, inn, v, st2, inn2, er, hr, hl, h⟩ := h
  refine ⟨at', v, st2, inn2, er, hl, fun F => ?_⟩
  rw [reach_run hr]
  have hsz := Lib.size_eq s
  have e : lexN (F + 1) s.data.toList at' st inn = ([], er, at') := by
    rcases h with ⟨hlt, h0, he⟩ | ⟨hat, he⟩
    · generalize hst : stepN (s.data.toList.drop at') st inn = r at he
      obtain ⟨k, n, st3, inn3, e⟩ := r
      dsimp only at he
      subst he
      cases e with
      | zero => exact absurd rfl h0
      | succ e => rw [lexN, if_neg (by omega), hst]
    · rw [lexN, if_pos (by omega), he]
  rw [e]; simp
end Go.Proofs.YtiinhkfbgecbjaaGreatDoor
