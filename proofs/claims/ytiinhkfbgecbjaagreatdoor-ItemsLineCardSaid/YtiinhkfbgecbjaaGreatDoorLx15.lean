/- The lexer's iterator as a contract on a range over it. Its condition: how the lexer lies in memory; a text of at most 65536 bytes. -/
import Derived.Test.YtiinhkfbgecbjaaGreatDoorLx14
namespace Go.Proofs.YtiinhkfbgecbjaaGreatDoor
set_option linter.unusedSimpArgs false
set_option linter.unusedVariables false
open Go.RowKit Go.Sub

theorem lex_stops (n : Nat) (hn : 3 ≤ n) (X B1 : Nat) (s : ByteArray) (hs : s.size ≤ 65536) (hd1 : B1 ≠ X) (w : World) (hst : LexSt w X s 0 (.slice none 0 0) [] false 0) (hb1 : Boxed w B1 76 (.pointer (some ⟨X, 0, none⟩))) :
    SeqO Fence.wide n Tryz.prog 60 #[.pointer (some ⟨B1, 0, none⟩)] (tokV s.data.toList) (fun b => b = X) (fun b => b = B1) (fun ys W' => Done s X ys W') (fun _ _ => True) 65537 w := fun l J Jx W O hW hO hJ hY h0 =>
  (all_in n hn l X B1 s hs hd1 J Jx W O hO hJ hY (hst.below hW) (boxed_keeps hb1 (Keeps.of_below' (O := fun _ => False) hW) (fun h => h)) h0).mono fun e W' ⟨he, h⟩ => ⟨he, h.imp id fun ⟨pre, O', hx⟩ => ⟨pre, O', trivial, hx⟩⟩
end Go.Proofs.YtiinhkfbgecbjaaGreatDoor
