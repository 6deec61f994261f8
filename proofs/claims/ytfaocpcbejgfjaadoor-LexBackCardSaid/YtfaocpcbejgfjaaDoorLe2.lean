/- The chapter's examples hold, and the text that choices say. Its condition: the choices' cells hold bytes. -/
import Derived.Test.YtfaocpcbejgfjaaDoorLe1
namespace Go.Proofs.YtfaocpcbejgfjaaDoor
open Go.RowKit Go.Sub

theorem tokens_some {s : ByteArray} {ys : List Tok3} {n : Nat} (h : tokensN s = (ys, 0, 0)) (hn : ys.length = n + 1) (hs : s.size < 4611686018427387904) (w : World) :
    Calls Tryd.prog 11 #[.string s] w fun e w' => ∃ g cap, e = .returned (.tuple #[.slice (some ⟨g, 0, none⟩) (n + 1) cap, .int .u16 0, .int .i64 0]) ∧ (∀ j u, (tokC s.data.toList ys)[j]? = some u → w'.cell? ⟨g, j, none⟩ = some u) ∧ w'.ownsRow w.heap.size 32 2 (.slice (some ⟨g, 0, none⟩) (n + 1) cap) (n + 1) (tokC s.data.toList ys) ∧ Below w.heap.size w w' := by
  have hc := tokens_calls s w hs
  rw [h] at hc
  refine hc.mono ?_
  rintro e w' ⟨v, rfl, hrow, hb⟩
  dsimp only at hrow
  rw [hn] at hrow
  obtain ⟨g, cap, rfl⟩ := own_succ hrow
  exact ⟨g, cap, rfl, fun j u hx => row_cells hrow j hx, hrow, hb⟩
theorem tokens_none {s : ByteArray} {er : Nat} {at' : Int} (h : tokensN s = ([], er, at')) (hs : s.size < 4611686018427387904) (w : World) :
    Calls Tryd.prog 11 #[.string s] w fun e w' => ∃ p cap, e = .returned (.tuple #[.slice p 0 cap, .int .u16 (er : Int), .int .i64 at']) ∧ Below w.heap.size w w' := by
  have hc := tokens_calls s w hs
  rw [h] at hc
  refine hc.mono ?_
  rintro e w' ⟨v, rfl, ⟨_, hrow⟩, hb⟩
  rcases hrow with ⟨rfl, _⟩ | ⟨g, cap, cur, rfl, _⟩
  · exact ⟨none, 0, rfl, hb⟩
  · exact ⟨_, cap, rfl, hb⟩
theorem below_cell {a b : World} (h : Below a.heap.size a b) {p : Nat} {o : Nat} {v : Value} (hc : a.cell? ⟨p, o, none⟩ = some v) : b.cell? ⟨p, o, none⟩ = some v := (h.cell (World.block_lt_of_cell? _ _ hc)).trans hc
set_option maxRecDepth 100000 in
set_option maxHeartbeats 4000000 in
theorem known_calls (w : World) :
    Calls Tryd.prog 12 #[] w fun e w' => e = .returned (.bool true) ∧ Below w.heap.size w w' := by
  have c1 : ∀ w, Calls Tryd.prog 11 #[.string ⟨#[46, 97, 124, 34, 120, 92, 40, 49, 41, 34]⟩] w fun e w' => ∃ g cap, e = .returned (.tuple #[.slice (some ⟨g, 0, none⟩) 8 cap, .int .u16 0, .int .i64 0]) ∧ (w'.cell? ⟨g, 0, none⟩ = some (.int .i64 4) ∧ w'.cell? ⟨g, 4, none⟩ = some (.int .i64 7) ∧ w'.cell? ⟨g, 7, none⟩ = some (.string ⟨#[120]⟩) ∧ w'.cell? ⟨g, 12, none⟩ = some (.int .i64 10) ∧ w'.cell? ⟨g, 14, none⟩ = some (.int .i64 11)) ∧ Below w.heap.size w w' := fun w =>
    (tokens_some ex1_told (n := 7) rfl (by decide) w).mono fun e w' ⟨g, cap, he, hc, _, hb⟩ => ⟨g, cap, he, ⟨hc 0 _ rfl, hc 4 _ rfl, hc 7 _ rfl, hc 12 _ rfl, hc 14 _ rfl⟩, hb⟩
  have c2 : ∀ w, Calls Tryd.prog 11 #[.string ⟨#[49, 32, 126]⟩] w fun e w' => ∃ p cap, e = .returned (.tuple #[.slice p 0 cap, .int .u16 11, .int .i64 2]) ∧ Below w.heap.size w w' := fun w => tokens_none ex2_told (by decide) w
  have C1 := Lib.hid c1
  have C2 := Lib.hid c2
  clear c1 c2
  go_enter Tryd.func12, Tryd.ntmps12
  go_wp2_with (first
    | (go_at_call 11; with_reducible refine (C1.out _).mono ?_; rintro e w1 ⟨g, cap, rfl, ⟨k0, k4, k7, k12, k14⟩, hb⟩; have Hb := Lib.hid hb; clear hb)
    | (go_at_call 11; with_reducible refine (C2.out _).mono ?_; rintro e w2 ⟨p2, cap2, rfl, hb2⟩; replace k0 := below_cell hb2 k0; replace k4 := below_cell hb2 k4; replace k7 := below_cell hb2 k7; replace k12 := below_cell hb2 k12; replace k14 := below_cell hb2 k14; have Hb2 := Lib.hid (Hb.out.trans (hb2.mono Hb.out.size)); clear hb2))
  go_ret
  exact ⟨rfl, Hb2.out⟩
end Go.Proofs.YtfaocpcbejgfjaaDoor
