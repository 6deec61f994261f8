/- What the lexer lays on its stack and takes off. Its condition: how the lexer lies in memory. -/
import Derived.Test.YtiinhkfbgecbjaaGreatDoorLx7
import Derived.RegionTactic
import Derived.BigRegion
namespace Go.Proofs.YtiinhkfbgecbjaaGreatDoor
set_option linter.unusedSimpArgs false
set_option linter.unusedVariables false
open Go.RowKit Go.Sub

theorem hi3 : (Tryz.prog.info? 3).map (fun i => (i.zero, i.size, i.bytes)) = some (some (.int .i64 0), 1, 8) := by kernel_rfl
theorem stack_und : Tryz.prog.underlying 46 = some (.slice 3) := by kernel_rfl
variable {w : World} {X : Nat} {s : ByteArray} {at' : Nat} {v : Value} {st : List Nat} {inn : Bool} {er : Int}
/-- what of a world a step of the lexer may turn -/
def lexO (X : Nat) (v : Value) (b : Nat) : Prop := b = X ∨ some b = v.ownBlock
theorem LexSt.keeps {w' : World} {O : Nat → Prop} (h : LexSt w X s at' v st inn er) (k : Keeps O w w') (hX : ¬ O X) (hv : ∀ g, some g = v.ownBlock → ¬ O g) : LexSt w' X s at' v st inn er :=
  ⟨k.heap h.blk hX, ownsRow_keeps h.own k hv⟩
theorem LexSt.below {w' : World} (h : LexSt w X s at' v st inn er) (k : Below w.heap.size w w') : LexSt w' X s at' v st inn er :=
  h.keeps (O := fun _ => False) (Keeps.of_below' k) (fun h => h) (fun _ _ h => h)
/-- a cell of the lexer's block is set -/
theorem LexSt.set {cs : Array Value} {o : Nat} {u : Value} (h : LexSt w X s at' v st inn er) (hcs : cs = (#[.string s, .int .i64 at', v, .bool inn, .int .u16 er] : Array Value).setIfInBounds o u) : (w.setCell ⟨X, o, none⟩ u).heap[X]? = some (.cells cs 80 (0, 0)) := by
  rw [hcs]; exact heap_setCell_same w X o _ _ u h.blk
theorem keeps_setCell (w : World) (X o : Nat) (u : Value) {O : Nat → Prop} (hO : O X) : Keeps O w (w.setCell ⟨X, o, none⟩ u) :=
  ⟨rfl, rfl, rfl, by simp, fun b _ hb => heap_setCell_other w _ b u fun e => hb (by rw [e]; exact hO)⟩
theorem own_succ {w : World} {b e sz n : Nat} {v : Value} {xs : List Value} (h : w.ownsRow b e sz v (n + 1) xs) : ∃ g cap, v = .slice (some ⟨g, 0, none⟩) (n + 1) cap := by
  rcases h.2 with ⟨_, h⟩ | ⟨g, cap, cur, h, _⟩
  · omega
  · exact ⟨g, cap, h⟩
theorem stack_push (k : Nat) (st : List Nat) : stackC st ++ [.int .i64 (k : Int)] = stackC (k :: st) := by unfold stackC; simp

set_option maxRecDepth 100000 in
set_option maxHeartbeats 1000000 in
theorem push_calls (h : LexSt w X s at' v st inn er) (k : Nat) (hst : st.length ≤ 300) (hX : X < w.heap.size) :
    Calls Tryz.prog 90 #[.pointer (some ⟨X, 2, none⟩), .int .i64 (k : Int)] w fun e w' => ∃ v', e = .returned (.tuple #[]) ∧ LexSt w' X s at' v' (k :: st) inn er ∧ Keeps (lexO X v) w w' ∧ (v'.ownBlock = v.ownBlock ∨ ∃ g, v'.ownBlock = some g ∧ w.heap.size ≤ g) := by
  obtain ⟨i0, hi, hz0, hz1, hz2⟩ := info_parts hi3
  have hB1 : Below w.heap.size w (w.alloc (.cells #[.int .i64 (k : Int)] 3)) := (Below.refl _ _).alloc (Nat.le_refl _) _
  have h1 := h.below hB1
  have hnew : ∀ (j : Nat) u, ([.int .i64 (k : Int)] : List Value)[j]? = some u → (w.alloc (.cells #[.int .i64 (k : Int)] 3)).cell? ((⟨w.heap.size, 0, none⟩ : Addr).add j) = some u := by
    intro j u hu
    match j, hu with
    | 0, hu =>
      have e : (⟨w.heap.size, 0, none⟩ : Addr).add 0 = ⟨w.heap.size, 0, none⟩ := by unfold Addr.add; split <;> simp_all
      rw [e]
      simp at hu
      rw [← hu]
      exact (Boxed.new w 3 (.int .i64 (k : Int))).cell
    | j + 1, hu => simp at hu
  have c2 := h.c2
  go_enter Tryz.func90, Tryz.ntmps90
  go_wp2_with (at_builtin; refine wpList_append_O _ rfl _ _ 46 rfl (X + 1) 3 i0 (.int .i64 0) 1 8 stack_und hi hz0 hz1 hz2 rfl (by decide) v st.length (stackC st) rfl h1.own ⟨w.heap.size, 0, none⟩ 1 1 [.int .i64 (k : Int)] rfl rfl hnew (by intro u hu; simp at hu; subst hu; rfl) (by simp only [maxLen]; omega) (by omega) (by simp; omega) ?_; intro v' w1 hown hkeep hblk _; rw [stack_push] at hown; obtain ⟨g', cap', rfl⟩ := own_succ hown; have hblk' := hkeep.heap h1.blk (fun e => h.apart e.symm); have c2' : w1.cell? ⟨X, 2, none⟩ = some v := cell_of_block hblk' rfl; have f2' : w1.frozen? ⟨X, 2, none⟩ = false := frozen_of_row w1 X 2 _ _ hblk'; have Hown := Lib.hid hown; have Hblk := Lib.hid hblk; have Hblk' := Lib.hid hblk'; have Hkeep := Lib.hid hkeep; clear hown hblk hblk' hkeep)
  go_end0
  have hnX : (Value.slice (some ⟨g', 0, none⟩) (st.length + 1) cap').ownBlock ≠ some X := by
    intro e
    have := Hown.out.lt X e
    omega
  refine ⟨_, rfl, ⟨heap_setCell_same w1 X 2 _ _ _ Hblk'.out, ownsRow_setCell_other Hown.out hnX _⟩, ?_, ?_⟩
  · exact ((Keeps.of_below' hB1).trans' (Hkeep.out.mono (O' := lexO X v) fun b _ hb => .inr hb) fun _ _ hb => hb).trans (keeps_setCell w1 X 2 _ (.inl rfl))
  · rcases Hblk.out with e | e
    · exact .inl e
    · exact .inr ⟨_, e, by simp⟩

theorem stack_len (st : List Nat) : (stackC st).length = st.length := by unfold stackC; simp
theorem own_pop {w : World} {B t : Nat} {rest : List Nat} {g cap : Nat} (h : w.ownsRow B 3 1 (.slice (some ⟨g, 0, none⟩) (rest.length + 1) cap) (rest.length + 1) (stackC (t :: rest))) : w.ownsRow B 3 1 (.slice (some ⟨g, 0, none⟩) rest.length cap) rest.length (stackC rest) := by
  refine ⟨by rw [stack_len]; omega, ?_⟩
  rcases h.2 with ⟨h1, _⟩ | ⟨g', cap', cur, h1, h2, h3, h4, h5, h6, h7⟩
  · cases h1
  · cases h1
    refine .inr ⟨g, cap, cur, rfl, h2, h3, by omega, h5, h6, ?_⟩
    rw [← stack_push] at h7
    have h8 := congrArg (List.take rest.length) h7
    rw [List.take_take, List.take_left' (stack_len rest)] at h8
    rw [← h8]
    congr 1; omega
theorem LexSt.drewN (h : LexSt w X s at' v st inn er) (n : Nat) : LexSt (w.drewN n) X s at' v st inn er := ⟨h.blk, h.own⟩

set_option maxRecDepth 100000 in
set_option maxHeartbeats 1000000 in
theorem pop_calls {t : Nat} {rest : List Nat} {g cap : Nat} (h : LexSt w X s at' (.slice (some ⟨g, 0, none⟩) (rest.length + 1) cap) (t :: rest) inn er) :
    Calls Tryz.prog 106 #[.pointer (some ⟨X, 2, none⟩)] w fun e w' => e = .returned (.tuple #[]) ∧ LexSt w' X s at' (.slice (some ⟨g, 0, none⟩) rest.length cap) rest inn er ∧ Keeps (fun b => b = X) w w' := by
  have c2 := h.c2
  have f2 := h.free 2
  have hown := own_pop h.own
  have hgX : (Value.slice (some ⟨g, 0, none⟩) rest.length cap).ownBlock ≠ some X := h.apart
  have hcap : rest.length ≤ cap ∧ cap ≤ 9223372036854775807 := by
    rcases h.nil_or with ⟨h1, _⟩ | ⟨t', rest', g', cap', cur, h1, h2, h3, h4, h5, h6, h7, h8⟩
    · simp at h1
    · cases h1; cases h2
      simp only [maxLen] at h6; omega
  obtain ⟨hc1, hc2⟩ := hcap
  have Hown := Lib.hid hown
  have Hblk := Lib.hid h.blk
  have HgX := Lib.hid hgX
  clear hown hgX h
  generalize hn : rest.length = n at *
  have Hn := Lib.hid hn
  clear hn
  have w1 : IntKind.i64.wrap (((n : Int) + 1) - 1) = (n : Int) := by rw [IntWalk.i64_in _ (by omega)]; omega
  have w2 : ((n : Int) + 1) - 1 = (n : Int) := by omega
  go_enter Tryz.func106, Tryz.ntmps106
  go_wp2
  go_region
  all_goals
    go_end0
    refine ⟨rfl, ⟨heap_setCell_same w X 2 _ _ _ Hblk.out, ?_⟩, (keeps_setCell (O := fun b => b = X) w X 2 _ rfl).trans (Keeps.drew _)⟩
    rw [Hn.out]
    exact ownsRow_setCell_other Hown.out HgX.out _
end Go.Proofs.YtiinhkfbgecbjaaGreatDoor
