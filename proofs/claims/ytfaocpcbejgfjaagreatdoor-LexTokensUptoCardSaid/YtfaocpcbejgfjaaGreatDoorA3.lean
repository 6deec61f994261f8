/- One step of the lexer inside of a string. Its condition: how the lexer lies in memory; a text of at most 65536 bytes. · One step of the lexer outside of strings. Its condition: how the lexer and its table lie in memory; a text of at most 65536 bytes. · Where bytes are no UTF-8, as the program reads it. Its condition: a text of fewer than 2^62 bytes. · The lexer's steps, one behind the other: what its iterator tells. Its condition: how the lexer and its table lie in memory; a text of at most 65536 bytes. · The lexer's iterator, walked (under way). · The lexer's iterator as a contract on a range over it. Its condition: how the lexer lies in memory; a text of at most 65536 bytes. · The lexer's run as a plain function of the text. No condition. · What is read at a text's front does not turn where the text is cut behind it. No condition. · Texts of whole runes: cut at an edge of a rune, and laid one behind the other. No condition. · The lexer's tokens, collected. Its condition: how the lexer lies in memory; a text of at most 65536 bytes. · What Tokens tells of any text. No condition but fewer than 2^62 bytes. · The lexer's run on a given text, so that it can be reckoned. No condition. · The chapter's examples hold, and the text that choices say. Its condition: the choices' cells hold bytes. -/
import Derived.Test.YtfaocpcbejgfjaaGreatDoorA2
import Derived.Laws.EntriesVeiled
import Derived.RangeFuncNested
import Derived.RangeFuncBound
import Derived.RangeFuncCalls
import Derived.RangeFuncLeaves
import Derived.Shelf.Abstract
import Derived.Shelf.RegionOpen
import Derived.OwnWalkIn
import Derived.TacticsInMore
import Derived.LoopNIn
import Derived.LoopIn
import Derived.RegionIn
import Derived.Test.YtfaocpcbejgfjaaGreatDoorA1
import Derived.Lib.TrimUEq
namespace Go.Proofs.YtfaocpcbejgfjaaGreatDoor
open Go.RowKit Go.Sub

/-- a step: the token's kind, its bytes, the stack, whether a string goes on, the error -/
abbrev Step5 := Nat × Nat × List Nat × Bool × Nat
def insN (l : List UInt8) (st : List Nat) : Step5 :=
  if 0 < pieceN l then (8, pieceN l, st, true, 0)
  else if l[0]? = some 34 then (11, 1, st, false, 0)
  else if Lib.hasPrefix l [92, 40] = false then (0, 0, st, true, 12)
  else if 256 ≤ st.length then (0, 0, st, true, 21)
  else (9, 2, 0 :: st, false, 0)
/-- what a step leaves -/
def Stepped (w : World) (X : Nat) (s : ByteArray) (at' : Nat) (v : Value) (r : Step5) (e : Ending) (w' : World) : Prop :=
  ∃ v' R, e = .returned (.agg #[.int .i64 (r.1 : Int), .string R]) ∧ R.data.toList = (s.data.toList.drop at').take r.2.1 ∧ LexSt w' X s at' v' r.2.2.1 r.2.2.2.1 (r.2.2.2.2 : Int) ∧ Keeps (lexO X v) w w' ∧ (v'.ownBlock = v.ownBlock ∨ ∃ g, v'.ownBlock = some g ∧ w.heap.size ≤ g)
variable {w : World} {X : Nat} {s : ByteArray} {at' : Nat} {v : Value} {st : List Nat} {inn : Bool} {er : Int}
theorem text_data (s : ByteArray) (at' n : Nat) : ((s.extract at' s.size).extract 0 n).data.toList = (s.data.toList.drop at').take n := by
  rw [Lib.extract_data, ext_data, List.drop_zero, Nat.sub_zero]
theorem piece_ext (s : ByteArray) (n : Nat) (hs : s.size ≤ 65536) (w : World) :
    Calls Tryz.prog 66 #[.string (s.extract n s.size)] w fun e w' => e = .returned (.int .i64 (pieceN (s.data.toList.drop n) : Nat)) ∧ Below w.heap.size w w' := by
  have := piece_calls (s.extract n s.size) (by have := ext_lt s n s.size (n := 65537) (by omega); omega) w
  rwa [ext_data] at this
theorem in_after {w1 : World} {n : Nat} {cs : Array Value} {t : TypeId} (h : LexSt w X s at' v st inn er) (hb : Below ((w.alloc (.cells cs t)).drewN n).heap.size ((w.alloc (.cells cs t)).drewN n) w1) :
    LexSt w1 X s at' v st inn er ∧ w1.heap[w.heap.size]? = some (.cells cs t (0, 0)) ∧ Below w.heap.size w w1 ∧ w.heap.size < w1.heap.size := by
  have hB1 : Below w.heap.size w ((w.alloc (.cells cs t)).drewN n) := below_drewN ((Below.refl _ _).alloc (Nat.le_refl _) _) n
  have hB : Below w.heap.size w w1 := hB1.trans (hb.mono hB1.size)
  have hn : ((w.alloc (.cells cs t)).drewN n).heap[w.heap.size]? = some (.cells cs t (0, 0)) := World.alloc_heap_new w _
  have hl := heap_lt hn
  exact ⟨h.below hB, (hb.block _ hl).trans hn, hB, Nat.lt_of_lt_of_le hl hb.size⟩
theorem in_done {w1 : World} {a b v1 : Value} {st1 : List Nat} {t : TypeId} {B : Nat} (hk : Keeps (lexO X v) w w1) (h1 : LexSt w1 X s at' v1 st1 inn er) (r : w1.heap[B]? = some (.cells #[a, b] t (0, 0))) (hX : X < w.heap.size) (hBn : w.heap.size ≤ B) (hv : ∀ g, some g = v1.ownBlock → ¬ g = B) (x y : Value) :
    ((w1.setCell ⟨B, 0, none⟩ x).setCell ⟨B, 1, none⟩ y).heap[B]? = some (.cells #[x, y] t (0, 0)) ∧ LexSt ((w1.setCell ⟨B, 0, none⟩ x).setCell ⟨B, 1, none⟩ y) X s at' v1 st1 inn er ∧ Keeps (lexO X v) w ((w1.setCell ⟨B, 0, none⟩ x).setCell ⟨B, 1, none⟩ y) := by
  have e1 := heap_setCell_same w1 B 0 _ _ x r
  have e2 := heap_setCell_same (w1.setCell ⟨B, 0, none⟩ x) B 1 _ _ y e1
  have k1 := keeps_setCell (O := fun b => b = B) w1 B 0 x rfl
  have k2 := keeps_setCell (O := fun b => b = B) (w1.setCell ⟨B, 0, none⟩ x) B 1 y rfl
  have k := k1.trans k2
  exact ⟨e2, h1.keeps k (by omega) hv, hk.trans' k fun b hb e => by omega⟩
theorem own_old (h : LexSt w X s at' v st inn er) {B : Nat} (hB : w.heap.size ≤ B) : ∀ g, some g = v.ownBlock → ¬ g = B := fun g hg e => by
  have := (h.own.lt g hg.symm).2
  omega
/-- the lexer's block, one cell of it set -/
theorem LexSt.setIn (h : LexSt w X s at' v st inn er) (b : Bool) : LexSt (w.setCell ⟨X, 3, none⟩ (.bool b)) X s at' v st b er :=
  ⟨heap_setCell_same w X 3 _ _ _ h.blk, ownsRow_setCell_other h.own h.apart _⟩
theorem LexSt.setErr (h : LexSt w X s at' v st inn er) (x : Int) : LexSt (w.setCell ⟨X, 4, none⟩ (.int .u16 x)) X s at' v st inn x :=
  ⟨heap_setCell_same w X 4 _ _ _ h.blk, ownsRow_setCell_other h.own h.apart _⟩
theorem LexSt.slice (h : LexSt w X s at' v st inn er) : ∃ p cap, v = .slice p st.length cap := by
  rcases h.nil_or with ⟨rfl, p, cap, rfl⟩ | ⟨t, rest, g, cap, cur, rfl, rfl, _⟩
  · exact ⟨p, cap, rfl⟩
  · exact ⟨_, cap, rfl⟩
theorem after_push {w1 w2 : World} {b0 : Bool} {cs : Array Value} {t : TypeId} {v' : Value} {k : Nat} {b : Bool} {er' : Int} (h : LexSt w X s at' v st inn er) (h1 : LexSt w1 X s at' v st b0 er') (r : w1.heap[w.heap.size]? = some (.cells cs t (0, 0))) (hB1 : Below w.heap.size w w1) (hX : X < w.heap.size)
    (h5 : LexSt w2 X s at' v' (k :: st) b er') (hk : Keeps (lexO X v) (w1.setCell ⟨X, 3, none⟩ (.bool b)) w2) (hv : v'.ownBlock = v.ownBlock ∨ ∃ g, v'.ownBlock = some g ∧ (w1.setCell ⟨X, 3, none⟩ (.bool b)).heap.size ≤ g) :
    w2.heap[w.heap.size]? = some (.cells cs t (0, 0)) ∧ Keeps (lexO X v) w w2 ∧ (∀ g, some g = v'.ownBlock → ¬ g = w.heap.size) ∧ (v'.ownBlock = v.ownBlock ∨ ∃ g, v'.ownBlock = some g ∧ w.heap.size ≤ g) ∧ True ∧ True ∧ True := by
  have hnB : ¬ lexO X v w.heap.size := fun e => e.elim (fun e => by omega) (fun e => own_old h (Nat.le_refl _) _ e rfl)
  have k3 := keeps_setCell (O := lexO X v) w1 X 3 (.bool b) (.inl rfl)
  have hlt := heap_lt r
  refine ⟨hk.heap (k3.heap r hnB) hnB, ((Keeps.of_below' hB1).trans k3).trans hk, fun g hg e => ?_, ?_, trivial, trivial, trivial⟩
  · rcases hv with hv | ⟨g', hv, hg'⟩
    · exact own_old h (Nat.le_refl _) g (hg.trans hv) e
    · rw [hv] at hg; cases hg; simp at hg'; omega
  · rcases hv with hv | ⟨g', hv, hg'⟩
    · exact .inl hv
    · exact .inr ⟨g', hv, by simp at hg'; omega⟩
/-- the block of a token that is handed back -/
def tokZ : Obj := .cells #[.int .i64 0, .string ByteArray.empty] 32

set_option maxRecDepth 100000 in
set_option maxHeartbeats 4000000 in
theorem inside_calls (h : LexSt w X s at' v st true 0) (hat : at' < s.size) (hs : s.size ≤ 65536) (hst : st.length ≤ 256) (hX : X < w.heap.size) :
    Calls Tryz.prog 34 #[.pointer (some ⟨X, 0, none⟩)] w (Stepped w X s at' v (insN (s.data.toList.drop at') st)) := by
  have c0 := h.c0
  have c1 := h.c1
  have hp := piece_ext s at' hs
  have hple := pieceN_le _ (s.data.toList.drop at') (Nat.le_refl _)
  rw [List.length_drop, ← Lib.size_eq] at hple
  have hsl : (s.extract at' s.size).size = s.size - at' := ext_size s at'
  by_cases hp0 : 0 < pieceN (s.data.toList.drop at')
  · have hr : insN (s.data.toList.drop at') st = (8, pieceN (s.data.toList.drop at'), st, true, 0) := by unfold insN; rw [if_pos hp0]
    rw [hr]
    generalize pieceN (s.data.toList.drop at') = n at *
    have Hp := Lib.hid hp
    have H := Lib.hid h
    clear hp hr h
    go_enter Tryz.func34, Tryz.ntmps34
    go_wp2
    go_quiet (fail)
    go_wp2_with (go_at_call 66; refine (Hp.out _).mono ?_; rintro e w1 ⟨rfl, hb⟩; obtain ⟨h1, r, hB1, hlt⟩ := in_after H.out hb; clear hb c0 c1; have c0 := h1.c0; have c1 := h1.c1; have c2 := h1.c2; have c3 := h1.c3; have c4 := h1.c4; have f3 := h1.free 3; have f4 := h1.free 4; have r0 : w1.cell? ⟨w.heap.size, 0, none⟩ = some _ := cell_of_block r rfl; have r1 : w1.cell? ⟨w.heap.size, 1, none⟩ = some _ := cell_of_block r rfl; have rf0 := frozen_of_row w1 w.heap.size 0 _ _ r; have rf1 := frozen_of_row w1 w.heap.size 1 _ _ r; have H1 := Lib.hid h1; have R := Lib.hid r; clear h1 r)
    obtain ⟨e2, hL', hBl⟩ := in_done (v := v) (Keeps.of_below' hB1) H1.out R.out hX (Nat.le_refl _) (own_old H.out (Nat.le_refl _)) (.int .i64 8) (.string ((s.extract at' s.size).extract 0 n)) 
    have q0 := cell_of_block e2 (o := 0) rfl 
    have q1 := cell_of_block e2 (o := 1) rfl 
    exact bodyPost_ret (v := .agg #[.int .i64 8, .string ((s.extract at' s.size).extract 0 n)]) (by simp [results, Tryz.results34, go_sem, q0, q1]) rfl ⟨_, _, rfl, text_data s at' n, hL', hBl, .inl rfl⟩
  · obtain ⟨p, cap, rfl⟩ := h.slice
    have hpz : pieceN (s.data.toList.drop at') = 0 := by omega
    rw [hpz] at hp
    obtain ⟨L, hL⟩ : ∃ L, s.extract at' s.size = L := ⟨_, rfl⟩
    have hLd : L.data.toList = s.data.toList.drop at' := by rw [← hL, ext_data]
    rw [hL] at hsl hp
    have hL0 : 0 < L.size := by omega
    have hcons := cons_of L hL0
    have Hp := Lib.hid hp
    have H := Lib.hid h
    have HLd := Lib.hid hLd
    have hr : insN (s.data.toList.drop at') st = if (s.data.toList.drop at')[0]? = some 34 then (11, 1, st, false, 0) else if Lib.hasPrefix (s.data.toList.drop at') [92, 40] = false then (0, 0, st, true, 12) else if 256 ≤ st.length then (0, 0, st, true, 21) else (9, 2, 0 :: st, false, 0) := by
      unfold insN; rw [if_neg hp0]
    rw [hr, ← hLd]
    have hat0 : L.data.toList[0]? = some L[0] := by rw [hcons]; rfl
    have hpre := fun w => Tryz.strings_HasPrefix L ⟨#[92, 40]⟩ w
    clear hr hpz hp hcons h hLd hp0 hple
    cases h34 : (L[0] == 34)
    · rw [if_neg (by rw [hat0]; intro e; rw [Option.some.inj e] at h34; simp at h34)]
      have y1 : ((L[0].toNat : Int) == 34) = false := byte_beq 34 h34
      clear hat0 h34
      cases hpx : Lib.hasPrefix L.data.toList [92, 40]
      · have hpre2 : ∀ w, Calls Tryz.prog 30 #[.string L, .string ⟨#[92, 40]⟩] w fun e w' => e = .returned (.bool false) ∧ w' = w := fun w => by have := hpre w; rw [show (⟨#[92, 40]⟩ : ByteArray).data.toList = [92, 40] from rfl, hpx] at this; exact this
        have Hpre := Lib.hid hpre2
        rw [if_pos rfl]
        clear hpre hpre2 hpx
        go_enter Tryz.func34, Tryz.ntmps34
        go_wp2
        go_quiet (fail)
        go_wp2_with (first | (go_at_call 66; refine (Hp.out _).mono ?_; rintro e w1 ⟨rfl, hb⟩; obtain ⟨h1, r, hB1, hlt⟩ := in_after H.out hb; clear hb c0 c1; have c0 := h1.c0; have c1 := h1.c1; have c2 := h1.c2; have c3 := h1.c3; have c4 := h1.c4; have f3 := h1.free 3; have f4 := h1.free 4; have r0 : w1.cell? ⟨w.heap.size, 0, none⟩ = some _ := cell_of_block r rfl; have r1 : w1.cell? ⟨w.heap.size, 1, none⟩ = some _ := cell_of_block r rfl; have rf0 := frozen_of_row w1 w.heap.size 0 _ _ r; have rf1 := frozen_of_row w1 w.heap.size 1 _ _ r; have H1 := Lib.hid h1; have R := Lib.hid r; clear h1 r) | (go_at_call 30; with_reducible refine (Hpre.out _).mono ?_; rintro e w1 ⟨rfl, rfl⟩))
        have k4 := keeps_setCell (O := lexO X (.slice p st.length cap)) w1 X 4 (.int .u16 12) (.inl rfl) 
        have hnB : ¬ lexO X (.slice p st.length cap) w.heap.size := fun e => e.elim (fun e => by omega) (fun e => own_old H.out (Nat.le_refl _) _ e rfl) 
        obtain ⟨e2, hL', hBl⟩ := in_done (v := .slice p st.length cap) ((Keeps.of_below' hB1).trans k4) (H1.out.setErr 12) (k4.heap R.out hnB) hX (Nat.le_refl _) (own_old H.out (Nat.le_refl _)) _ _
        have q0 := cell_of_block e2 (o := 0) rfl 
        have q1 := cell_of_block e2 (o := 1) rfl 
        exact bodyPost_ret (v := .agg #[.int .i64 0, .string (⟨#[]⟩)]) (by simp [results, Tryz.results34, go_sem, q0, q1]) rfl ⟨_, _, rfl, rfl, hL', hBl, .inl rfl⟩
      · have hpre2 : ∀ w, Calls Tryz.prog 30 #[.string L, .string ⟨#[92, 40]⟩] w fun e w' => e = .returned (.bool true) ∧ w' = w := fun w => by have := hpre w; rw [show (⟨#[92, 40]⟩ : ByteArray).data.toList = [92, 40] from rfl, hpx] at this; exact this
        have Hpre := Lib.hid hpre2
        have hL2 : 2 ≤ L.size := by
          have := Lib.hasPrefix_le hpx
          rw [← Lib.size_eq] at this
          exact this
        rw [if_neg (by simp)]
        clear hpre hpre2 hpx
        by_cases h256 : 256 ≤ st.length
        · rw [if_pos h256]
          go_enter Tryz.func34, Tryz.ntmps34
          go_wp2
          go_quiet (fail)
          go_wp2_with (first | (go_at_call 66; refine (Hp.out _).mono ?_; rintro e w1 ⟨rfl, hb⟩; obtain ⟨h1, r, hB1, hlt⟩ := in_after H.out hb; clear hb c0 c1; have c0 := h1.c0; have c1 := h1.c1; have c2 := h1.c2; have c3 := h1.c3; have c4 := h1.c4; have f3 := h1.free 3; have f4 := h1.free 4; have r0 : w1.cell? ⟨w.heap.size, 0, none⟩ = some _ := cell_of_block r rfl; have r1 : w1.cell? ⟨w.heap.size, 1, none⟩ = some _ := cell_of_block r rfl; have rf0 := frozen_of_row w1 w.heap.size 0 _ _ r; have rf1 := frozen_of_row w1 w.heap.size 1 _ _ r; have H1 := Lib.hid h1; have R := Lib.hid r; clear h1 r) | (go_at_call 30; with_reducible refine (Hpre.out _).mono ?_; rintro e w1 ⟨rfl, rfl⟩))
          have k4 := keeps_setCell (O := lexO X (.slice p st.length cap)) w1 X 4 (.int .u16 21) (.inl rfl) 
          have hnB : ¬ lexO X (.slice p st.length cap) w.heap.size := fun e => e.elim (fun e => by omega) (fun e => own_old H.out (Nat.le_refl _) _ e rfl) 
          obtain ⟨e2, hL', hBl⟩ := in_done (v := .slice p st.length cap) ((Keeps.of_below' hB1).trans k4) (H1.out.setErr 21) (k4.heap R.out hnB) hX (Nat.le_refl _) (own_old H.out (Nat.le_refl _)) _ _
          have q0 := cell_of_block e2 (o := 0) rfl 
          have q1 := cell_of_block e2 (o := 1) rfl 
          exact bodyPost_ret (v := .agg #[.int .i64 0, .string (⟨#[]⟩)]) (by simp [results, Tryz.results34, go_sem, q0, q1]) rfl ⟨_, _, rfl, rfl, hL', hBl, .inl rfl⟩
        · rw [if_neg h256]
          go_enter Tryz.func34, Tryz.ntmps34
          go_wp2
          go_quiet (fail)
          have hR : (L.extract 0 2).data.toList = (s.data.toList.drop at').take 2 := by rw [Lib.extract_data, HLd.out]; rfl
          have HR := Lib.hid hR
          clear hR
          go_wp2_with (first | (go_at_call 66; refine (Hp.out _).mono ?_; rintro e w1 ⟨rfl, hb⟩; obtain ⟨h1, r, hB1, hlt⟩ := in_after H.out hb; clear hb c0 c1; have c0 := h1.c0; have c1 := h1.c1; have c2 := h1.c2; have c3 := h1.c3; have c4 := h1.c4; have f3 := h1.free 3; have f4 := h1.free 4; have r0 : w1.cell? ⟨w.heap.size, 0, none⟩ = some _ := cell_of_block r rfl; have r1 : w1.cell? ⟨w.heap.size, 1, none⟩ = some _ := cell_of_block r rfl; have rf0 := frozen_of_row w1 w.heap.size 0 _ _ r; have rf1 := frozen_of_row w1 w.heap.size 1 _ _ r; have H1 := Lib.hid h1; have R := Lib.hid r; clear h1 r) | (go_at_call 30; with_reducible refine (Hpre.out _).mono ?_; rintro e w1 ⟨rfl, rfl⟩) | (go_at_call 67; refine (push_calls (H1.out.setIn false) 0 (by omega) (by simp; omega)).mono ?_; rintro e w2 ⟨v', rfl, h5, hk5, hv5⟩; obtain ⟨a1, a2, a3, a4, a5, a6, a7⟩ := after_push H.out H1.out R.out hB1 hX h5 hk5 hv5; have r0 : w2.cell? ⟨w.heap.size, 0, none⟩ = some _ := cell_of_block a1 rfl; have r1 : w2.cell? ⟨w.heap.size, 1, none⟩ = some _ := cell_of_block a1 rfl; have rf0 := frozen_of_row w2 w.heap.size 0 _ _ a1; have rf1 := frozen_of_row w2 w.heap.size 1 _ _ a1; have R2 := Lib.hid a1; have Hk5 := Lib.hid a2; have H5 := Lib.hid h5; have HvB := Lib.hid a3; have Hv5 := Lib.hid a4; clear a1 a2 a3 a4 a5 a6 a7 h5 hk5 hv5))
          obtain ⟨e1, hL1, hBl1⟩ := in_done (v := .slice p st.length cap) Hk5.out H5.out R2.out hX (Nat.le_refl _) HvB.out (.int .i64 9) (.string (L.extract 0 2))
          obtain ⟨e2, hL', hBl⟩ := in_done (v := .slice p st.length cap) hBl1 hL1 e1 hX (Nat.le_refl _) HvB.out (.int .i64 9) (.string (L.extract 0 2))
          have q0 := cell_of_block e2 (o := 0) rfl
          have q1 := cell_of_block e2 (o := 1) rfl
          exact bodyPost_ret (v := .agg #[.int .i64 9, .string (L.extract 0 2)]) (by simp [results, Tryz.results34, go_sem, q0, q1]) rfl ⟨_, _, rfl, HR.out, hL', hBl, Hv5.out⟩
    · rw [if_pos (by rw [hat0, eq_of_beq h34])]
      have y1 : ((L[0].toNat : Int) == 34) = true := by rw [eq_of_beq h34]; rfl
      have hR : (L.extract 0 1).data.toList = (s.data.toList.drop at').take 1 := by rw [Lib.extract_data, HLd.out]; rfl
      have HR := Lib.hid hR
      clear hat0 h34 hpre hR
      go_enter Tryz.func34, Tryz.ntmps34
      go_wp2
      go_quiet (fail)
      go_wp2_with (go_at_call 66; refine (Hp.out _).mono ?_; rintro e w1 ⟨rfl, hb⟩; obtain ⟨h1, r, hB1, hlt⟩ := in_after H.out hb; clear hb c0 c1; have c0 := h1.c0; have c1 := h1.c1; have c2 := h1.c2; have c3 := h1.c3; have c4 := h1.c4; have f3 := h1.free 3; have f4 := h1.free 4; have r0 : w1.cell? ⟨w.heap.size, 0, none⟩ = some _ := cell_of_block r rfl; have r1 : w1.cell? ⟨w.heap.size, 1, none⟩ = some _ := cell_of_block r rfl; have rf0 := frozen_of_row w1 w.heap.size 0 _ _ r; have rf1 := frozen_of_row w1 w.heap.size 1 _ _ r; have H1 := Lib.hid h1; have R := Lib.hid r; clear h1 r)
      have k4 := keeps_setCell (O := lexO X (.slice p st.length cap)) w1 X 3 (.bool false) (.inl rfl) 
      have hnB : ¬ lexO X (.slice p st.length cap) w.heap.size := fun e => e.elim (fun e => by omega) (fun e => own_old H.out (Nat.le_refl _) _ e rfl) 
      obtain ⟨e2, hL', hBl⟩ := in_done (v := .slice p st.length cap) ((Keeps.of_below' hB1).trans k4) (H1.out.setIn false) (k4.heap R.out hnB) hX (Nat.le_refl _) (own_old H.out (Nat.le_refl _)) _ _
      have q0 := cell_of_block e2 (o := 0) rfl 
      have q1 := cell_of_block e2 (o := 1) rfl 
      exact bodyPost_ret (v := .agg #[.int .i64 11, .string (L.extract 0 1)]) (by simp [results, Tryz.results34, go_sem, q0, q1]) rfl ⟨_, _, rfl, HR.out, hL', hBl, .inl rfl⟩
end Go.Proofs.YtfaocpcbejgfjaaGreatDoor
namespace Go.Proofs.YtfaocpcbejgfjaaGreatDoor
open Go.RowKit Go.Sub

theorem behindN_le (c : UInt8) {f : List UInt8 → Nat} (hf : ∀ l, f l ≤ l.length) (l : List UInt8) : behindN c f l ≤ l.length := by
  match l with
  | [] => simp [behindN]
  | b :: r =>
    have := hf r
    show (if b == c then (if f r = 0 then 0 else f r + 1) else 0) ≤ _
    split
    · split <;> simp only [List.length_cons] <;> omega
    · omega
theorem quoteN_le (l : List UInt8) : quoteN l ≤ l.length := by have := quote_len l; omega
theorem operN_le (l : List UInt8) : operN l ≤ l.length := by
  unfold operN
  cases h : opsL.find? fun o => Lib.hasPrefix l o with
  | none => simp
  | some x => exact Lib.hasPrefix_le (List.find?_some h)
theorem tries_le : ∀ x ∈ triesL, ∀ l, x.2.2 l ≤ l.length := by
  intro x hx l
  simp only [triesL, List.mem_cons, List.not_mem_nil, or_false] at hx
  rcases hx with rfl | rfl | rfl | rfl | rfl | rfl | rfl | rfl | rfl
  · exact runOf_le _ l
  · exact noteN_le l
  · exact wordN_le l
  · exact behindN_le _ simpleN_le l
  · exact behindN_le _ wordN_le l
  · exact behindN_le _ (runOf_le isPart) l
  · exact numberN_le l
  · exact quoteN_le l
  · exact operN_le l
set_option maxRecDepth 100000 in
theorem tries_enter : ∀ x ∈ triesL, ∀ args w, (callFunc x.2.1 args).run Tryz.prog w = .ok (.enter x.2.1 args) w := by
  intro x hx
  simp only [triesL, List.mem_cons, List.not_mem_nil, or_false] at hx
  rcases hx with rfl | rfl | rfl | rfl | rfl | rfl | rfl | rfl | rfl <;> exact fun _ _ => rfl
theorem tries_kind : ∀ x ∈ triesL, x.1 ≤ 13 := by
  intro x hx
  simp only [triesL, List.mem_cons, List.not_mem_nil, or_false] at hx
  rcases hx with rfl | rfl | rfl | rfl | rfl | rfl | rfl | rfl | rfl <;> decide
theorem tries_cells (k : Nat) (x : Nat × Nat × (List UInt8 → Nat)) (h : triesL[k]? = some x) : triesC[2 * k]? = some (.int .i64 (x.1 : Int)) ∧ triesC[2 * k + 1]? = some (.func (.func x.2.1) #[] #[]) := by
  have hk : k < 9 := (List.getElem?_eq_some_iff.1 h).1
  have hks : k = 0 ∨ k = 1 ∨ k = 2 ∨ k = 3 ∨ k = 4 ∨ k = 5 ∨ k = 6 ∨ k = 7 ∨ k = 8 := by omega
  rcases hks with rfl | rfl | rfl | rfl | rfl | rfl | rfl | rfl | rfl <;> (cases Option.some.inj h; exact ⟨rfl, rfl⟩)
def outN (l : List UInt8) (st : List Nat) : Step5 := match triesL.find? (fun x => decide (0 < x.2.2 l)) with
  | none => (0, 0, st, false, 11)
  | some x => ((brkN st x.1 (l.take (x.2.2 l))).2.1, x.2.2 l, (brkN st x.1 (l.take (x.2.2 l))).1, (brkN st x.1 (l.take (x.2.2 l))).2.2 || (x.1 == 7), 0)
theorem outN_none {l : List UInt8} {st : List Nat} (h : ∀ x ∈ triesL, x.2.2 l = 0) : outN l st = (0, 0, st, false, 11) := by
  unfold outN
  rw [List.find?_eq_none.2 (fun x hx => by rw [h x hx]; simp)]
theorem outN_some {l : List UInt8} {st : List Nat} {k : Nat} {x : Nat × Nat × (List UInt8 → Nat)} (hx : triesL[k]? = some x) (h : ∀ y ∈ triesL.take k, y.2.2 l = 0) (h0 : 0 < x.2.2 l) :
    outN l st = ((brkN st x.1 (l.take (x.2.2 l))).2.1, x.2.2 l, (brkN st x.1 (l.take (x.2.2 l))).1, (brkN st x.1 (l.take (x.2.2 l))).2.2 || (x.1 == 7), 0) := by
  have hf : triesL.find? (fun x => decide (0 < x.2.2 l)) = some x := by
    have e : triesL = triesL.take k ++ x :: triesL.drop (k + 1) := by
      obtain ⟨hk, rfl⟩ := List.getElem?_eq_some_iff.1 hx
      rw [← List.drop_eq_getElem_cons hk, List.take_append_drop]
    rw [e, List.find?_append, List.find?_eq_none.2 (fun y hy => by rw [h y hy]; simp)]
    rw [Option.none_or, List.find?_cons_of_pos (by simpa using h0)]
  unfold outN
  rw [hf]
variable {w : World} {X TB : Nat} {s : ByteArray} {at' : Nat} {v : Value} {st : List Nat} {inn : Bool} {er : Int}

theorem out_after {wr w2 : World} {c cs : Array Value} {t t' : TypeId} (hB : Below w.heap.size w wr) (hr : wr.heap[w.heap.size]? = some (.cells c t (0, 0))) (hb : Below (wr.alloc (.cells cs t')).heap.size (wr.alloc (.cells cs t')) w2) :
    Below w.heap.size w w2 ∧ w2.heap[w.heap.size]? = some (.cells c t (0, 0)) ∧ w2.heap[wr.heap.size]? = some (.cells cs t' (0, 0)) := by
  have hk : Below wr.heap.size wr w2 := ((Below.refl _ _).alloc (Nat.le_refl _) _).trans (hb.mono (by simp))
  exact ⟨hB.trans (hk.mono hB.size), (hk.block _ (heap_lt hr)).trans hr, (hb.block _ (by simp)).trans (World.alloc_heap_new wr _)⟩

theorem out_tok {w2 : World} {c : Array Value} {t : TypeId} {kd : Nat} {R : ByteArray} (h2 : LexSt w2 X s at' v st inn er) (hr : w2.heap[w.heap.size]? = some (.cells c t (0, 0))) (hB : Below w.heap.size w w2) :
    LexSt (w2.alloc (.cells #[.int .i64 (kd : Int), .string R] 32)).drew X s at' v st inn er ∧ TokAt (w2.alloc (.cells #[.int .i64 (kd : Int), .string R] 32)).drew w2.heap.size kd R ∧ (w2.alloc (.cells #[.int .i64 (kd : Int), .string R] 32)).drew.heap[w.heap.size]? = some (.cells c t (0, 0)) ∧ Below w.heap.size w (w2.alloc (.cells #[.int .i64 (kd : Int), .string R] 32)).drew ∧ w.heap.size < w2.heap.size := by
  have k : Below w2.heap.size w2 (w2.alloc (.cells #[.int .i64 (kd : Int), .string R] 32)).drew := ((Below.refl _ _).alloc (Nat.le_refl _) _).trans ⟨rfl, rfl, rfl, Nat.le_refl _, fun _ _ => rfl⟩
  have hl := heap_lt hr
  exact ⟨h2.below k, World.alloc_heap_new w2 _, (k.block _ hl).trans hr, hB.trans (k.mono hB.size), hl⟩
theorem out_brk {W3 : World} {T : Nat} {c : Array Value} {t : TypeId} {kd : Nat} {R : ByteArray} {b0 : Bool} (h : LexSt w X s at' v st b0 er) (h3 : LexSt W3 X s at' v st inn er) (tk : TokAt W3 T kd R) (hr : W3.heap[w.heap.size]? = some (.cells c t (0, 0))) (hB : Below w.heap.size w W3) (hT : w.heap.size < T) (hX : X < w.heap.size) (hb : ∀ x ∈ st, x ≤ 70000) (hk : kd ≤ 100) (b : Bool) :
    Calls Tryz.prog 68 #[.pointer (some ⟨X, 0, none⟩), .pointer (some ⟨T, 0, none⟩)] (W3.setCell ⟨X, 3, none⟩ (.bool b)) (Brk (W3.setCell ⟨X, 3, none⟩ (.bool b)) X T s at' v b er R (brkN st kd R.data.toList)) ∧
    (∀ e w5, Brk (W3.setCell ⟨X, 3, none⟩ (.bool b)) X T s at' v b er R (brkN st kd R.data.toList) e w5 → ∃ v', e = .returned (.tuple #[]) ∧ LexSt w5 X s at' v' (brkN st kd R.data.toList).1 ((brkN st kd R.data.toList).2.2 || b) er ∧ TokAt w5 T (brkN st kd R.data.toList).2.1 R ∧ w5.heap[w.heap.size]? = some (.cells c t (0, 0)) ∧ Keeps (lexO X v) w w5 ∧ v'.ownBlock = v.ownBlock) ∧ True ∧ True := by
  have hTX : T ≠ X := by omega
  have hTv : ¬ some T = v.ownBlock := fun e => own_old h (Nat.le_of_lt hT) T e rfl
  have k3 := keeps_setCell (O := lexO X v) W3 X 3 (.bool b) (.inl rfl)
  have k3' := keeps_setCell (O := fun x => x = X) W3 X 3 (.bool b) rfl
  refine ⟨bracket_calls (h3.setIn b) (k3'.heap tk hTX) hTX hTv hb hk, ?_, trivial, trivial⟩
  rintro e w5 ⟨v', rfl, h5, tk5, hk5, hv5⟩
  have hnB : ¬ lexO X v w.heap.size := fun e => e.elim (fun e => by omega) (fun e => own_old h (Nat.le_refl _) _ e rfl)
  have hnB2 : ¬ brkO X T v w.heap.size := fun e => e.elim (fun e => by omega) fun e => e.elim (fun e => by omega) (fun e => own_old h (Nat.le_refl _) _ e rfl)
  refine ⟨v', rfl, h5, tk5, hk5.heap (k3.heap hr hnB) hnB2, (((Keeps.of_below' hB).trans k3).trans' hk5 fun x hx e => ?_), hv5⟩
  rcases e with e | e | e
  · exact .inl e
  · omega
  · exact .inr e

set_option maxRecDepth 100000 in
set_option maxHeartbeats 4000000 in
theorem outside_calls (h : LexSt w X s at' v st false 0) (hTB : w.heap[TB]? = some (.cells triesC.toArray 79 (0, 0))) (hTX : TB ≠ X) (hTv : ¬ some TB = v.ownBlock) (hat : at' < s.size) (hs : s.size ≤ 65536) (hb : ∀ x ∈ st, x ≤ 70000) (hX : X < w.heap.size) :
    Calls Tryz.prog 36 #[.pointer (some ⟨X, 0, none⟩), .slice (some ⟨TB, 0, none⟩) 9 9] w (Stepped w X s at' v (outN (s.data.toList.drop at') st)) := by
  have c0 := h.c0
  have c1 := h.c1
  obtain ⟨L, hL⟩ : ∃ L, s.extract at' s.size = L := ⟨_, rfl⟩
  have hLd : L.data.toList = s.data.toList.drop at' := by rw [← hL, ext_data]
  have hLs : L.size = s.size - at' := by rw [← hL, ext_size]
  have hL0 : 0 < L.size := by omega
  rw [← hLd]
  have H := Lib.hid h
  have HLd := Lib.hid hLd
  have HTB := Lib.hid hTB
  clear hLd h hTB
  go_enter Tryz.func36, Tryz.ntmps36
  go_wp2
  go_quiet (fail)
  have hB0 : Below w.heap.size w ((w.alloc (.cells #[.int .i64 0, .string ⟨#[]⟩] 32)).drewN nq) := below_drewN ((Below.refl _ _).alloc (Nat.le_refl _) _) nq
  have hr0 : ((w.alloc (.cells #[.int .i64 0, .string ⟨#[]⟩] 32)).drewN nq).heap[w.heap.size]? = some (.cells #[.int .i64 0, .string ⟨#[]⟩] 32 (0, 0)) := World.alloc_heap_new w _
  have HB0 := Lib.hid hB0
  have Hr0 := Lib.hid hr0
  clear hB0 hr0
  go_wp2
  generalize (w.alloc (.cells #[.int .i64 0, .string ⟨#[]⟩] 32)).drewN nq = W0 at *
  clear c0 c1
  go_loopw [21] (fun i wr => ∃ k : Nat, k ≤ 9 ∧ i = .int .i64 k ∧ Hid (∀ y ∈ triesL.take k, y.2.2 L.data.toList = 0) ∧ Hid (wr.heap[w.heap.size]? = some (.cells #[.int .i64 0, .string ⟨#[]⟩] 32 (0, 0))) ∧ Below w.heap.size w wr) (fun i _ => 9 - (intOf i).toNat)
  case atStart => exact ⟨0, by omega, rfl, Lib.hid (by intro y hy; simp at hy), Hr0, HB0.out⟩
  case round =>
    clear HB0 Hr0
    obtain ⟨k, hk, rfl, Hno, Hr, hB⟩ := hrel
    by_cases hlt : k < 9
    · obtain ⟨x, hx⟩ : ∃ x, triesL[k]? = some x := ⟨_, List.getElem?_eq_getElem (show k < triesL.length from hlt)⟩
      have hmem := List.mem_of_getElem? hx
      have htell := tries_tell x hmem L
      have hle := tries_le x hmem L.data.toList
      rw [← Lib.size_eq] at hle
      have heg := tries_enter x hmem
      have hkd := tries_kind x hmem
      obtain ⟨t0, t1⟩ := tries_cells k x hx
      have hTBr : wr.heap[TB]? = some (.cells triesC.toArray 79 (0, 0)) := (hB.block TB (heap_lt HTB.out)).trans HTB.out
      have d0 : wr.cell? ⟨TB, k * 2, none⟩ = some (.int .i64 (x.1 : Int)) := cell_of_block hTBr (by rw [Nat.mul_comm]; simpa using t0)
      have d1 : wr.cell? ⟨TB, k * 2 + 1, none⟩ = some (.func (.func x.2.1) #[] #[]) := cell_of_block hTBr (by rw [Nat.mul_comm]; simpa using t1)
      have hout := outN_some (st := st) hx Hno.out
      have htake : triesL.take (k + 1) = triesL.take k ++ [x] := by rw [List.take_add_one, hx]; rfl
      have Htake := Lib.hid htake
      obtain ⟨kd, g, f⟩ := x
      dsimp only at *
      have Htell := Lib.hid htell
      have Heg := Lib.hid heg
      have Hout := Lib.hid hout
      clear htell heg hout htake hmem hx t0 t1 hTBr
      generalize hfn : f L.data.toList = n at *
      have Hfn := Lib.hid hfn
      clear hfn
      by_cases hn0 : n = 0
      · subst hn0
        go_wp2
        rw [Heg.out, Oper.upon_enter]
        refine (Htell.out _ hL0 (by omega)).mono ?_
        rintro e w2 ⟨rfl, hb2⟩
        obtain ⟨hB2, hr2, hq2⟩ := out_after hB Hr.out hb2
        clear hb2 d0 d1 Hr hB
        go_wp2
        go_roundw
        case rel => exact ⟨k + 1, by omega, by go_num, Lib.hid (by
          intro y hy
          rw [Htake.out] at hy
          rcases List.mem_append.1 hy with hy | hy
          · exact Hno.out y hy
          · simp only [List.mem_singleton] at hy; subst hy; exact Hfn.out), Lib.hid hr2, hB2⟩
        case measure => simp [intOf]; omega
      · have hnp : 0 < n := by omega
        go_wp2
        rw [Heg.out, Oper.upon_enter]
        refine (Htell.out _ hL0 (by omega)).mono ?_
        rintro e w2 ⟨rfl, hb2⟩
        obtain ⟨hB2, hr2, hq2⟩ := out_after hB Hr.out hb2
        have hwlt : w.heap.size < w2.heap.size := heap_lt hr2
        generalize wr.heap.size = Q at *
        have q0 : w2.cell? ⟨Q, 0, none⟩ = some (.int .i64 (kd : Int)) := cell_of_block hq2 rfl
        have hQ := heap_lt hq2
        have q0' : ∀ o, (w2.alloc o).cell? ⟨Q, 0, none⟩ = some (.int .i64 (kd : Int)) := fun o => cell_of_block ((Below.heap_alloc _ _ _ hQ).trans hq2) rfl
        have Hr2 := Lib.hid hr2
        have h2 := H.out.below hB2
        have c3 := h2.c3
        have f3 := h2.free 3
        have H2 := Lib.hid h2
        clear d0 d1 Hr hB hq2 hr2 h2 hb2
        go_wp2
        go_region
        obtain ⟨h3, tk3, hr3, hB3, hT3⟩ := out_tok H2.out Hr2.out hB2 (kd := kd) (R := L.extract 0 n)
        obtain ⟨b1, b2, b3, b4⟩ := out_brk H.out h3 tk3 hr3 hB3 hT3 hX hb (by omega) (kd == 7)
        have m0 := h3.c3
        have m1 := h3.free 3
        have m2 := tk3.k
        have hk7 : ((kd : Int) == 7) = (kd == 7) := by rw [Bool.eq_iff_iff, beq_iff_eq, beq_iff_eq]; omega
        have hLn : (L.extract 0 n).data.toList = L.data.toList.take n := by rw [Lib.extract_data]; simp
        rw [hLn] at b1 b2
        have Brc := Lib.hid b1
        have B2 := Lib.hid b2
        clear b1 b2 b3 b4 q0 q0' c3 f3
        generalize (w2.alloc (.cells #[.int .i64 (kd : Int), .string (L.extract 0 n)] 32)).drew = W3 at *
        generalize w2.heap.size = T at *
        have H3 := Lib.hid h3
        have Tk3 := Lib.hid tk3
        have Hr3 := Lib.hid hr3
        clear h3 tk3 hr3
        go_wp2_with (go_at_call 68; refine (Brc.out).mono ?_; rintro e w5 hbr; obtain ⟨v', rfl, h5, a1, a2, a3, a4⟩ := B2.out e w5 hbr; have z0 := a1.k; have z1 := a1.t; have r0 : w5.cell? ⟨w.heap.size, 0, none⟩ = some _ := cell_of_block a2 rfl; have r1 : w5.cell? ⟨w.heap.size, 1, none⟩ = some _ := cell_of_block a2 rfl; have rf0 := frozen_of_row w5 w.heap.size 0 _ _ a2; have rf1 := frozen_of_row w5 w.heap.size 1 _ _ a2; have H5 := Lib.hid h5; have A2 := Lib.hid a2; have A3 := Lib.hid a3; have A4 := Lib.hid a4; clear h5 a1 a2 a3 a4 hbr)
        rw [Hout.out hnp]
        generalize brkN st kd (L.data.toList.take n) = br at *
        obtain ⟨e2, hL', hBl⟩ := in_done (v := v) A3.out H5.out A2.out hX (Nat.le_refl _) (fun g hg => own_old H.out (Nat.le_refl _) g (hg.trans A4.out)) (.int .i64 (br.2.1 : Int)) (.string (L.extract 0 n))
        have q0 := cell_of_block e2 (o := 0) rfl
        have q1 := cell_of_block e2 (o := 1) rfl
        exact bodyPost_ret (v := .agg #[.int .i64 (br.2.1 : Int), .string (L.extract 0 n)]) (by simp [results, Tryz.results36, go_sem, q0, q1]) rfl ⟨_, _, rfl, by rw [hLn, HLd.out], hL', hBl, .inl A4.out⟩
    · obtain rfl : k = 9 := by omega
      have hnone := outN_none (st := st) (fun x hx => Hno.out x (by rw [List.take_of_length_le (by decide)]; exact hx))
      have Hnone := Lib.hid hnone
      clear hnone
      have h1 := H.out.below hB
      have c4 := h1.c4
      have f4 := h1.free 4
      have r0 : wr.cell? ⟨w.heap.size, 0, none⟩ = some _ := cell_of_block Hr.out rfl
      have r1 : wr.cell? ⟨w.heap.size, 1, none⟩ = some _ := cell_of_block Hr.out rfl
      have rf0 := frozen_of_row wr w.heap.size 0 _ _ Hr.out
      have rf1 := frozen_of_row wr w.heap.size 1 _ _ Hr.out
      have H1 := Lib.hid h1
      clear h1 Hno
      go_wp2
      rw [Hnone.out]
      have k4 := keeps_setCell (O := lexO X v) wr X 4 (.int .u16 11) (.inl rfl)
      have hnB : ¬ lexO X v w.heap.size := fun e => e.elim (fun e => by omega) (fun e => own_old H.out (Nat.le_refl _) _ e rfl)
      obtain ⟨e2, hL', hBl⟩ := in_done (v := v) ((Keeps.of_below' hB).trans k4) (H1.out.setErr 11) (k4.heap Hr.out hnB) hX (Nat.le_refl _) (own_old H.out (Nat.le_refl _)) (.int .i64 0) (.string ⟨#[]⟩)
      have q0 := cell_of_block e2 (o := 0) rfl
      have q1 := cell_of_block e2 (o := 1) rfl
      exact bodyPost_ret (v := .agg #[.int .i64 0, .string ⟨#[]⟩]) (by simp [results, Tryz.results36, go_sem, q0, q1]) rfl ⟨_, _, rfl, rfl, hL', hBl, .inl rfl⟩
end Go.Proofs.YtfaocpcbejgfjaaGreatDoor
namespace Go.Proofs.YtfaocpcbejgfjaaGreatDoor
open Go.RowKit Go.Sub

theorem decode_step (s : ByteArray) (pos : Nat) (h : pos < s.size) : 1 ≤ (Utf8.decode s pos).2 ∧ pos + (Utf8.decode s pos).2 ≤ s.size := by
  by_cases hb : s[pos].toNat < 128
  · rw [decode_ascii s pos h hb]; exact ⟨Nat.le_refl _, h⟩
  · exact ⟨(Go.decode_high s pos h (by omega)).2, (decode_far s pos h (by omega)).1⟩
def badAt (s : ByteArray) (pos : Nat) : Bool := (Utf8.decode s pos).1 == 65533 && !Lib.hasPrefix (s.data.toList.drop pos) [239, 191, 189]
/-- the first place, from one on, where no rune stands -/
def checkFrom (s : ByteArray) (pos : Nat) : Int :=
  if h : pos < s.size then (if badAt s pos then (pos : Int) else checkFrom s (pos + (Utf8.decode s pos).2)) else -1
termination_by s.size - pos
decreasing_by
  have := decode_step s pos h
  omega
theorem check_end {s : ByteArray} {pos : Nat} (h : ¬ pos < s.size) : checkFrom s pos = -1 := by rw [checkFrom, dif_neg h]
theorem check_bad {s : ByteArray} {pos : Nat} (h : pos < s.size) (hb : badAt s pos = true) : checkFrom s pos = pos := by rw [checkFrom, dif_pos h, if_pos hb]
theorem check_good {s : ByteArray} {pos : Nat} (h : pos < s.size) (hb : badAt s pos = false) : checkFrom s pos = checkFrom s (pos + (Utf8.decode s pos).2) := by rw [checkFrom, dif_pos h, if_neg (by rw [hb]; simp)]
theorem check_range (s : ByteArray) : ∀ k pos, s.size - pos ≤ k → checkFrom s pos = -1 ∨ (0 ≤ checkFrom s pos ∧ checkFrom s pos < s.size) := by
  intro k
  induction k with
  | zero => intro pos h; exact .inl (check_end (by omega))
  | succ k ih =>
    intro pos h
    by_cases hlt : pos < s.size
    · cases hb : badAt s pos
      · rw [check_good hlt hb]
        have := decode_step s pos hlt
        exact ih _ (by omega)
      · rw [check_bad hlt hb]; exact .inr ⟨by omega, by omega⟩
    · exact .inl (check_end hlt)

set_option maxRecDepth 100000 in
set_option maxHeartbeats 2000000 in
theorem check_calls (s : ByteArray) (w : World) (hs : s.size < 4611686018427387904) :
    Calls Tryz.prog 20 #[.string s] w fun e w' => e = .returned (.int .i64 (checkFrom s 0)) ∧ Below w.heap.size w w' := by
  go_enter Tryz.func20, Tryz.ntmps20
  go_wp2
  go_loopw [] (fun wr => ∃ pos : Nat, pos ≤ s.size ∧ Hid (checkFrom s pos = checkFrom s 0) ∧ wr = w.iter s pos) (fun wr => s.size - wr.iterPos w.heap.size)
  case atStart => exact ⟨0, by omega, Lib.hid rfl, rfl⟩
  case round =>
    obtain ⟨pos, hp, Hc, rfl⟩ := hrel
    have hB : Below w.heap.size w (w.iter s pos) := (Below.refl _ _).alloc (Nat.le_refl _) _
    by_cases hlt : pos < s.size
    · have hn := fun ty => run_next_any (P := Tryz.prog) w s pos ty hlt
      obtain ⟨d1, d2⟩ := decode_step s pos hlt
      have hpre := fun w => Tryz.strings_HasPrefix (s.extract pos s.size) ⟨#[239, 191, 189]⟩ w
      rw [ext_data] at hpre
      have hbad := check_bad (s := s) hlt
      have hgood := check_good (s := s) hlt
      unfold badAt at hbad hgood
      have HB2 := Lib.hid (show ∀ k, Below w.heap.size w (w.iter s k) from fun k => (Below.refl _ _).alloc (Nat.le_refl _) _)
      generalize Utf8.decode s pos = D at *
      obtain ⟨r, k⟩ := D
      dsimp only at *
      have hpre2 : ∀ w, Calls Tryz.prog 30 #[.string (s.extract pos s.size), .string ⟨#[239, 191, 189]⟩] w fun e w' => e = .returned (.bool (Lib.hasPrefix (s.data.toList.drop pos) [239, 191, 189])) ∧ w' = w := hpre
      clear hpre
      generalize Lib.hasPrefix (s.data.toList.drop pos) [239, 191, 189] = b at *
      by_cases h65 : r = 65533
      · subst h65
        cases b
        · have Hb := Lib.hid (hbad rfl)
          have Hpre := Lib.hid hpre2
          clear hbad hgood hpre2
          go_wp2_with (go_at_call 30; with_reducible refine (Hpre.out _).mono ?_; rintro e w4 ⟨rfl, rfl⟩)
          go_ret
          exact ⟨by rw [← Hc.out, Hb.out]; rfl, HB2.out _⟩
        · have Hg := Lib.hid (hgood rfl)
          have Hpre := Lib.hid hpre2
          clear hbad hgood hpre2
          go_wp2_with (go_at_call 30; with_reducible refine (Hpre.out _).mono ?_; rintro e w4 ⟨rfl, rfl⟩)
          go_roundw
          case rel => exact ⟨pos + k, d2, Lib.hid (by rw [← Hg.out]; exact Hc.out), rfl⟩
          case measure => simp; omega
      · have y1 : ((r : Int) == 65533) = false := by rw [beq_eq_false_iff_ne]; omega
        have y2 : ((r : Int) = 65533) = False := by apply eq_false; omega
        have Hg := Lib.hid (hgood (by rw [show (r == 65533) = false by simpa using h65]; rfl))
        clear hbad hgood hpre2 h65
        go_wp2
        go_roundw
        case rel => exact ⟨pos + k, d2, Lib.hid (by rw [← Hg.out]; exact Hc.out), rfl⟩
        case measure => simp; omega
    · have hn := fun ty => run_next_end (P := Tryz.prog) w s pos ty hlt
      have He := Lib.hid (check_end (s := s) hlt)
      go_wp2
      go_ret
      exact ⟨by rw [← Hc.out, He.out]; rfl, hB⟩
end Go.Proofs.YtfaocpcbejgfjaaGreatDoor
namespace Go.Proofs.YtfaocpcbejgfjaaGreatDoor
open Go.RowKit Go.Sub

/-- a step, in a string or outside -/
def stepN (l : List UInt8) (st : List Nat) (inn : Bool) : Step5 := if inn then insN l st else outN l st
/-- the steps from a place on: the tokens (kind, place, length), the error, and where it stopped -/
def lexN : Nat → List UInt8 → Nat → List Nat → Bool → List (Nat × Nat × Nat) × Nat × Nat
  | 0, _, at', _, _ => ([], 99, at')
  | fuel + 1, l, at', st, inn =>
    if l.length ≤ at' then ([], (if inn || !st.isEmpty then 13 else 0), at')
    else match stepN (l.drop at') st inn with
      | (k, n, st2, inn2, 0) => ((k, at', n) :: (lexN fuel l (at' + n) st2 inn2).1, (lexN fuel l (at' + n) st2 inn2).2)
      | (_, _, _, _, e + 1) => ([], e + 1, at')
theorem brk_facts (st : List Nat) (k : Nat) (x : List UInt8) (M : Nat) (hM : ∀ y ∈ st, y ≤ M) : (brkN st k x).1.length ≤ st.length ∧ ∀ y ∈ (brkN st k x).1, y ≤ M + 1 := by
  match st, hM with
  | [], _ => exact ⟨Nat.le_refl _, fun y hy => by simp [brkN] at hy⟩
  | t :: rest, hM =>
    have ht := hM t (by simp)
    have hr : ∀ y ∈ rest, y ≤ M + 1 := fun y hy => by have := hM y (List.mem_cons_of_mem _ hy); omega
    have hc : ∀ u, u ≤ M + 1 → ∀ y ∈ u :: rest, y ≤ M + 1 := fun u hu y hy => by
      rcases List.mem_cons.1 hy with rfl | hy
      · exact hu
      · exact hr y hy
    unfold brkN
    dsimp only
    split
    · split
      · exact ⟨Nat.le_refl _, hc _ (by omega)⟩
      · split
        · split
          · exact ⟨by simp, hr⟩
          · exact ⟨Nat.le_refl _, hc _ (by omega)⟩
        · exact ⟨Nat.le_refl _, hc _ (by omega)⟩
    · exact ⟨Nat.le_refl _, hc _ (by omega)⟩
/-- what a step that is no error has -/
def Good (l : List UInt8) (M : Nat) (r : Step5) : Prop := r.2.2.2.2 = 0 → 0 < r.2.1 ∧ r.2.1 ≤ l.length ∧ r.2.2.1.length ≤ 256 ∧ ∀ y ∈ r.2.2.1, y ≤ M + 1
theorem insN_good (l : List UInt8) (st : List Nat) (M : Nat) (h0 : l ≠ []) (hst : st.length ≤ 256) (hM : ∀ y ∈ st, y ≤ M) : Good l M (insN l st) := by
  have hp := pieceN_le _ l (Nat.le_refl _)
  have h1 : 0 < l.length := by
    cases l with
    | nil => exact absurd rfl h0
    | cons _ _ => simp
  have hM1 : ∀ y ∈ st, y ≤ M + 1 := fun y hy => by have := hM y hy; omega
  unfold insN Good
  split
  · exact fun _ => ⟨by assumption, hp, hst, hM1⟩
  · split
    · exact fun _ => ⟨by show 0 < 1; omega, h1, hst, hM1⟩
    · split
      · exact fun h => by simp at h
      · split
        · exact fun h => by simp at h
        · rename_i h2 h3
          refine fun _ => ⟨by show 0 < 2; omega, ?_, by show st.length + 1 ≤ 256; omega, fun y hy => ?_⟩
          · have := Lib.hasPrefix_le (show Lib.hasPrefix l [92, 40] = true by simpa using h2)
            simpa using this
          · rcases List.mem_cons.1 hy with rfl | hy
            · omega
            · exact hM1 y hy
theorem outN_good (l : List UInt8) (st : List Nat) (M : Nat) (hst : st.length ≤ 256) (hM : ∀ y ∈ st, y ≤ M) : Good l M (outN l st) := by
  unfold outN Good
  cases h : triesL.find? (fun x => decide (0 < x.2.2 l)) with
  | none => exact fun h => by simp at h
  | some x =>
    have h1 := List.find?_some h
    have h2 := tries_le x (List.mem_of_find?_eq_some h) l
    obtain ⟨b1, b2⟩ := brk_facts st x.1 (l.take (x.2.2 l)) M hM
    exact fun _ => ⟨by simpa using h1, h2, by show (brkN st x.1 _).1.length ≤ 256; omega, b2⟩
theorem stepN_good (l : List UInt8) (st : List Nat) (inn : Bool) (M : Nat) (h0 : l ≠ []) (hst : st.length ≤ 256) (hM : ∀ y ∈ st, y ≤ M) : Good l M (stepN l st inn) := by
  unfold stepN
  split
  · exact insN_good l st M h0 hst hM
  · exact outN_good l st M hst hM
set_option maxRecDepth 100000 in
theorem close_calls {w : World} {X TB B1 B3 : Nat} {s : ByteArray} {at' : Nat} {v : Value} {st : List Nat} (h : LexSt w X s at' v st false 0) (hTB : w.heap[TB]? = some (.cells triesC.toArray 79 (0, 0))) (hTX : TB ≠ X) (hTv : ¬ some TB = v.ownBlock) (hat : at' < s.size) (hs : s.size ≤ 65536) (hb : ∀ x ∈ st, x ≤ 70000) (hX : X < w.heap.size)
    (c1 : w.cell? ⟨B1, 0, none⟩ = some (.pointer (some ⟨X, 0, none⟩))) (c3 : w.cell? ⟨B3, 0, none⟩ = some (.slice (some ⟨TB, 0, none⟩) 9 9)) :
    Calls Tryz.prog 35 #[.pointer (some ⟨B1, 0, none⟩), .pointer (some ⟨B3, 0, none⟩)] w (Stepped w X s at' v (outN (s.data.toList.drop at') st)) := by
  have hA : Below w.heap.size w (w.alloc (.cells #[.int .i64 0, .string ⟨#[]⟩] 32)) := (Below.refl _ _).alloc (Nat.le_refl _) _
  have hr := World.alloc_heap_new w (.cells #[.int .i64 0, .string ⟨#[]⟩] 32)
  have h1 := h.below hA
  have hTB1 : (w.alloc (.cells #[.int .i64 0, .string ⟨#[]⟩] 32)).heap[TB]? = _ := (hA.block TB (heap_lt hTB)).trans hTB
  have hout := outside_calls h1 hTB1 hTX hTv hat hs hb (by simp; omega)
  have k1 : (w.alloc (.cells #[.int .i64 0, .string ⟨#[]⟩] 32)).cell? ⟨B1, 0, none⟩ = _ := (hA.cell (World.block_lt_of_cell? _ _ c1)).trans c1
  have k3 : (w.alloc (.cells #[.int .i64 0, .string ⟨#[]⟩] 32)).cell? ⟨B3, 0, none⟩ = _ := (hA.cell (World.block_lt_of_cell? _ _ c3)).trans c3
  have hnB : ¬ lexO X v w.heap.size := fun e => e.elim (fun e => by omega) (fun e => own_old h (Nat.le_refl _) _ e rfl)
  have hsz : (w.alloc (.cells #[.int .i64 0, .string ⟨#[]⟩] 32)).heap.size = w.heap.size + 1 := by simp
  have hkA : Keeps (lexO X v) w (w.alloc (.cells #[.int .i64 0, .string ⟨#[]⟩] 32)) := Keeps.of_below' hA
  have Hout := Lib.hid hout
  have H := Lib.hid h
  have Hr := Lib.hid hr
  have HkA := Lib.hid hkA
  have Hsz := Lib.hid hsz
  clear hout h hr hTB hTB1 h1 hA hkA hsz
  go_enter Tryz.func35, Tryz.ntmps35
  go_wp2_with (go_at_call 36; refine (Hout.out).mono ?_; rintro e w2 ⟨v', R, rfl, hRd, h2, hk2, hv2⟩; have a1 := hk2.heap Hr.out hnB; have a2 := HkA.out.trans hk2; have r0 : w2.cell? ⟨w.heap.size, 0, none⟩ = some _ := cell_of_block a1 rfl; have r1 : w2.cell? ⟨w.heap.size, 1, none⟩ = some _ := cell_of_block a1 rfl; have rf0 := frozen_of_row w2 w.heap.size 0 _ _ a1; have rf1 := frozen_of_row w2 w.heap.size 1 _ _ a1; have HRd := Lib.hid hRd; have H2 := Lib.hid h2; have A1 := Lib.hid a1; have A2 := Lib.hid a2; have Hv2 := Lib.hid hv2; clear hRd h2 hk2 hv2 a1 a2)
  have hvB : ∀ g, some g = v'.ownBlock → ¬ g = w.heap.size := fun g hg e => by
    rcases Hv2.out with hv | ⟨g', hv, hg'⟩
    · exact own_old H.out (Nat.le_refl _) g (hg.trans hv) e
    · rw [hv] at hg; cases hg; rw [Hsz.out] at hg'; omega
  obtain ⟨e2, hL', hBl⟩ := in_done (v := v) A2.out H2.out A1.out hX (Nat.le_refl _) hvB (.int .i64 ((outN (s.data.toList.drop at') st).1 : Int)) (.string R)
  have q0 := cell_of_block e2 (o := 0) rfl
  have q1 := cell_of_block e2 (o := 1) rfl
  refine bodyPost_ret (v := .agg #[.int .i64 ((outN (s.data.toList.drop at') st).1 : Int), .string R]) (by simp [results, Tryz.results35, go_sem, q0, q1]) rfl ⟨_, _, rfl, HRd.out, hL', hBl, ?_⟩
  rcases Hv2.out with hv | ⟨g', hv, hg'⟩
  · exact .inl hv
  · exact .inr ⟨g', hv, by rw [Hsz.out] at hg'; omega⟩
end Go.Proofs.YtfaocpcbejgfjaaGreatDoor
namespace Go.Proofs.YtfaocpcbejgfjaaGreatDoor
open Go.RowKit Go.Sub
attribute [local go_sem] Oper.semAt_some

abbrev Tok3 := Nat × Nat × Nat
def tokV (l : List UInt8) (x : Tok3) : Array Value := #[.agg #[.int .i64 (x.1 : Int), .string ⟨((l.drop x.2.1).take x.2.2).toArray⟩]]
/-- which tokens have been told, and where the lexer stands -/
inductive Reach (l : List UInt8) : List Tok3 → Nat → List Nat → Bool → Prop
  | nil : Reach l [] 0 [] false
  | snoc {pre : List Tok3} {at' : Nat} {st : List Nat} {inn : Bool} {k n : Nat} {st2 : List Nat} {inn2 : Bool} : Reach l pre at' st inn → at' < l.length → stepN (l.drop at') st inn = (k, n, st2, inn2, 0) → Reach l (pre ++ [(k, at', n)]) (at' + n) st2 inn2
def cellInt : Option Value → Nat | some (.int _ n) => n.toNat | _ => 0
/-- how all lies at the head of a round -/
structure AtHead (W wr : World) (X B1 B3 TB : Nat) (s : ByteArray) (pre : List Tok3) (at' : Nat) (st : List Nat) (inn : Bool) (v : Value) (O : Nat → Prop) : Prop where
  reach : Reach s.data.toList pre at' st inn
  lex : LexSt wr X s at' v st inn 0
  b1 : Boxed wr B1 45 (.pointer (some ⟨X, 0, none⟩))
  b3 : Boxed wr B3 67 (.slice (some ⟨TB, 0, none⟩) 9 9)
  tab : wr.heap[TB]? = some (.cells triesC.toArray 79 (0, 0))
  size : W.heap.size ≤ wr.heap.size
  le : at' ≤ s.size
  noX : ¬ O X
  no1 : ¬ O B1
  no3 : ¬ O B3
  noT : ¬ O TB
  noV : ∀ g, some g = v.ownBlock → ¬ O g
  newV : ∀ g, some g = v.ownBlock → W.heap.size ≤ g
  a1 : ¬ some B1 = v.ownBlock
  a3 : ¬ some B3 = v.ownBlock
  aT : ¬ some TB = v.ownBlock
  d1 : B1 ≠ X
  d3 : B3 ≠ X
  dT : TB ≠ X

theorem reach_facts {l : List UInt8} {pre : List Tok3} {at' : Nat} {st : List Nat} {inn : Bool} (h : Reach l pre at' st inn) : at' ≤ l.length ∧ st.length ≤ 256 ∧ (∀ x ∈ st, x ≤ at') ∧ pre.length ≤ at' := by
  induction h with
  | nil => exact ⟨Nat.zero_le _, Nat.zero_le _, fun x h => by simp at h, Nat.le_refl _⟩
  | @snoc pre at' st inn k n st2 inn2 _ hlt hs ih =>
    obtain ⟨i1, i2, i3, i4⟩ := ih
    have hg := stepN_good (l.drop at') st inn at' (fun e => by have := congrArg List.length e; rw [List.length_drop] at this; simp at this; omega) i2 i3
    rw [hs] at hg
    obtain ⟨g1, g2, g3, g4⟩ := hg rfl
    dsimp only at g1 g2 g3 g4
    rw [List.length_drop] at g2
    exact ⟨by omega, g3, fun x hx => by have := g4 x hx; omega, by rw [List.length_append]; simp only [List.length_cons, List.length_nil]; omega⟩
theorem LexSt.drew' {w : World} {X : Nat} {s : ByteArray} {at' : Nat} {v : Value} {st : List Nat} {inn : Bool} {er : Int} (h : LexSt w X s at' v st inn er) : LexSt w.drew X s at' v st inn er := ⟨h.blk, h.own⟩

/-- how the lexer ends: at an error, or at the text's end -/
def Done (s : ByteArray) (X : Nat) (ys : List Tok3) (W' : World) : Prop :=
  ∃ (at' : Nat) (st : List Nat) (inn : Bool) (v : Value) (st2 : List Nat) (inn2 : Bool) (er : Nat), Reach s.data.toList ys at' st inn ∧ LexSt W' X s at' v st2 inn2 (er : Int) ∧
    ((at' < s.size ∧ er ≠ 0 ∧ (stepN (s.data.toList.drop at') st inn).2.2.2.2 = er) ∨ (at' = s.size ∧ er = if inn || !st.isEmpty then 13 else 0))
/-- behind a step, with the token laid in a block: what the body still has, and what can be read -/
theorem head_after {W wr w2 : World} {X B1 B3 TB : Nat} {s : ByteArray} {pre : List Tok3} {at' : Nat} {st st2 : List Nat} {inn inn2 : Bool} {v v' : Value} {O : Nat → Prop} {J : List Tok3 → (Nat → Prop) → World → Prop} {er : Int} (HH : AtHead W wr X B1 B3 TB s pre at' st inn v O) (hJ0 : J pre O wr) (hO : ∀ b, O b → b < wr.heap.size)
    (hJ : ∀ pre O A B, J pre O A → Keeps (fun b => ¬ O b ∧ (b = X ∨ W.heap.size ≤ b)) A B → J pre O B) (h2 : LexSt w2 X s at' v' st2 inn2 er) (hk : Keeps (lexO X v) wr.drew w2) (kd : Value) (R : List UInt8) :
    J pre O (w2.alloc (.cells #[kd, .string ⟨R.toArray⟩] 32)) ∧ (w2.alloc (.cells #[kd, .string ⟨R.toArray⟩] 32)).cell? ⟨B1, 0, none⟩ = some (.pointer (some ⟨X, 0, none⟩)) ∧ (w2.alloc (.cells #[kd, .string ⟨R.toArray⟩] 32)).cell? ⟨X, 4, none⟩ = some (.int .u16 er) ∧ (w2.alloc (.cells #[kd, .string ⟨R.toArray⟩] 32)).cell? ⟨w2.heap.size, 0, none⟩ = some kd ∧ (w2.alloc (.cells #[kd, .string ⟨R.toArray⟩] 32)).cell? ⟨w2.heap.size, 1, none⟩ = some (.string ⟨R.toArray⟩) := by
  have hA : Below w2.heap.size w2 (w2.alloc (.cells #[kd, .string ⟨R.toArray⟩] 32)) := (Below.refl _ _).alloc (Nat.le_refl _) _
  have hn := World.alloc_heap_new w2 (.cells #[kd, .string ⟨R.toArray⟩] 32)
  have hb1 : w2.cell? ⟨B1, 0, none⟩ = some (.pointer (some ⟨X, 0, none⟩)) := hk.cell (show wr.drew.cell? ⟨B1, 0, none⟩ = _ from HH.b1.cell) (fun e => e.elim HH.d1 HH.a1)
  have c4 := h2.c4
  refine ⟨hJ _ _ _ _ hJ0 ?_, (hA.cell (World.block_lt_of_cell? _ _ hb1)).trans hb1, (hA.cell (World.block_lt_of_cell? _ _ c4)).trans c4, cell_of_block hn rfl, cell_of_block hn rfl⟩
  refine (((Keeps.drew wr).trans hk).mono (O' := fun b => ¬ O b ∧ (b = X ∨ W.heap.size ≤ b)) ?_).trans' (Keeps.of_below' (O := fun _ => False) hA) (fun _ _ h => h.elim)
  intro b _ e
  rcases e with e | e
  · exact ⟨by rw [e]; exact HH.noX, .inl e⟩
  · exact ⟨HH.noV b e, .inr (HH.newV b e)⟩

/-- behind the yield: what can be read -/
theorem head_read {W wr w2 W3 : World} {X B1 B3 TB : Nat} {s : ByteArray} {pre : List Tok3} {at' : Nat} {st st2 : List Nat} {inn inn2 : Bool} {v v' : Value} {O : Nat → Prop} {er : Int} {kd tx : Value} (HH : AtHead W wr X B1 B3 TB s pre at' st inn v O) (hO : ∀ b, O b → b < wr.heap.size)
    (h2 : LexSt w2 X s at' v' st2 inn2 er) (hk : Keeps (lexO X v) wr.drew w2) (hv : v'.ownBlock = v.ownBlock ∨ ∃ g, v'.ownBlock = some g ∧ wr.drew.heap.size ≤ g) (hk3 : Keeps O (w2.alloc (.cells #[kd, tx] 32)) W3) :
    W3.cell? ⟨B1, 0, none⟩ = some (.pointer (some ⟨X, 0, none⟩)) ∧ W3.cell? ⟨X, 1, none⟩ = some (.int .i64 (at' : Int)) ∧ W3.frozen? ⟨X, 1, none⟩ = false ∧ W3.cell? ⟨w2.heap.size, 1, none⟩ = some tx ∧ LexSt W3 X s at' v' st2 inn2 er := by
  have hA : Below w2.heap.size w2 (w2.alloc (.cells #[kd, tx] 32)) := (Below.refl _ _).alloc (Nat.le_refl _) _
  have hn := World.alloc_heap_new w2 (.cells #[kd, tx] 32)
  have hsz : wr.heap.size ≤ w2.heap.size := hk.size
  have hb1 : w2.cell? ⟨B1, 0, none⟩ = some (.pointer (some ⟨X, 0, none⟩)) := hk.cell (show wr.drew.cell? ⟨B1, 0, none⟩ = _ from HH.b1.cell) (fun e => e.elim HH.d1 HH.a1)
  have hb1' := (hA.cell (World.block_lt_of_cell? _ _ hb1)).trans hb1
  have hv' : ∀ g, some g = v'.ownBlock → ¬ O g := fun g hg e => by
    rcases hv with hv | ⟨g', hv, hg'⟩
    · exact HH.noV g (hg.trans hv) e
    · rw [hv] at hg; cases hg
      have : wr.heap.size ≤ g := hg'
      have := hO g e
      omega
  have h3 : LexSt W3 X s at' v' st2 inn2 er := (h2.below hA).keeps hk3 HH.noX hv'
  exact ⟨hk3.cell hb1' HH.no1, h3.c1, h3.free 1, cell_of_block (hk3.heap hn (fun e => by have := hO _ e; omega)) rfl, h3⟩

/-- the head of the next round -/
theorem head_next {W wr w2 W3 : World} {X B1 B3 TB : Nat} {s : ByteArray} {pre pre2 : List Tok3} {at' at2 : Nat} {st st2 : List Nat} {inn inn2 : Bool} {v v' : Value} {O O2 : Nat → Prop} {er : Int} {kd tx : Value} (HH : AtHead W wr X B1 B3 TB s pre at' st inn v O) (hO : ∀ b, O b → b < wr.heap.size)
    (h2 : LexSt w2 X s at' v' st2 inn2 er) (hk : Keeps (lexO X v) wr.drew w2) (hv : v'.ownBlock = v.ownBlock ∨ ∃ g, v'.ownBlock = some g ∧ wr.drew.heap.size ≤ g) (hk3 : Keeps O (w2.alloc (.cells #[kd, tx] 32)) W3) (hO2 : ∀ b, O2 b → (O b ∨ (w2.alloc (.cells #[kd, tx] 32)).heap.size ≤ b) ∧ b < W3.heap.size)
    (h3 : LexSt W3 X s at' v' st2 inn2 0) (hreach : Reach s.data.toList pre2 at2 st2 inn2) (hle : at2 ≤ s.size) :
    AtHead W (W3.setCell ⟨X, 1, none⟩ (.int .i64 (at2 : Int))).drew X B1 B3 TB s pre2 at2 st2 inn2 v' O2 ∧ (∀ b, O2 b → b < (W3.setCell ⟨X, 1, none⟩ (.int .i64 (at2 : Int))).drew.heap.size) ∧ Keeps (fun b => ¬ O2 b ∧ (b = X ∨ W.heap.size ≤ b)) W3 (W3.setCell ⟨X, 1, none⟩ (.int .i64 (at2 : Int))).drew := by
  have hA : Below w2.heap.size w2 (w2.alloc (.cells #[kd, tx] 32)) := (Below.refl _ _).alloc (Nat.le_refl _) _
  have hsA : (w2.alloc (.cells #[kd, tx] 32)).heap.size = w2.heap.size + 1 := by simp
  have hsz : wr.heap.size ≤ w2.heap.size := hk.size
  have kset := keeps_setCell (O := fun b => b = X) W3 X 1 (.int .i64 (at2 : Int)) rfl
  have kd4 : Keeps (fun b => b = X) W3 (W3.setCell ⟨X, 1, none⟩ (.int .i64 (at2 : Int))).drew := kset.trans (Keeps.drew _)
  have kA : Keeps (fun _ => False) w2 (w2.alloc (.cells #[kd, tx] 32)) := Keeps.of_below' hA
  have old : ∀ b, b < wr.heap.size → ¬ O b → ¬ O2 b := fun b hb ho e => by
    rcases (hO2 b e).1 with h | h
    · exact ho h
    · omega
  have all : ∀ {b : Nat} {o : Obj}, wr.heap[b]? = some o → b ≠ X → ¬ some b = v.ownBlock → ¬ O b → (W3.setCell ⟨X, 1, none⟩ (.int .i64 (at2 : Int))).drew.heap[b]? = some o := fun {b o} h hX hV ho =>
    kd4.heap (hk3.heap (kA.heap (hk.heap (show wr.drew.heap[b]? = some o from h) (fun e => e.elim hX hV)) (fun h => h)) ho) hX
  have hXl := heap_lt HH.lex.blk
  have vcase : ∀ g, some g = v'.ownBlock → (some g = v.ownBlock ∨ wr.heap.size ≤ g) := fun g hg => by
    rcases hv with hv | ⟨g', hv, hg'⟩
    · exact .inl (hg.trans hv)
    · rw [hv] at hg; cases hg; exact .inr hg'
  have vlt : ∀ g, some g = v'.ownBlock → g < w2.heap.size := fun g hg => (h2.own.lt g hg.symm).2
  have hset : LexSt (W3.setCell ⟨X, 1, none⟩ (.int .i64 (at2 : Int))).drew X s at2 v' st2 inn2 0 :=
    ⟨heap_setCell_same W3 X 1 _ _ _ h3.blk, ownsRow_setCell_other h3.own h3.apart _⟩
  have hb1l := HH.b1.lt
  have hb3l := HH.b3.lt
  have htl := heap_lt HH.tab
  refine ⟨⟨hreach, hset, all HH.b1 HH.d1 HH.a1 HH.no1, all HH.b3 HH.d3 HH.a3 HH.no3, all HH.tab HH.dT HH.aT HH.noT, ?_, hle, old X hXl HH.noX, old B1 hb1l HH.no1, old B3 hb3l HH.no3, old TB htl HH.noT, ?_, ?_, ?_, ?_, ?_, HH.d1, HH.d3, HH.dT⟩, ?_, ?_⟩
  · have h1 := HH.size
    have h2' := hk3.size
    have h3' := kd4.size
    omega
  · intro g hg e
    have hgl := vlt g hg
    rcases (hO2 g e).1 with h | h
    · rcases vcase g hg with hc | hc
      · exact HH.noV g hc h
      · have := hO g h; omega
    · omega
  · intro g hg
    rcases vcase g hg with hc | hc
    · exact HH.newV g hc
    · have := HH.size; omega
  · intro e
    rcases vcase B1 e with hc | hc
    · exact HH.a1 hc
    · omega
  · intro e
    rcases vcase B3 e with hc | hc
    · exact HH.a3 hc
    · omega
  · intro e
    rcases vcase TB e with hc | hc
    · exact HH.aT hc
    · omega
  · intro b hb
    exact Nat.lt_of_lt_of_le (hO2 b hb).2 kd4.size
  · exact kd4.mono fun b _ e => ⟨by rw [e]; exact old X hXl HH.noX, .inl e⟩

set_option maxRecDepth 100000 in
set_option maxHeartbeats 4000000 in
theorem all_in (n : Nat) (hn : 3 ≤ n) (l : Nat) (X B1 : Nat) (s : ByteArray) (hs : s.size ≤ 65536) (hd1 : B1 ≠ X) (J Jx : List Tok3 → (Nat → Prop) → World → Prop) (W : World) (O : Nat → Prop)
    (hO : ∀ b, O b → b < W.heap.size ∧ ¬ b = X ∧ ¬ b = B1)
    (hJ : ∀ pre O A B, J pre O A → Keeps (fun b => ¬ O b ∧ (b = X ∨ W.heap.size ≤ b)) A B → J pre O B)
    (hY : ∀ pre x W1 O1, J pre O1 W1 → pre.length < 65537 → YieldAt Fence.wide (n - 1) Tryz.prog l (tokV s.data.toList x) W1 fun e W' => ∃ O2, Keeps O1 W1 W' ∧ (∀ b, O2 b → (O1 b ∨ W1.heap.size ≤ b) ∧ b < W'.heap.size) ∧
      ((e = .returned (.bool true) ∧ J (pre ++ [x]) O2 W') ∨ (e = .returned (.bool false) ∧ Jx (pre ++ [x]) O2 W')))
    (hst : LexSt W X s 0 (.slice none 0 0) [] false 0) (hb1 : Boxed W B1 45 (.pointer (some ⟨X, 0, none⟩))) (h0 : J [] O W) :
    CallsIn Fence.wide n Tryz.prog 32 #[.func (.yield l) #[] #[], .pointer (some ⟨B1, 0, none⟩)] W fun e W' => (∃ v, e = .returned v) ∧
      ((∃ ys O', Done s X ys W' ∧ J ys O' W') ∨ (∃ pre O', Jx pre O' W')) := by
  refine callsIn_of_wp Tryz.func32 rfl trivial ?_ rfl
  simp only [Tryz.ntmps32, List.size_toArray, List.length_cons, List.length_nil, Nat.reduceAdd, Nat.reduceSub, Array.replicate_succ, Array.replicate_zero, List.push_toArray, List.append_toArray, List.nil_append, List.cons_append]
  have htr := fun w => tries_calls w
  gi_wp2_with (refine ⟨trivial, fun _ => by omega, ?_⟩; gi_at_call 33; refine (callsIn_wide.2 (htr _)).mono ?_; rintro e w' ⟨rfl, rfl⟩)
  clear htr
  have hB0 : Below W.heap.size W ((W.alloc (.cells triesC.toArray 79)).alloc (.cells #[.slice (some ⟨W.heap.size, 0, none⟩) 9 9] 67)) := ((Below.refl _ _).alloc (Nat.le_refl _) _).alloc (by simp) _
  have ht0 : ((W.alloc (.cells triesC.toArray 79)).alloc (.cells #[.slice (some ⟨W.heap.size, 0, none⟩) 9 9] 67)).heap[W.heap.size]? = some (.cells triesC.toArray 79 (0, 0)) := (Below.heap_alloc _ _ _ (by simp)).trans (World.alloc_heap_new W _)
  have hb3 : Boxed ((W.alloc (.cells triesC.toArray 79)).alloc (.cells #[.slice (some ⟨W.heap.size, 0, none⟩) 9 9] 67)) (W.heap.size + 1) 67 (.slice (some ⟨W.heap.size, 0, none⟩) 9 9) := by
    have := Boxed.new (W.alloc (.cells triesC.toArray 79)) 67 (.slice (some ⟨W.heap.size, 0, none⟩) 9 9)
    simpa using this
  have hXl : X < W.heap.size := heap_lt hst.blk
  have hBl : B1 < W.heap.size := hb1.lt
  have hh : AtHead W ((W.alloc (.cells triesC.toArray 79)).alloc (.cells #[.slice (some ⟨W.heap.size, 0, none⟩) 9 9] 67)) X B1 (W.heap.size + 1) W.heap.size s [] 0 [] false (.slice none 0 0) O :=
    ⟨.nil, hst.below hB0, boxed_keeps hb1 (Keeps.of_below' (O := fun _ => False) hB0) (fun h => h), hb3, ht0, hB0.size, Nat.zero_le _, (fun h => (hO _ h).2.1 rfl), (fun h => (hO _ h).2.2 rfl), (fun h => absurd (hO _ h).1 (by omega)), (fun h => absurd (hO _ h).1 (by omega)), (fun g hg => by cases hg), (fun g hg => by cases hg), (fun h => by cases h), (fun h => by cases h), (fun h => by cases h), hd1, (by omega), (by omega)⟩
  have hJ0 : J [] O ((W.alloc (.cells triesC.toArray 79)).alloc (.cells #[.slice (some ⟨W.heap.size, 0, none⟩) 9 9] 67)) := hJ _ _ _ _ h0 (Keeps.of_below' hB0)
  have hO0 : ∀ b, O b → b < ((W.alloc (.cells triesC.toArray 79)).alloc (.cells #[.slice (some ⟨W.heap.size, 0, none⟩) 9 9] 67)).heap.size := fun b hb => by have := (hO b hb).1; simp; omega
  have HH := Lib.hid hh
  have HJ0 := Lib.hid hJ0
  have HO0 := Lib.hid hO0
  clear hB0 ht0 hb3 hh hJ0 hO0 h0 hst hb1
  generalize (W.alloc (.cells triesC.toArray 79)).alloc (.cells #[.slice (some ⟨W.heap.size, 0, none⟩) 9 9] 67) = W0 at *
  gi_loopw [4, 5] (fun _ _ wr => ∃ (pre : List Tok3) (at' : Nat) (st : List Nat) (inn : Bool) (v : Value) (O : Nat → Prop), Hid (AtHead W wr X B1 (W.heap.size + 1) W.heap.size s pre at' st inn v O) ∧ Hid (J pre O wr) ∧ Hid (∀ b, O b → b < wr.heap.size))
    (fun _ _ wr => s.size - cellInt (wr.cell? ⟨X, 1, none⟩))
  case atStart => exact ⟨[], 0, [], false, _, O, HH, HJ0, HO0⟩
  case round =>
    clear HH HJ0 HO0 hO O
    obtain ⟨pre, at', st, inn, v, O, HH, HJ, HO⟩ := hrel
    have k1 := HH.out.b1.cell
    have c0 := HH.out.lex.c0
    have c1 := HH.out.lex.c1
    have hle := HH.out.le
    by_cases hlt : at' < s.size
    · obtain ⟨r1, r2, r3, r4⟩ := reach_facts HH.out.reach
      rw [← Lib.size_eq] at r1
      have hXw : X < wr.heap.size := heap_lt HH.out.lex.blk
      have k3 := HH.out.b3.cell
      cases inn
      · have c3 := HH.out.lex.c3
        have hins := fun h => close_calls (w := wr.drew) (HH.out.lex.drew') HH.out.tab HH.out.dT HH.out.aT hlt hs (fun x hx => by have := r3 x hx; omega) h (show wr.drew.cell? ⟨B1, 0, none⟩ = _ from k1) (show wr.drew.cell? ⟨W.heap.size + 1, 0, none⟩ = _ from k3)
        have hstep : stepN (s.data.toList.drop at') st false = outN (s.data.toList.drop at') st := rfl
        have hgood := stepN_good (s.data.toList.drop at') st false at' (fun e => by have := congrArg List.length e; rw [List.length_drop, ← Lib.size_eq] at this; simp at this; omega) r2 r3 
        rw [← hstep] at hins 
        generalize hr5 : stepN (s.data.toList.drop at') st false = r5 at * 
        obtain ⟨k, m, st2, inn2, er⟩ := r5 
        have Hins := Lib.hid (hins hXw) 
        have Hr5 := Lib.hid hr5 
        have Hgood := Lib.hid hgood 
        clear hins hstep hgood hr5 k3 
        cases er 
        · gi_wp2 
          gi_region 
          gi_wp2_with (refine ⟨trivial, fun _ => by omega, ?_⟩; gi_at_call 35; refine (callsIn_wide.2 Hins.out).mono ?_; rintro e w2 ⟨v', R, rfl, hRd, h2, hk2, hv2⟩; obtain rfl : R = ⟨((s.data.toList.drop at').take m).toArray⟩ := (by rw [← hRd]); obtain ⟨z1, z2, z3, z4, z5⟩ := head_after HH.out HJ.out HO.out hJ h2 hk2 (.int .i64 (k : Int)) ((s.data.toList.drop at').take m); obtain ⟨fn, tmps, assign, body, hy, hR⟩ := hY pre (k, at', m) _ O z1 (by omega); have HR := Lib.hid hR; have H2 := Lib.hid h2; have Hk2 := Lib.hid hk2; have Hv2 := Lib.hid hv2; clear hRd h2 hk2 hv2 k1 c0 c1 c3 z1 hR; dsimp only [tokV] at hy) 
          refine ⟨fun _ => by omega, ?_⟩ 
          refine HR.out.mono ?_ 
          clear hy 
          rintro e W3 ⟨O2, hk3, hO2', (⟨rfl, hJ3⟩ | ⟨rfl, hJx3⟩)⟩ 
          · obtain ⟨m0, m1, m2, m3, m4⟩ := head_read HH.out HO.out H2.out Hk2.out Hv2.out hk3 
            clear z2 z3 z4 z5 
            gi_wp2 
            gi_region 
            gi_wp2 
            obtain ⟨g1, g2, g3, _⟩ := Hgood.out rfl 
            dsimp only at g1 g2 
            rw [List.length_drop, ← Lib.size_eq] at g2 
            have hmin : min m (s.size - at') = m := by omega 
            rw [hmin, show ((at' : Int) + (m : Int)) = ((at' + m : Nat) : Int) by omega] 
            obtain ⟨n1, n2, n3⟩ := head_next HH.out HO.out H2.out Hk2.out Hv2.out hk3 hO2' m4 (.snoc HH.out.reach (by rw [← Lib.size_eq]; exact hlt) Hr5.out) (by omega) 
            refine ⟨⟨_, at' + m, st2, inn2, v', O2, Lib.hid n1, Lib.hid (hJ _ _ _ _ hJ3 n3), Lib.hid n2⟩, ?_⟩ 
            rw [n1.lex.c1, HH.out.lex.c1] 
            simp only [cellInt, Int.toNat_natCast] 
            omega 
          · gi_wp2 
            refine bodyPost_ret (results_none rfl _ _ _) rfl ?_ 
            exact ⟨⟨_, rfl⟩, .inr ⟨_, O2, hJx3⟩⟩ 
        · rename_i er 
          gi_wp2 
          gi_region 
          have yer : (((er + 1 : Nat) : Int) != 0) = true := by rw [bne_iff_ne]; omega 
          gi_wp2_with (refine ⟨trivial, fun _ => by omega, ?_⟩; gi_at_call 35; refine (callsIn_wide.2 Hins.out).mono ?_; rintro e w2 ⟨v', R, rfl, hRd, h2, hk2, hv2⟩; obtain rfl : R = ⟨((s.data.toList.drop at').take m).toArray⟩ := (by rw [← hRd]); obtain ⟨z1, z2, z3, z4, z5⟩ := head_after HH.out HJ.out HO.out hJ h2 hk2 (.int .i64 (k : Int)) ((s.data.toList.drop at').take m); have Z1 := Lib.hid z1; have H2 := Lib.hid h2; have Hk2 := Lib.hid hk2; have Hv2 := Lib.hid hv2; clear hRd h2 hk2 hv2 k1 c0 c1 c3 z1) 
          all_goals 
            (try (refine ⟨(fun f h => by cases h), ?_⟩)) 
            gi_wp2 
            refine bodyPost_ret (results_none rfl _ _ _) rfl ?_ 
            exact ⟨⟨_, rfl⟩, .inl ⟨pre, O, ⟨at', st, _, v', st2, inn2, er + 1, HH.out.reach, H2.out.below ((Below.refl _ _).alloc (Nat.le_refl _) _), .inl ⟨hlt, by omega, by rw [Hr5.out]⟩⟩, Z1.out⟩⟩
      · have c3 := HH.out.lex.c3
        have hins := fun h => inside_calls (w := wr.drew) (HH.out.lex.drew') hlt hs r2 h
        have hstep : stepN (s.data.toList.drop at') st true = insN (s.data.toList.drop at') st := rfl
        have hgood := stepN_good (s.data.toList.drop at') st true at' (fun e => by have := congrArg List.length e; rw [List.length_drop, ← Lib.size_eq] at this; simp at this; omega) r2 r3 
        rw [← hstep] at hins 
        generalize hr5 : stepN (s.data.toList.drop at') st true = r5 at * 
        obtain ⟨k, m, st2, inn2, er⟩ := r5 
        have Hins := Lib.hid (hins hXw) 
        have Hr5 := Lib.hid hr5 
        have Hgood := Lib.hid hgood 
        clear hins hstep hgood hr5 k3 
        cases er 
        · gi_wp2 
          gi_region 
          gi_wp2_with (refine ⟨trivial, fun _ => by omega, ?_⟩; gi_at_call 34; refine (callsIn_wide.2 Hins.out).mono ?_; rintro e w2 ⟨v', R, rfl, hRd, h2, hk2, hv2⟩; obtain rfl : R = ⟨((s.data.toList.drop at').take m).toArray⟩ := (by rw [← hRd]); obtain ⟨z1, z2, z3, z4, z5⟩ := head_after HH.out HJ.out HO.out hJ h2 hk2 (.int .i64 (k : Int)) ((s.data.toList.drop at').take m); obtain ⟨fn, tmps, assign, body, hy, hR⟩ := hY pre (k, at', m) _ O z1 (by omega); have HR := Lib.hid hR; have H2 := Lib.hid h2; have Hk2 := Lib.hid hk2; have Hv2 := Lib.hid hv2; clear hRd h2 hk2 hv2 k1 c0 c1 c3 z1 hR; dsimp only [tokV] at hy) 
          refine ⟨fun _ => by omega, ?_⟩ 
          refine HR.out.mono ?_ 
          clear hy 
          rintro e W3 ⟨O2, hk3, hO2', (⟨rfl, hJ3⟩ | ⟨rfl, hJx3⟩)⟩ 
          · obtain ⟨m0, m1, m2, m3, m4⟩ := head_read HH.out HO.out H2.out Hk2.out Hv2.out hk3 
            clear z2 z3 z4 z5 
            gi_wp2 
            gi_region 
            gi_wp2 
            obtain ⟨g1, g2, g3, _⟩ := Hgood.out rfl 
            dsimp only at g1 g2 
            rw [List.length_drop, ← Lib.size_eq] at g2 
            have hmin : min m (s.size - at') = m := by omega 
            rw [hmin, show ((at' : Int) + (m : Int)) = ((at' + m : Nat) : Int) by omega] 
            obtain ⟨n1, n2, n3⟩ := head_next HH.out HO.out H2.out Hk2.out Hv2.out hk3 hO2' m4 (.snoc HH.out.reach (by rw [← Lib.size_eq]; exact hlt) Hr5.out) (by omega) 
            refine ⟨⟨_, at' + m, st2, inn2, v', O2, Lib.hid n1, Lib.hid (hJ _ _ _ _ hJ3 n3), Lib.hid n2⟩, ?_⟩ 
            rw [n1.lex.c1, HH.out.lex.c1] 
            simp only [cellInt, Int.toNat_natCast] 
            omega 
          · gi_wp2 
            refine bodyPost_ret (results_none rfl _ _ _) rfl ?_ 
            exact ⟨⟨_, rfl⟩, .inr ⟨_, O2, hJx3⟩⟩ 
        · rename_i er 
          gi_wp2 
          gi_region 
          have yer : (((er + 1 : Nat) : Int) != 0) = true := by rw [bne_iff_ne]; omega 
          gi_wp2_with (refine ⟨trivial, fun _ => by omega, ?_⟩; gi_at_call 34; refine (callsIn_wide.2 Hins.out).mono ?_; rintro e w2 ⟨v', R, rfl, hRd, h2, hk2, hv2⟩; obtain rfl : R = ⟨((s.data.toList.drop at').take m).toArray⟩ := (by rw [← hRd]); obtain ⟨z1, z2, z3, z4, z5⟩ := head_after HH.out HJ.out HO.out hJ h2 hk2 (.int .i64 (k : Int)) ((s.data.toList.drop at').take m); have Z1 := Lib.hid z1; have H2 := Lib.hid h2; have Hk2 := Lib.hid hk2; have Hv2 := Lib.hid hv2; clear hRd h2 hk2 hv2 k1 c0 c1 c3 z1) 
          all_goals 
            (try (refine ⟨(fun f h => by cases h), ?_⟩)) 
            gi_wp2 
            refine bodyPost_ret (results_none rfl _ _ _) rfl ?_ 
            exact ⟨⟨_, rfl⟩, .inl ⟨pre, O, ⟨at', st, _, v', st2, inn2, er + 1, HH.out.reach, H2.out.below ((Below.refl _ _).alloc (Nat.le_refl _) _), .inl ⟨hlt, by omega, by rw [Hr5.out]⟩⟩, Z1.out⟩⟩
    · have hat : at' = s.size := by omega
      subst hat
      have c3 := HH.out.lex.c3
      have c4 := HH.out.lex.c4
      have f4 := HH.out.lex.free 4
      have hJX : ∀ B', Keeps (fun b => b = X) wr B' → J pre O B' := fun B' h => hJ _ _ _ _ HJ.out (h.mono fun b _ e => ⟨by rw [e]; exact HH.out.noX, .inl e⟩)
      have HJX := Lib.hid hJX
      have kset : ∀ n, Keeps (fun b => b = X) wr ((wr.setCell ⟨X, 4, none⟩ (.int .u16 13)).drewN n) := fun n => (keeps_setCell (O := fun b => b = X) wr X 4 (.int .u16 13) rfl).trans (Keeps.of_below' (below_drewN (Below.refl _ _) n))
      have Hset := Lib.hid kset
      have Hl := Lib.hid (HH.out.lex.setErr 13)
      clear hJX kset
      cases inn
      · rcases HH.out.lex.nil_or with ⟨hst, p, cap, hv⟩ | ⟨t, rest, g, cap, cur, hst, hv, _⟩
        · subst hst
          have Htop := Lib.hid (top_nil (HH.out.lex.drew'))
          gi_wp2
          gi_region
          gi_wp2_with (refine ⟨trivial, fun _ => by omega, ?_⟩; gi_at_call 37; refine (callsIn_wide.2 Htop.out).mono ?_; rintro e w2 ⟨rfl, rfl⟩)
          refine bodyPost_end (results_none rfl _ _ _) rfl ?_
          exact ⟨⟨_, rfl⟩, .inl ⟨pre, O, ⟨s.size, [], false, v, [], false, 0, HH.out.reach, HH.out.lex.drew', .inr ⟨rfl, rfl⟩⟩, HJX.out _ (Keeps.drew _)⟩⟩
        · subst hst
          subst hv
          have Htop := Lib.hid (top_some (HH.out.lex.drew'))
          gi_wp2
          gi_region
          gi_wp2_with (refine ⟨trivial, fun _ => by omega, ?_⟩; gi_at_call 37; refine (callsIn_wide.2 Htop.out).mono ?_; rintro e w2 ⟨rfl, nq, rfl⟩)
          refine bodyPost_end (results_none rfl _ _ _) rfl ?_
          exact ⟨⟨_, rfl⟩, .inl ⟨pre, O, ⟨s.size, _, false, _, _, false, 13, HH.out.reach, ⟨Hl.out.blk, Hl.out.own⟩, .inr ⟨rfl, rfl⟩⟩, HJX.out _ (by first | exact Hset.out _ | exact (Hset.out 0).trans (Keeps.drew _))⟩⟩
      · gi_wp2
        gi_region
        gi_wp2
        refine ⟨trivial, ?_⟩
        gi_wp2
        refine bodyPost_end (results_none rfl _ _ _) rfl ?_
        exact ⟨⟨_, rfl⟩, .inl ⟨pre, O, ⟨s.size, st, true, v, st, true, 13, HH.out.reach, ⟨Hl.out.blk, Hl.out.own⟩, .inr ⟨rfl, rfl⟩⟩, HJX.out _ (by first | exact Hset.out _ | exact (Hset.out 0).trans (Keeps.drew _))⟩⟩
end Go.Proofs.YtfaocpcbejgfjaaGreatDoor
namespace Go.Proofs.YtfaocpcbejgfjaaGreatDoor
open Go.RowKit Go.Sub

theorem lex_stops (n : Nat) (hn : 3 ≤ n) (X B1 : Nat) (s : ByteArray) (hs : s.size ≤ 65536) (hd1 : B1 ≠ X) (w : World) (hst : LexSt w X s 0 (.slice none 0 0) [] false 0) (hb1 : Boxed w B1 45 (.pointer (some ⟨X, 0, none⟩))) :
    SeqO Fence.wide n Tryz.prog 32 #[.pointer (some ⟨B1, 0, none⟩)] (tokV s.data.toList) (fun b => b = X) (fun b => b = B1) (fun ys W' => Done s X ys W') (fun _ _ => True) 65537 w := fun l J Jx W O hW hO hJ hY h0 =>
  (all_in n hn l X B1 s hs hd1 J Jx W O hO hJ hY (hst.below hW) (boxed_keeps hb1 (Keeps.of_below' (O := fun _ => False) hW) (fun h => h)) h0).mono fun e W' ⟨he, h⟩ => ⟨he, h.imp id fun ⟨pre, O', hx⟩ => ⟨pre, O', trivial, hx⟩⟩
end Go.Proofs.YtfaocpcbejgfjaaGreatDoor
namespace Go.Proofs.YtfaocpcbejgfjaaGreatDoor
open Go.RowKit Go.Sub

theorem lexN_step {l : List UInt8} {at' : Nat} {st : List Nat} {inn : Bool} {k n : Nat} {st2 : List Nat} {inn2 : Bool} (h : at' < l.length) (hs : stepN (l.drop at') st inn = (k, n, st2, inn2, 0)) (F : Nat) :
    lexN (F + 1) l at' st inn = ((k, at', n) :: (lexN F l (at' + n) st2 inn2).1, (lexN F l (at' + n) st2 inn2).2) := by
  rw [lexN, if_neg (by omega), hs]
theorem reach_run {l : List UInt8} {pre : List Tok3} {at' : Nat} {st : List Nat} {inn : Bool} (h : Reach l pre at' st inn) : ∀ F, lexN (pre.length + F) l 0 [] false = (pre ++ (lexN F l at' st inn).1, (lexN F l at' st inn).2) := by
  induction h with
  | nil => intro F; simp
  | @snoc pre at' st inn k n st2 inn2 _ hlt hs ih =>
    intro F
    have e := ih (F + 1)
    rw [lexN_step hlt hs] at e
    rw [List.length_append, show pre.length + [(k, at', n)].length + F = pre.length + (F + 1) by simp only [List.length_cons, List.length_nil]; omega, e]
    simp
theorem done_run {s : ByteArray} {X : Nat} {ys : List Tok3} {W : World} (h : Done s X ys W) : ∃ (at' : Nat) (v : Value) (st2 : List Nat) (inn2 : Bool) (er : Nat), LexSt W X s at' v st2 inn2 (er : Int) ∧ ∀ F, lexN (ys.length + (F + 1)) s.data.toList 0 [] false = (ys, er, at') := by
  obtain ⟨at', st, inn, v, st2, inn2, er, hr, hl, h⟩ := h
  refine ⟨at', v, st2, inn2, er, hl, fun F => ?_⟩
  rw [reach_run hr]
  have hsz := Lib.size_eq s
  have e : lexN (F + 1) s.data.toList at' st inn = ([], er, at') := by
    rcases h with ⟨hlt, h0, he⟩ | ⟨hat, he⟩
    · generalize hst : stepN (s.data.toList.drop at') st inn = r at he
      obtain ⟨k, n, st3, inn3, e⟩ := r
      dsimp only at he
      subst he
      cases e with
      | zero => exact absurd rfl h0
      | succ e => rw [lexN, if_neg (by omega), hst]
    · rw [lexN, if_pos (by omega), he]
  rw [e]; simp
end Go.Proofs.YtfaocpcbejgfjaaGreatDoor
namespace Go.Proofs.YtfaocpcbejgfjaaGreatDoor
open Go.RowKit Go.Sub

def Stable (f : List UInt8 → Nat) : Prop := ∀ l m, f l ≤ m → f (l.take m) = f l
theorem run_take (p : UInt8 → Bool) : ∀ (l : List UInt8) (m : Nat), runOf p (l.take m) = min m (runOf p l)
  | [], m => by simp [runOf]
  | b :: r, 0 => by simp [runOf]
  | b :: r, m + 1 => by
    have ih := run_take p r m
    unfold runOf at ih ⊢
    rw [List.take_succ_cons, List.takeWhile_cons, List.takeWhile_cons]
    cases p b
    · simp
    · simp only [if_true, List.length_cons]; omega
theorem stable_run (p : UInt8 → Bool) : Stable (runOf p) := fun l m h => by rw [run_take]; omega
theorem pre_take {l x : List UInt8} {m : Nat} (h : Lib.hasPrefix (l.take m) x = true) : Lib.hasPrefix l x = true := by
  unfold Lib.hasPrefix at *
  exact List.isPrefixOf_iff_prefix.2 ((List.isPrefixOf_iff_prefix.1 h).trans (List.take_prefix _ _))
theorem pre_to {l x : List UInt8} {m : Nat} (h : Lib.hasPrefix l x = true) (hm : x.length ≤ m) : Lib.hasPrefix (l.take m) x = true := by
  unfold Lib.hasPrefix at *
  obtain ⟨r, rfl⟩ := List.isPrefixOf_iff_prefix.1 h
  refine List.isPrefixOf_iff_prefix.2 ⟨r.take (m - x.length), ?_⟩
  rw [List.take_append, List.take_of_length_le hm]
theorem stable_simple : Stable simpleN := fun l m h => by
  match l, m, h with
  | [], m, _ => simp [simpleN]
  | b :: r, 0, h => rw [Nat.le_zero.1 h]; rfl
  | b :: r, m + 1, h =>
    have e : ∀ r, simpleN (b :: r) = if isLetter b then runOf isPart (b :: r) else 0 := fun _ => rfl
    rw [e] at h
    rw [List.take_succ_cons, e, e]
    by_cases hb : isLetter b = true
    · rw [if_pos hb] at h
      rw [if_pos hb, if_pos hb, ← List.take_succ_cons, run_take]; omega
    · rw [if_neg hb, if_neg hb]
theorem stable_more_k : ∀ k (l : List UInt8) m, l.length ≤ k → moreN l ≤ m → moreN (l.take m) = moreN l := by
  intro k
  induction k with
  | zero =>
    intro l m h _
    obtain rfl := List.length_eq_zero_iff.1 (show l.length = 0 by omega)
    rw [List.take_nil]
  | succ k ih =>
    intro l m hl h
    cases hp : Lib.hasPrefix l [58, 58]
    · rw [moreN_miss l hp, moreN_miss]
      cases hq : Lib.hasPrefix (l.take m) [58, 58]
      · rfl
      · rw [pre_take hq] at hp; simp at hp
    · by_cases h0 : simpleN (l.drop 2) = 0
      · rw [moreN_none l hp h0]
        cases hq : Lib.hasPrefix (l.take m) [58, 58]
        · exact moreN_miss _ hq
        · refine moreN_none _ hq ?_
          rw [List.drop_take, stable_simple _ _ (by omega), h0]
      · rw [moreN_hit l _ hp rfl h0] at h ⊢
        have hm : 2 + simpleN (l.drop 2) ≤ m := by omega
        have h2 := Lib.hasPrefix_le hp
        simp only [List.length_cons, List.length_nil] at h2
        have e : simpleN ((l.take m).drop 2) = simpleN (l.drop 2) := by rw [List.drop_take, stable_simple _ _ (by omega)]
        rw [moreN_hit (l.take m) _ (pre_to hp (by simp only [List.length_cons, List.length_nil]; omega)) e h0, List.drop_take, ih _ _ (by rw [List.length_drop]; omega) (by omega)]
theorem stable_more : Stable moreN := fun l m h => stable_more_k _ l m (Nat.le_refl _) h
theorem stable_word : Stable wordN := fun l m h => by
  unfold wordN at h ⊢
  by_cases h0 : simpleN l = 0
  · rw [if_pos h0, if_pos (by rw [stable_simple _ _ (by omega), h0])]
  · rw [if_neg h0] at h
    have e := stable_simple l m (by omega)
    rw [if_neg h0, if_neg (by rw [e]; exact h0), e, List.drop_take, stable_more _ _ (by omega)]
theorem signOff_take (r : List UInt8) (m : Nat) : signOff (r.take m) = (signOff r).take (m - (r.length - (signOff r).length)) := by
  match r, m with
  | [], m => simp [signOff]
  | b :: t, 0 => rw [Nat.zero_sub]; rfl
  | b :: t, m + 1 =>
    have e : ∀ t, signOff (b :: t) = if b == 43 || b == 45 then t else b :: t := fun _ => rfl
    rw [List.take_succ_cons, e, e]
    split
    · rw [List.length_cons, show m + 1 - (t.length + 1 - t.length) = m by omega]
    · rw [Nat.sub_self, Nat.sub_zero, List.take_succ_cons]
theorem stable_power : Stable powerN := fun l m h => by
  match l, m, h with
  | [], m, _ => simp [powerN]
  | b :: r, 0, h => rw [Nat.le_zero.1 h]; rfl
  | b :: r, m + 1, h =>
    have e : ∀ r, powerN (b :: r) = if b == 101 || b == 69 then (if runOf isDigit (signOff r) = 0 then 0 else (b :: r).length - (signOff r).length + runOf isDigit (signOff r)) else 0 := fun _ => rfl
    rw [List.take_succ_cons, e, e]
    rw [e] at h
    by_cases hb : (b == 101 || b == 69) = true
    · rw [if_pos hb] at h
      rw [if_pos hb, if_pos hb, signOff_take, run_take]
      have hs := signOff_le r
      have hr := runOf_le isDigit (signOff r)
      by_cases h0 : runOf isDigit (signOff r) = 0
      · rw [if_pos h0, if_pos (by omega)]
      · rw [if_neg h0] at h
        simp only [List.length_cons] at h
        rw [if_neg h0, if_neg (by omega)]
        simp only [List.length_cons, List.length_take]
        omega
    · rw [if_neg hb, if_neg hb]
theorem stable_mant : Stable mantN := fun l m h => by
  have hr := runOf_le isDigit l
  have ht := run_take isDigit l m
  by_cases h46 : l[runOf isDigit l]? = some 46
  · have e : mantN l = if runOf isDigit l + runOf isDigit (l.drop (runOf isDigit l + 1)) = 0 then 0 else runOf isDigit l + (1 + runOf isDigit (l.drop (runOf isDigit l + 1))) := by unfold mantN; rw [if_pos h46]
    rw [e] at h ⊢
    by_cases h0 : runOf isDigit l + runOf isDigit (l.drop (runOf isDigit l + 1)) = 0
    · rw [if_pos h0]
      have hd : runOf isDigit l = 0 := by omega
      rw [hd] at ht h0
      unfold mantN
      rw [ht, Nat.min_zero]
      split
      · rw [if_pos]
        rw [List.drop_take, run_take]
        omega
      · rfl
    · rw [if_neg h0] at h ⊢
      have hm : runOf isDigit (l.take m) = runOf isDigit l := by omega
      unfold mantN
      rw [hm, if_pos (by rw [List.getElem?_take_of_lt (by omega)]; exact h46), List.drop_take, run_take, show min (m - (runOf isDigit l + 1)) (runOf isDigit (l.drop (runOf isDigit l + 1))) = runOf isDigit (l.drop (runOf isDigit l + 1)) by omega, if_neg h0]
  · have e : mantN l = runOf isDigit l := by unfold mantN; rw [if_neg h46]
    rw [e] at h ⊢
    have hm : runOf isDigit (l.take m) = runOf isDigit l := by omega
    unfold mantN
    rw [hm, if_neg]
    intro hc
    rw [List.getElem?_take] at hc
    split at hc
    · exact h46 hc
    · simp at hc
theorem stable_number : Stable numberN := fun l m h => by
  unfold numberN at h ⊢
  by_cases h0 : mantN l = 0
  · rw [if_pos h0, if_pos (by rw [stable_mant _ _ (by omega), h0])]
  · rw [if_neg h0] at h
    have e := stable_mant l m (by omega)
    rw [if_neg h0, if_neg (by rw [e]; exact h0), e, List.drop_take, stable_power _ _ (by omega)]
theorem nl_take {l : List UInt8} {k m : Nat} (h : Lib.indexByte l 10 = k) (hk : k < m) : Lib.indexByte (l.take m) 10 = k := by
  obtain ⟨h1, h2⟩ := Lib.indexByte_some h
  rcases nl_cases (l.take m) with h0 | ⟨j, hj, hjl⟩
  · have := Lib.indexByte_none (show Lib.indexByte (l.take m) 10 = -1 by have := Lib.indexByte_ge (l.take m) 10; omega) k
    rw [List.getElem?_take_of_lt hk] at this
    exact absurd h1 this
  · obtain ⟨j1, j2⟩ := Lib.indexByte_some hj
    have hjk : j = k := by
      rcases Nat.lt_trichotomy j k with hlt | he | hgt
      · refine absurd ?_ (h2 j hlt)
        rwa [List.getElem?_take_of_lt (by omega)] at j1
      · exact he
      · refine absurd ?_ (j2 k hgt)
        rw [List.getElem?_take_of_lt hk]; exact h1
    rw [hj, hjk]
theorem nl_none {l : List UInt8} (h : ∀ k : Nat, l[k]? ≠ some 10) : Lib.indexByte l 10 < 0 := by
  rcases nl_cases l with h0 | ⟨j, hj, hjl⟩
  · exact h0
  · exact absurd (Lib.indexByte_some hj).1 (h j)
theorem stable_lines_k : ∀ k (l : List UInt8) m, l.length ≤ k → linesN l ≤ m → linesN (l.take m) = linesN l := by
  intro k
  induction k with
  | zero =>
    intro l m h _
    obtain rfl := List.length_eq_zero_iff.1 (show l.length = 0 by omega)
    rw [List.take_nil]
  | succ k ih =>
    intro l m hl h
    rcases nl_cases l with h0 | ⟨j, hj, hjl⟩
    · rw [linesN_none l h0] at h
      rw [List.take_of_length_le h]
    · cases h2 : (!oddB (l.take j) && !oddB (Lib.trimSuffix (l.take j) [13]))
      · rw [linesN_more l j hj h2] at h ⊢
        have ht : (l.take m).take j = l.take j := by rw [List.take_take, Nat.min_eq_left (by omega)]
        rw [linesN_more (l.take m) j (nl_take hj (by omega)) (by rw [ht]; exact h2), List.drop_take, ih _ _ (by rw [List.length_drop]; omega) (by omega)]
      · rw [linesN_end l j hj h2] at h ⊢
        by_cases hm : m = j
        · subst hm
          rw [linesN_none, List.length_take, Nat.min_eq_left (by omega)]
          refine nl_none fun i hi => ?_
          rw [List.getElem?_take] at hi
          split at hi
          · exact (Lib.indexByte_some hj).2 i (by assumption) hi
          · simp at hi
        · have ht : (l.take m).take j = l.take j := by rw [List.take_take, Nat.min_eq_left (by omega)]
          exact linesN_end (l.take m) j (nl_take hj (by omega)) (by rw [ht]; exact h2)
theorem stable_note : Stable noteN := fun l m h => by
  match l, m, h with
  | [], m, _ => simp [noteN]
  | b :: r, 0, h => rw [Nat.le_zero.1 h]; rfl
  | b :: r, m + 1, h =>
    have e : ∀ r, noteN (b :: r) = if b == 35 then linesN (b :: r) else 0 := fun _ => rfl
    rw [List.take_succ_cons, e, e]
    rw [e] at h
    split
    · rename_i hb
      rw [if_pos hb] at h
      rw [← List.take_succ_cons, stable_lines_k _ _ _ (Nat.le_refl _) h]
    · rfl
theorem stable_behind (c : UInt8) {f : List UInt8 → Nat} (hf : Stable f) : Stable (behindN c f) := fun l m h => by
  match l, m, h with
  | [], m, _ => simp [behindN]
  | b :: r, 0, h => rw [Nat.le_zero.1 h]; rfl
  | b :: r, m + 1, h =>
    have e : ∀ r, behindN c f (b :: r) = if b == c then (if f r = 0 then 0 else f r + 1) else 0 := fun _ => rfl
    rw [List.take_succ_cons, e, e]
    rw [e] at h
    split
    · rename_i hb
      rw [if_pos hb] at h
      by_cases h0 : f r = 0
      · rw [if_pos h0, if_pos (by rw [hf _ _ (by omega), h0])]
      · rw [if_neg h0] at h
        rw [hf r m (by omega)]
    · rfl
theorem stable_quote : Stable quoteN := fun l m h => by
  match l, m, h with
  | [], m, _ => simp [quoteN]
  | b :: r, 0, h => rw [Nat.le_zero.1 h]; rfl
  | b :: r, m + 1, h => rfl
theorem find_take (l : List UInt8) (m : Nat) : ∀ os : List (List UInt8), ((os.find? fun o => Lib.hasPrefix l o).map List.length).getD 0 ≤ m → (∀ o ∈ os, o ≠ []) →
    ((os.find? fun o => Lib.hasPrefix (l.take m) o).map List.length).getD 0 = ((os.find? fun o => Lib.hasPrefix l o).map List.length).getD 0
  | [], _, _ => rfl
  | o :: os, h, hn => by
    rw [List.find?_cons] at h
    rw [List.find?_cons, List.find?_cons]
    cases ho : Lib.hasPrefix l o
    · rw [ho] at h
      cases hq : Lib.hasPrefix (l.take m) o
      · exact find_take l m os h fun o ho => hn o (List.mem_cons_of_mem _ ho)
      · rw [pre_take hq] at ho; simp at ho
    · rw [ho] at h
      have : o.length ≤ m := h
      rw [pre_to ho this]
theorem stable_oper : Stable operN := fun l m h => find_take l m opsL h (by decide +kernel)
theorem stable_esc : Stable escN := fun l m h => by
  match l, m, h with
  | [], m, _ => simp [escN]
  | [a], m, _ => match m with | 0 => rfl | m + 1 => simp
  | a :: c :: r, 0, h => rw [Nat.le_zero.1 h]; rfl
  | a :: c :: r, 1, h =>
    have h2 : escN (a :: c :: r) = 0 := by
      have e : escN (a :: c :: r) = if a == 92 then (if escPlain c then 2 else if c == 117 && runOf isHex (r.take 4) == 4 then 6 else 0) else 0 := rfl
      rw [e] at h ⊢
      repeat' split
      all_goals simp_all
    rw [h2]; rfl
  | a :: c :: r, m + 2, h =>
    have e : ∀ r, escN (a :: c :: r) = if a == 92 then (if escPlain c then 2 else if c == 117 && runOf isHex (r.take 4) == 4 then 6 else 0) else 0 := fun _ => rfl
    rw [List.take_succ_cons, List.take_succ_cons, e, e]
    rw [e] at h
    by_cases ha : (a == 92) = true
    · rw [if_pos ha] at h ⊢
      rw [if_pos ha]
      by_cases hc : escPlain c = true
      · rw [if_pos hc, if_pos hc]
      · rw [if_neg hc] at h
        rw [if_neg hc, if_neg hc]
        by_cases hu : (c == 117 && runOf isHex (r.take 4) == 4) = true
        · rw [if_pos hu] at h
          rw [if_pos hu, List.take_take, Nat.min_eq_left (by omega), if_pos hu]
        · rw [if_neg hu, if_neg]
          intro hv
          apply hu
          rw [Bool.and_eq_true, beq_iff_eq, beq_iff_eq] at hv ⊢
          refine ⟨hv.1, ?_⟩
          have h4 := hv.2
          rw [List.take_take, run_take] at h4
          rw [run_take]
          omega
    · rw [if_neg ha, if_neg ha]
theorem stable_piece_k : ∀ k (l : List UInt8) m, l.length ≤ k → pieceN l ≤ m → pieceN (l.take m) = pieceN l := by
  intro k
  induction k with
  | zero =>
    intro l m h _
    obtain rfl := List.length_eq_zero_iff.1 (show l.length = 0 by omega)
    rw [List.take_nil]
  | succ k ih =>
    intro l m hl h
    match l, m, hl, h with
    | [], m, _, _ => rw [List.take_nil]
    | b :: r, 0, _, h => rw [Nat.le_zero.1 h, List.take_zero, piece_nil]
    | b :: r, m + 1, hl, h =>
      by_cases hq : isQS b = true
      · by_cases he : escN (b :: r) = 0
        · rw [List.take_succ_cons, piece_stop b r hq he, piece_stop b _ hq]
          rw [← List.take_succ_cons, stable_esc _ _ (by omega), he]
        · rw [piece_esc (b :: r) he] at h ⊢
          have e := stable_esc (b :: r) (m + 1) (by omega)
          rw [piece_esc ((b :: r).take (m + 1)) (by rw [e]; exact he), e, List.drop_take, ih _ _ (by rw [List.length_drop]; omega) (by omega)]
      · have hq' : isQS b = false := by simpa using hq
        rw [piece_plain b r hq'] at h ⊢
        rw [List.take_succ_cons, piece_plain b _ hq', ih r m (by simp only [List.length_cons] at hl; omega) (by omega)]
theorem stable_piece : Stable pieceN := fun l m h => stable_piece_k _ l m (Nat.le_refl _) h
theorem stable_tries : ∀ x ∈ triesL, Stable x.2.2 := by
  intro x hx
  simp only [triesL, List.mem_cons, List.not_mem_nil, or_false] at hx
  rcases hx with rfl | rfl | rfl | rfl | rfl | rfl | rfl | rfl | rfl
  · exact stable_run _
  · exact stable_note
  · exact stable_word
  · exact stable_behind _ stable_simple
  · exact stable_behind _ stable_word
  · exact stable_behind _ (stable_run _)
  · exact stable_number
  · exact stable_quote
  · exact stable_oper
theorem tries_take (l : List UInt8) (m : Nat) : ∀ (xs : List (Nat × Nat × (List UInt8 → Nat))), (∀ x ∈ xs, Stable x.2.2) → (∀ x, xs.find? (fun x => decide (0 < x.2.2 l)) = some x → x.2.2 l ≤ m) →
    xs.find? (fun x => decide (0 < x.2.2 (l.take m))) = xs.find? (fun x => decide (0 < x.2.2 l))
  | [], _, _ => rfl
  | x :: xs, hs, h => by
    rw [List.find?_cons] at h
    rw [List.find?_cons, List.find?_cons]
    have hx := hs x (by simp) l m
    by_cases h0 : 0 < x.2.2 l
    · rw [decide_eq_true h0] at h
      have := hx (h x rfl)
      rw [this, decide_eq_true h0]
    · rw [decide_eq_false h0] at h
      have := hx (by omega)
      rw [this, decide_eq_false h0]
      exact tries_take l m xs (fun y hy => hs y (List.mem_cons_of_mem _ hy)) h
/-- a step that is no error is the same on a text that is cut behind its token -/
theorem step_take {l : List UInt8} {m : Nat} {st : List Nat} {inn : Bool} {k n : Nat} {st2 : List Nat} {inn2 : Bool} (hs : stepN l st inn = (k, n, st2, inn2, 0)) (hn : n ≤ m) (h0 : 0 < m) : stepN (l.take m) st inn = (k, n, st2, inn2, 0) := by
  unfold stepN at hs ⊢
  cases inn
  · rw [if_neg (by simp)] at hs ⊢
    unfold outN at hs ⊢
    have ht := tries_take l m triesL stable_tries (fun x hx => by rw [hx] at hs; simp only [Prod.mk.injEq] at hs; omega)
    rw [ht]
    cases hf : triesL.find? (fun x => decide (0 < x.2.2 l)) with
    | none => rw [hf] at hs; simp at hs
    | some x =>
      rw [hf] at hs
      have hx : x.2.2 l = n := by simp only [Prod.mk.injEq] at hs; exact hs.2.1
      have e := stable_tries x (List.mem_of_find?_eq_some hf) l m (by omega)
      simp only [e, hx, List.take_take, Nat.min_eq_left hn] at hs ⊢
      exact hs
  · rw [if_pos rfl] at hs ⊢
    unfold insN at hs ⊢
    by_cases hp : 0 < pieceN l
    · rw [if_pos hp] at hs
      have hx : pieceN l = n := by simp only [Prod.mk.injEq] at hs; exact hs.2.1
      have e := stable_piece l m (by omega)
      rw [e, if_pos hp]
      exact hs
    · rw [if_neg hp] at hs
      have e := stable_piece l m (by omega)
      rw [e, if_neg hp, List.getElem?_take_of_lt h0]
      split
      · rename_i h34
        rw [if_pos h34] at hs; exact hs
      · rename_i h34
        rw [if_neg h34] at hs
        cases hpx : Lib.hasPrefix l [92, 40]
        · rw [hpx, if_pos rfl] at hs; simp at hs
        · rw [hpx, if_neg (by simp)] at hs
          by_cases h256 : 256 ≤ st.length
          · rw [if_pos h256] at hs; simp at hs
          · rw [if_neg h256] at hs
            have hx : 2 = n := by simp only [Prod.mk.injEq] at hs; exact hs.2.1
            rw [pre_to hpx (by simp only [List.length_cons, List.length_nil]; omega), if_neg (by simp), if_neg h256]
            exact hs
theorem reach_take {l : List UInt8} {M : Nat} {pre : List Tok3} {at' : Nat} {st : List Nat} {inn : Bool} (h : Reach l pre at' st inn) : at' ≤ M → Reach (l.take M) pre at' st inn := by
  induction h with
  | nil => exact fun _ => .nil
  | @snoc pre at' st inn k n st2 inn2 hr hlt hs ih =>
    intro hM
    obtain ⟨i1, i2, i3, i4⟩ := reach_facts hr
    have hg := stepN_good (l.drop at') st inn at' (fun e => by have := congrArg List.length e; rw [List.length_drop] at this; simp at this; omega) i2 i3
    rw [hs] at hg
    obtain ⟨g1, g2, _, _⟩ := hg rfl
    dsimp only at g1 g2
    refine .snoc (ih (by omega)) (by rw [List.length_take]; omega) ?_
    rw [List.drop_take]
    exact step_take hs (by omega) (by omega)
end Go.Proofs.YtfaocpcbejgfjaaGreatDoor
namespace Go.Proofs.YtfaocpcbejgfjaaGreatDoor
open Go.RowKit Go.Sub

set_option maxRecDepth 100000 in
set_option maxHeartbeats 4000000 in
theorem dec_same (n n' b0 b1 b2 b3 c1 c2 c3 : Nat) (hg : Lib.decodeN n b0 b1 b2 b3 ≠ (65533, 1)) (hn : (Lib.decodeN n b0 b1 b2 b3).2 ≤ n')
    (e1 : 1 < (Lib.decodeN n b0 b1 b2 b3).2 → c1 = b1) (e2 : 2 < (Lib.decodeN n b0 b1 b2 b3).2 → c2 = b2) (e3 : 3 < (Lib.decodeN n b0 b1 b2 b3).2 → c3 = b3) : Lib.decodeN n' b0 c1 c2 c3 = Lib.decodeN n b0 b1 b2 b3 := by
  by_cases h128 : b0 < 128
  · unfold Lib.decodeN; rw [if_pos h128, if_pos h128]
  by_cases g2 : b0 / 32 = 6 ∧ (1 < n ∧ b1 / 64 = 2)
  · have e : Lib.decodeN n b0 b1 b2 b3 = if b0 % 32 * 64 + b1 % 64 ≥ 128 then (b0 % 32 * 64 + b1 % 64, 2) else (65533, 1) := by unfold Lib.decodeN; rw [if_neg h128, if_pos g2]
    rw [e] at hg hn e1 e2 e3 ⊢
    by_cases h : b0 % 32 * 64 + b1 % 64 ≥ 128
    · rw [if_pos h] at hn e1 ⊢
      have E1 := e1 (by show 1 < 2; omega)
      have hn2 : 2 ≤ n' := hn
      subst E1
      unfold Lib.decodeN
      rw [if_neg h128, if_pos ⟨g2.1, by omega, g2.2.2⟩, if_pos h]
    · rw [if_neg h] at hg; exact absurd rfl hg
  by_cases g3 : b0 / 16 = 14 ∧ (1 < n ∧ b1 / 64 = 2) ∧ (2 < n ∧ b2 / 64 = 2)
  · have e : Lib.decodeN n b0 b1 b2 b3 = if b0 % 16 * 4096 + b1 % 64 * 64 + b2 % 64 ≥ 2048 ∧ (b0 % 16 * 4096 + b1 % 64 * 64 + b2 % 64 < 55296 ∨ (57344 ≤ b0 % 16 * 4096 + b1 % 64 * 64 + b2 % 64 ∧ b0 % 16 * 4096 + b1 % 64 * 64 + b2 % 64 ≤ 1114111))
     then (b0 % 16 * 4096 + b1 % 64 * 64 + b2 % 64, 3) else (65533, 1) := by unfold Lib.decodeN; rw [if_neg h128, if_neg g2, if_pos g3]
    rw [e] at hg hn e1 e2 e3 ⊢
    split at hg
    · rename_i h
      rw [if_pos h] at hn e1 e2 ⊢
      have E1 := e1 (by show 1 < 3; omega)
      have E2 := e2 (by show 2 < 3; omega)
      have hn2 : 3 ≤ n' := hn
      subst E1 E2
      unfold Lib.decodeN
      rw [if_neg h128, if_neg (by omega), if_pos ⟨g3.1, ⟨by omega, g3.2.1.2⟩, by omega, g3.2.2.2⟩, if_pos h]
    · exact absurd rfl hg
  by_cases g4 : b0 / 8 = 30 ∧ (1 < n ∧ b1 / 64 = 2) ∧ (2 < n ∧ b2 / 64 = 2) ∧ (3 < n ∧ b3 / 64 = 2)
  · have e : Lib.decodeN n b0 b1 b2 b3 = if b0 % 8 * 262144 + b1 % 64 * 4096 + b2 % 64 * 64 + b3 % 64 ≥ 65536 ∧ (b0 % 8 * 262144 + b1 % 64 * 4096 + b2 % 64 * 64 + b3 % 64 < 55296 ∨ (57344 ≤ b0 % 8 * 262144 + b1 % 64 * 4096 + b2 % 64 * 64 + b3 % 64 ∧ b0 % 8 * 262144 + b1 % 64 * 4096 + b2 % 64 * 64 + b3 % 64 ≤ 1114111))
     then (b0 % 8 * 262144 + b1 % 64 * 4096 + b2 % 64 * 64 + b3 % 64, 4) else (65533, 1) := by unfold Lib.decodeN; rw [if_neg h128, if_neg g2, if_neg g3, if_pos g4]
    rw [e] at hg hn e1 e2 e3 ⊢
    split at hg
    · rename_i h
      rw [if_pos h] at hn e1 e2 e3 ⊢
      have E1 := e1 (by show 1 < 4; omega)
      have E2 := e2 (by show 2 < 4; omega)
      have E3 := e3 (by show 3 < 4; omega)
      have hn2 : 4 ≤ n' := hn
      subst E1 E2 E3
      unfold Lib.decodeN
      rw [if_neg h128, if_neg (by omega), if_neg (by omega), if_pos ⟨g4.1, ⟨by omega, g4.2.1.2⟩, ⟨by omega, g4.2.2.1.2⟩, by omega, g4.2.2.2.2⟩, if_pos h]
    · exact absurd rfl hg
  · exfalso; apply hg; unfold Lib.decodeN; rw [if_neg h128, if_neg g2, if_neg g3, if_neg g4]
set_option maxRecDepth 100000 in
set_option maxHeartbeats 4000000 in
theorem dec_width (n b0 b1 b2 b3 : Nat) (h0 : 1 ≤ n) : 1 ≤ (Lib.decodeN n b0 b1 b2 b3).2 ∧ (Lib.decodeN n b0 b1 b2 b3).2 ≤ n ∧ (1 < (Lib.decodeN n b0 b1 b2 b3).2 → 128 ≤ b0 ∧ b1 / 64 = 2) ∧ (2 < (Lib.decodeN n b0 b1 b2 b3).2 → b2 / 64 = 2) ∧ (3 < (Lib.decodeN n b0 b1 b2 b3).2 → b3 / 64 = 2) ∧ (Lib.decodeN n b0 b1 b2 b3).2 ≤ 4 := by
  unfold Lib.decodeN
  repeat' split
  all_goals (refine ⟨?_, ?_, ?_, ?_, ?_, ?_⟩ <;> dsimp only <;> omega)
set_option maxRecDepth 100000 in
set_option maxHeartbeats 4000000 in
theorem dec_rune (n b0 b1 b2 b3 : Nat) (hb : b0 < 256 ∧ b1 < 256 ∧ b2 < 256) (h : (Lib.decodeN n b0 b1 b2 b3).1 = 65533) (hg : Lib.decodeN n b0 b1 b2 b3 ≠ (65533, 1)) : b0 = 239 ∧ b1 = 191 ∧ b2 = 189 ∧ 3 ≤ n := by
  unfold Lib.decodeN at h hg
  repeat' split at h
  all_goals (first | (exfalso; simp_all; done) | skip)
  all_goals (dsimp only at h; omega)
theorem dec_fffd (n b3 : Nat) (h : 3 ≤ n) : Lib.decodeN n 239 191 189 b3 = (65533, 3) := by
  unfold Lib.decodeN
  rw [if_neg (by omega), if_neg (by omega), if_pos (by omega), if_pos (by omega)]

def badL (l : List UInt8) : Bool := (Lib.decodeL l).1 == 65533 && !Lib.hasPrefix l [239, 191, 189]
theorem badAt_drop (s : ByteArray) (pos : Nat) : badAt s pos = badL (s.data.toList.drop pos) := by
  unfold badAt badL
  rw [Lib.decodeL_drop]
theorem byte_lt (l : List UInt8) (j : Nat) : (l.getD j 0).toNat < 256 := UInt8.toNat_lt _
/-- a good rune is one that is told by its own bytes -/
theorem good_iff (l : List UInt8) : badL l = false ↔ Lib.decodeL l ≠ (65533, 1) := by
  have hN := Lib.decodeL_N l
  constructor
  · intro h e
    unfold badL at h
    rw [e] at h
    have hp : Lib.hasPrefix l [239, 191, 189] = true := by simpa using h
    have hle := Lib.hasPrefix_le hp
    unfold Lib.hasPrefix at hp
    obtain ⟨r, rfl⟩ := List.isPrefixOf_iff_prefix.1 hp
    have h2 : Lib.decodeN ([239, 191, 189] ++ r).length 239 191 189 ((([239, 191, 189] ++ r : List UInt8)).getD 3 0).toNat = (65533, 1) := by rw [← e, hN]; rfl
    rw [dec_fffd _ _ hle] at h2
    simp at h2
  · intro h
    unfold badL
    by_cases h3 : (Lib.decodeL l).1 = 65533
    · obtain ⟨a, b, c, d⟩ := dec_rune _ _ _ _ _ ⟨byte_lt l 0, byte_lt l 1, byte_lt l 2⟩ (by rw [← hN]; exact h3) (by rw [← hN]; exact h)
      have hp : Lib.hasPrefix l [239, 191, 189] = true := by
        match l, d with
        | x :: y :: z :: r, _ =>
          have ex : x = 239 := UInt8.toNat_inj.1 a
          have ey : y = 191 := UInt8.toNat_inj.1 b
          have ez : z = 189 := UInt8.toNat_inj.1 c
          subst ex ey ez
          simp [Lib.hasPrefix]
      rw [hp]; simp
    · rw [beq_eq_false_iff_ne.2 h3]; rfl
theorem getD_same {a b : List UInt8} {j : Nat} (h : b[j]? = a[j]?) : (b.getD j 0).toNat = (a.getD j 0).toNat := by
  rw [List.getD_eq_getElem?_getD, List.getD_eq_getElem?_getD, h]
theorem dec_pre {a b : List UInt8} (hg : Lib.decodeL a ≠ (65533, 1)) (h0 : a ≠ []) (hb : (Lib.decodeL a).2 ≤ b.length) (he : ∀ j, j < (Lib.decodeL a).2 → b[j]? = a[j]?) : Lib.decodeL b = Lib.decodeL a := by
  have ha : 1 ≤ a.length := by
    cases a with
    | nil => exact absurd rfl h0
    | cons _ _ => simp
  rw [Lib.decodeL_N] at hg hb he ⊢
  rw [Lib.decodeL_N a]
  have hw := dec_width a.length (a.getD 0 0).toNat (a.getD 1 0).toNat (a.getD 2 0).toNat (a.getD 3 0).toNat ha
  have e0 : (b.getD 0 0).toNat = (a.getD 0 0).toNat := getD_same (he 0 (by omega))
  rw [e0]
  exact dec_same _ _ _ _ _ _ _ _ _ hg hb (fun h => getD_same (he 1 h)) (fun h => getD_same (he 2 h)) (fun h => getD_same (he 3 h))
theorem dec_le {l : List UInt8} (h0 : l ≠ []) : 1 ≤ (Lib.decodeL l).2 ∧ (Lib.decodeL l).2 ≤ l.length := by
  have ha : 1 ≤ l.length := by
    cases l with
    | nil => exact absurd rfl h0
    | cons _ _ => simp
  have hw := dec_width l.length (l.getD 0 0).toNat (l.getD 1 0).toNat (l.getD 2 0).toNat (l.getD 3 0).toNat ha
  rw [Lib.decodeL_N]
  exact ⟨hw.1, hw.2.1⟩
/-- all bytes of a rune of more than one byte are high -/
theorem dec_high {l : List UInt8} (h0 : l ≠ []) (h1 : 1 < (Lib.decodeL l).2) : ∀ j, j < (Lib.decodeL l).2 → ∀ b, l[j]? = some b → 128 ≤ b.toNat := by
  have ha : 1 ≤ l.length := by
    cases l with
    | nil => exact absurd rfl h0
    | cons _ _ => simp
  have hw := dec_width l.length (l.getD 0 0).toNat (l.getD 1 0).toNat (l.getD 2 0).toNat (l.getD 3 0).toNat ha
  rw [Lib.decodeL_N] at h1 ⊢
  intro j hj b hb
  have eg : (l.getD j 0).toNat = b.toNat := by rw [List.getD_eq_getElem?_getD, hb]; rfl
  obtain ⟨w1, w2, w3, w4, w5, w6⟩ := hw
  have h4 : j = 0 ∨ j = 1 ∨ j = 2 ∨ j = 3 := by omega
  rcases h4 with rfl | rfl | rfl | rfl
  · have := (w3 h1).1; omega
  · have := (w3 h1).2; omega
  · have := w4 hj; omega
  · have := w5 hj; omega

inductive Utf : List UInt8 → Prop
  | nil : Utf []
  | step {l : List UInt8} : l ≠ [] → Lib.decodeL l ≠ (65533, 1) → Utf (l.drop (Lib.decodeL l).2) → Utf l
theorem utf_inv {l : List UInt8} (h : Utf l) (h0 : l ≠ []) : Lib.decodeL l ≠ (65533, 1) ∧ Utf (l.drop (Lib.decodeL l).2) := by
  cases h with
  | nil => exact absurd rfl h0
  | step _ a b => exact ⟨a, b⟩
theorem check_utf (s : ByteArray) : ∀ k pos, s.size - pos ≤ k → (checkFrom s pos = -1 ↔ Utf (s.data.toList.drop pos)) := by
  intro k
  induction k with
  | zero =>
    intro pos h
    rw [check_end (by omega), List.drop_eq_nil_of_le (by rw [← Lib.size_eq]; omega)]
    exact ⟨fun _ => .nil, fun _ => rfl⟩
  | succ k ih =>
    intro pos h
    by_cases hlt : pos < s.size
    · have hne : s.data.toList.drop pos ≠ [] := fun e => by
        have := congrArg List.length e
        rw [List.length_drop, ← Lib.size_eq] at this
        simp at this; omega
      have hd := decode_step s pos hlt
      cases hb : badAt s pos
      · rw [check_good hlt hb, ih _ (by omega), ← Lib.decodeL_drop, ← List.drop_drop]
        rw [badAt_drop] at hb
        exact ⟨fun h => .step hne ((good_iff _).1 hb) h, fun h => (utf_inv h hne).2⟩
      · rw [check_bad hlt hb]
        rw [badAt_drop] at hb
        refine ⟨fun h => by omega, fun h => ?_⟩
        rw [(good_iff _).2 (utf_inv h hne).1] at hb; simp at hb
    · rw [check_end hlt, List.drop_eq_nil_of_le (by rw [← Lib.size_eq]; omega)]
      exact ⟨fun _ => .nil, fun _ => rfl⟩
theorem check_iff (s : ByteArray) : checkFrom s 0 = -1 ↔ Utf s.data.toList := check_utf s _ 0 (Nat.le_refl _)
/-- where a text may be cut: beside a byte that is a rune of its own -/
def Edge (l : List UInt8) (p : Nat) : Prop := p = 0 ∨ l.length ≤ p ∨ (∃ b, l[p]? = some b ∧ b.toNat < 128) ∨ ∃ b, 0 < p ∧ l[p - 1]? = some b ∧ b.toNat < 128
theorem utf_cut {l : List UInt8} (h : Utf l) : ∀ p, Edge l p → Utf (l.take p) ∧ Utf (l.drop p) := by
  induction h with
  | nil => intro p _; rw [List.take_nil, List.drop_nil]; exact ⟨.nil, .nil⟩
  | @step l h0 hg hu ih =>
    intro p he
    obtain ⟨d1, d2⟩ := dec_le h0
    rcases he with rfl | he | he
    · rw [List.take_zero, List.drop_zero]; exact ⟨.nil, .step h0 hg hu⟩
    · rw [List.take_of_length_le he, List.drop_eq_nil_of_le he]; exact ⟨.step h0 hg hu, .nil⟩
    · by_cases hp0 : p = 0
      · subst hp0; rw [List.take_zero, List.drop_zero]; exact ⟨.nil, .step h0 hg hu⟩
      have hkp : (Lib.decodeL l).2 ≤ p := by
        refine Nat.le_of_not_lt fun hlt => ?_
        have hh := dec_high h0 (by omega)
        rcases he with ⟨b, hb, hb2⟩ | ⟨b, _, hb, hb2⟩
        · have := hh p hlt b hb; omega
        · have := hh (p - 1) (by omega) b hb; omega
      have hE : Edge (l.drop (Lib.decodeL l).2) (p - (Lib.decodeL l).2) := by
        by_cases hk : p = (Lib.decodeL l).2
        · exact .inl (by omega)
        · rcases he with ⟨b, hb, hb2⟩ | ⟨b, _, hb, hb2⟩
          · exact .inr (.inr (.inl ⟨b, by rw [List.getElem?_drop, show (Lib.decodeL l).2 + (p - (Lib.decodeL l).2) = p by omega]; exact hb, hb2⟩))
          · exact .inr (.inr (.inr ⟨b, by omega, by rw [List.getElem?_drop, show (Lib.decodeL l).2 + (p - (Lib.decodeL l).2 - 1) = p - 1 by omega]; exact hb, hb2⟩))
      obtain ⟨i1, i2⟩ := ih _ hE
      rw [List.drop_drop, show (Lib.decodeL l).2 + (p - (Lib.decodeL l).2) = p by omega] at i2
      refine ⟨?_, i2⟩
      by_cases hpl : p ≤ l.length
      · have e : Lib.decodeL (l.take p) = Lib.decodeL l := dec_pre hg h0 (by rw [List.length_take]; omega) fun j hj => List.getElem?_take_of_lt (Nat.lt_of_lt_of_le hj hkp)
        refine .step (fun e => ?_) (by rw [e]; exact hg) ?_
        · have := congrArg List.length e
          rw [List.length_take, List.length_nil] at this
          omega
        · rw [e, List.drop_take]; exact i1
      · rw [List.take_of_length_le (by omega)]; exact .step h0 hg hu
theorem utf_append {a b : List UInt8} (h : Utf a) (hb : Utf b) : Utf (a ++ b) := by
  induction h with
  | nil => exact hb
  | @step l h0 hg hu ih =>
    obtain ⟨d1, d2⟩ := dec_le h0
    have e : Lib.decodeL (l ++ b) = Lib.decodeL l := dec_pre hg h0 (by rw [List.length_append]; omega) fun j hj => List.getElem?_append_left (by omega)
    refine .step (by simp [h0]) (by rw [e]; exact hg) ?_
    rw [e, List.drop_append_of_le_length d2]
    exact ih
theorem utf_ascii1 {b : UInt8} (h : b.toNat < 128) : Utf [b] := by
  have e : Lib.decodeL [b] = (b.toNat, 1) := by
    rw [Lib.decodeL_N]
    unfold Lib.decodeN
    rw [if_pos (show (([b] : List UInt8).getD 0 0).toNat < 128 from h)]; rfl
  refine .step (by simp) (by rw [e]; intro h2; rw [Prod.mk.injEq] at h2; omega) ?_
  rw [e]; exact .nil
theorem utf_ascii : ∀ {l : List UInt8}, (∀ b ∈ l, b.toNat < 128) → Utf l
  | [], _ => .nil
  | b :: r, h => utf_append (a := [b]) (utf_ascii1 (h b (by simp))) (utf_ascii fun x hx => h x (List.mem_cons_of_mem _ hx))
theorem utf_e : Utf [195, 169] := by
  have e : Lib.decodeL [195, 169] = (233, 2) := by rw [Lib.decodeL_N]; decide +kernel
  exact .step (by simp) (by rw [e]; simp) (by rw [e]; exact .nil)
theorem check_of {s : ByteArray} (h : Utf s.data.toList) : checkFrom s 0 = -1 := (check_iff s).2 h
end Go.Proofs.YtfaocpcbejgfjaaGreatDoor
namespace Go.Proofs.YtfaocpcbejgfjaaGreatDoor
open Go.RowKit Go.Sub
attribute [local go_sem] Oper.semAt_some

/-- the cells of tokens in a list -/
def tokC (l : List UInt8) (ys : List Tok3) : List Value := ys.flatMap fun x => [.int .i64 (x.1 : Int), .string ⟨((l.drop x.2.1).take x.2.2).toArray⟩]
theorem tokC_snoc (l : List UInt8) (ys : List Tok3) (x : Tok3) : tokC l (ys ++ [x]) = tokC l ys ++ [.int .i64 (x.1 : Int), .string ⟨((l.drop x.2.1).take x.2.2).toArray⟩] := by unfold tokC; simp
/-- how the lexer's block lies at the end, and what has been told -/
def Told (s : ByteArray) (X : Nat) (ys : List Tok3) (W : World) : Prop :=
  ∃ (at' : Nat) (v : Value) (inn : Bool) (er : Nat), W.heap[X]? = some (.cells #[.string s, .int .i64 (at' : Int), v, .bool inn, .int .u16 (er : Int)] 49 (0, 0)) ∧ at' ≤ s.size ∧ lexN (s.size + 1) s.data.toList 0 [] false = (ys, er, at')
theorem told_of {s : ByteArray} {X : Nat} {ys : List Tok3} {W : World} (h : Done s X ys W) : Told s X ys W := by
  obtain ⟨at', v, st2, inn2, er, hl, hr⟩ := done_run h
  obtain ⟨at2, st, inn, v2, st3, inn3, er2, hreach, hl2, hd⟩ := h
  obtain ⟨f1, _, _, f4⟩ := reach_facts hreach
  rw [← Lib.size_eq] at f1
  have he : at' = at2 := by
    have a := hl.blk
    rw [hl2.blk] at a
    simp only [Option.some.injEq, Obj.cells.injEq, Array.mk.injEq, List.cons.injEq, Value.int.injEq, true_and] at a
    omega
  refine ⟨at', v, inn2, er, hl.blk, by omega, ?_⟩
  have := hr (s.size - ys.length)
  rwa [show ys.length + (s.size - ys.length + 1) = s.size + 1 by omega] at this
theorem told_keeps {s : ByteArray} {X : Nat} {ys : List Tok3} {A B : World} {O : Nat → Prop} (h : Told s X ys A) (hk : Keeps O A B) (hX : ¬ O X) : Told s X ys B := by
  obtain ⟨at', v, inn, er, h1, h2, h3⟩ := h
  exact ⟨at', v, inn, er, hk.heap h1 hX, h2, h3⟩
theorem seqO_mono {α : Type} {F : Fence} {n : Nat} {P : Program} {g : Nat} {lb : Array Value} {encs : α → Array Value} {M R : Nat → Prop} {S S' Sp : List α → World → Prop} {N : Nat} {w : World} (h : SeqO F n P g lb encs M R S Sp N w) (hS : ∀ xs W, S xs W → S' xs W) : SeqO F n P g lb encs M R S' Sp N w :=
  fun l J Jx W O a b c d e => (h l J Jx W O a b c d e).mono fun en W' ⟨h1, h2⟩ => ⟨h1, h2.imp (fun ⟨xs, O', s, j⟩ => ⟨xs, O', hS _ _ s, j⟩) id⟩

theorem tok_info : (Tryz.prog.info? 32).map (fun i => (i.zero, i.size, i.bytes)) = some (some (.agg #[.int .i64 0, .string ByteArray.empty]), 2, 24) := by kernel_rfl
theorem toks_und : Tryz.prog.underlying 22 = some (.slice 32) := by kernel_rfl
def AppI (l : List UInt8) (X : Nat) (w : World) (pre : List Tok3) (O : Nat → Prop) (W : World) : Prop :=
  ∃ v, (∀ b, O b ↔ (b = w.heap.size ∨ some b = v.ownBlock)) ∧ Boxed W w.heap.size 22 v ∧ W.ownsRow w.heap.size 32 2 v pre.length (tokC l pre) ∧ Keeps (fun b => b = X) w W
def NoIx {α : Type} (_ : Code) (_ : List α) (_ : Nat → Prop) (_ : World) : Prop := False

set_option maxRecDepth 100000 in
set_option maxHeartbeats 2000000 in
theorem appendSeq_in (n : Nat) (hn : 5 ≤ n) (X B1 : Nat) (s : ByteArray) (hs : s.size ≤ 65536) (hd1 : B1 ≠ X) (w : World) (hst : LexSt w X s 0 (.slice none 0 0) [] false 0) (hb1 : Boxed w B1 45 (.pointer (some ⟨X, 0, none⟩))) :
    CallsIn Fence.wide n Tryz.prog 31 #[.slice none 0 0, .func (.func 32) #[] #[.pointer (some ⟨B1, 0, none⟩)]] w fun e W' => ∃ v ys, e = .returned v ∧ Told s X ys W' ∧ W'.ownsRow w.heap.size 32 2 v ys.length (tokC s.data.toList ys) ∧ Keeps (fun b => b = X) w W' := by
  have h1 : 1 ≤ n := by omega
  obtain ⟨i0, hi, hz0, hz1, hz2⟩ := info_parts tok_info
  refine callsIn_of_wp_marks Tryz.func31 rfl trivial ?_ rfl
  simp only [Tryz.ntmps31, List.size_toArray, List.length_cons, List.length_nil, Nat.reduceAdd, Nat.reduceSub, Array.replicate_succ, Array.replicate_zero, List.push_toArray, List.append_toArray, List.nil_append, List.cons_append]
  gi_wp2
  have bO := Boxed.new w 22 (.slice none 0 0)
  obtain ⟨W0, hW0⟩ : ∃ W0, w.alloc (.cells #[.slice none 0 0] 22) = W0 := ⟨_, rfl⟩
  have hsz : W0.heap.size = w.heap.size + 1 := by rw [← hW0]; simp
  have hB0 : Below w.heap.size w W0 := by rw [← hW0]; exact (Below.refl _ w).alloc (Nat.le_refl _) _
  have hXl : X < w.heap.size := heap_lt hst.blk
  have hBl : B1 < w.heap.size := hb1.lt
  have hst0 : LexSt W0 X s 0 (.slice none 0 0) [] false 0 := hst.below hB0
  have hb10 : Boxed W0 B1 45 (.pointer (some ⟨X, 0, none⟩)) := boxed_keeps hb1 (Keeps.of_below' (O := fun _ => False) hB0) (fun h => h)
  rw [hW0] at bO ⊢
  clear hW0
  refine wpIn_rangeFunc_O rfl h1 (gf := 32) (lb := #[.pointer (some ⟨B1, 0, none⟩)]) rfl trivial (enters_of Tryz.func32 (by kernel_rfl) rfl)
    (seqO_mono (lex_stops (n - 1) (by omega) X B1 s hs hd1 W0 hst0 hb10) (fun xs W h => told_of h)) (Below.refl _ _) (fun _ => rfl) (fun b h => by omega) (fun b h => by omega)
    (fun _ _ _ h hk => told_keeps h hk (by omega)) (fun _ _ _ h _ => h)
    (AppI s.data.toList X w) NoIx (fun b => b = w.heap.size) (fun b h => ⟨by omega, by omega, by omega⟩)
    ?hI (fun _ _ _ _ _ h _ => h.elim) ⟨_, fun b => by simp [Value.ownBlock], bO, World.ownsRow_nil _ _ _ _, Keeps.of_below' hB0⟩ ?hround ?hdone (fun _ _ _ _ _ _ _ h _ _ => h.elim)
  case hI =>
    rintro pre O A B ⟨v, hO, hv, hrow, hB⟩ hk
    exact ⟨v, hO, boxed_keeps hv hk (fun h => h.1 ((hO _).2 (.inl rfl))), ownsRow_keeps hrow hk (fun g hg h => h.1 ((hO _).2 (.inr hg))), hB.trans' hk fun b hb h => h.2.elim id fun h => by omega⟩
  case hround =>
    rintro l pre x W O - hlt hOl hs
    unfold tokV
    obtain ⟨kd, hkd⟩ : ∃ kd, Value.int .i64 (x.1 : Int) = kd := ⟨_, rfl⟩
    obtain ⟨tx, htx⟩ : ∃ tx, Value.string ⟨((s.data.toList.drop x.2.1).take x.2.2).toArray⟩ = tx := ⟨_, rfl⟩
    have hsnoc := tokC_snoc s.data.toList pre x
    have o1 : kd.oneCell' = true := by rw [← hkd]; rfl
    have o2 : tx.oneCell' = true := by rw [← htx]; rfl
    rw [hkd, htx] at hsnoc
    have Hkd := Lib.hid hkd
    have Htx := Lib.hid htx
    clear hkd htx
    gi_wp2
    rw [Hkd.out, Htx.out]
    refine ⟨Keeps.alloc _ _ _, fun Wb hkb hsb ⟨v, hO, hv, hrow, hB⟩ hl => ?_⟩
    have hblk : Wb.heap[W.heap.size]? = some (.cells #[kd, tx] 32 (0, 0)) := hkb.heap (World.alloc_heap_new _ _) (by omega)
    have q0 : Wb.cell? ⟨W.heap.size, 0, none⟩ = some kd := cell_of_block hblk rfl
    have q1 : Wb.cell? ⟨W.heap.size, 1, none⟩ = some tx := cell_of_block hblk rfl
    have hc := hv.cell
    have hszb : Wb.heap.size = W.heap.size + 1 := by rw [hsb]; simp
    have Hszb := Lib.hid hszb
    have Hsnoc := Lib.hid hsnoc
    have hnew : ∀ (j : Nat) u, [kd, tx][j]? = some u → (Wb.alloc (.cells #[kd, tx] 32)).cell? ((⟨Wb.heap.size, 0, none⟩ : Addr).add j) = some u := by
      intro j u hu
      have hb := World.alloc_heap_new Wb (.cells #[kd, tx] 32)
      match j, hu with
      | 0, hu => rw [show (⟨Wb.heap.size, 0, none⟩ : Addr).add 0 = ⟨Wb.heap.size, 0, none⟩ by unfold Addr.add; split <;> simp_all]; rw [← hu]; exact cell_of_block hb rfl
      | 1, hu => rw [show (⟨Wb.heap.size, 0, none⟩ : Addr).add 1 = ⟨Wb.heap.size, 1, none⟩ by unfold Addr.add; split <;> simp_all]; rw [← hu]; exact cell_of_block hb rfl
      | j + 2, hu => simp at hu
    clear hsb hszb hsnoc hblk Hkd Htx
    gi_wp2_with (gi_at_builtin; refine wpListIn_append_O _ rfl _ _ 22 rfl w.heap.size 32 i0 (.agg #[.int .i64 0, .string ByteArray.empty]) 2 24 toks_und hi hz0 hz1 hz2 rfl (by decide) _ _ _ rfl (hrow.alloc _) ⟨Wb.heap.size, 0, none⟩ 1 1 [kd, tx] rfl rfl hnew (by intro u hu; simp at hu; rcases hu with rfl | rfl <;> assumption) (by simp only [maxLen]; omega) (by omega) (by have := hB.size; simp; omega) ?_; intro v' w1 hown' hkeep hblk' _; obtain ⟨g', cap', rfl⟩ := own_succ hown'; obtain ⟨hv1, hv2, hr2, hk2, hb2⟩ := appended hv (by decide) hrow hown' hkeep (by rw [World.size_alloc] at hblk'; exact hblk'); have hc1 := hv1.cell; have hf1 := hv1.frozen)
    refine ⟨fun b => b = w.heap.size ∨ some b = (Value.slice (some ⟨g', 0, none⟩) (pre.length + 1) cap').ownBlock, hk2.mono (fun b _ h => .inl ((hO b).2 h)), fun b hb => ?_, _, fun b => Iff.rfl, hv2, by rw [Hsnoc.out, List.length_append]; exact hr2, hB.trans' hk2 fun b hb h => ?_⟩
    · rcases hb with rfl | hb
      · exact ⟨.inl ((hO _).2 (.inl rfl)), Nat.lt_of_lt_of_le hv.lt hk2.size⟩
      · exact ⟨(hb2 b hb).1.imp (fun h => (hO b).2 (.inr h)) (fun h => by have := Hszb.out; omega), (hb2 b hb).2⟩
    · rcases h with rfl | h
      · omega
      · have := (hrow.lt b h.symm).1; omega
  case hdone =>
    rintro D ys W O hD hS ⟨v, hO, hv, hrow, hB⟩ hOD hK
    have hc := hv.cell
    have hkD : Keeps (fun b => b = D) W (W.putObj D (.deferred none)) := Keeps.putObj _ _ _ rfl
    gi_wp2
    refine ⟨by simp, .inl ⟨_, _, rfl, run_takeDeferred hK, ?_⟩⟩
    exact ⟨_, results_tmp rfl _ _ _, v, ys, rfl, told_keeps hS hkD (by omega), ownsRow_keeps hrow hkD (fun g hg e => hOD ((hO D).2 (.inr (by rw [← e]; exact hg)))), hB.trans' hkD fun b hb e => by omega⟩
end Go.Proofs.YtfaocpcbejgfjaaGreatDoor
namespace Go.Proofs.YtfaocpcbejgfjaaGreatDoor
open Go.RowKit Go.Sub

/-- the tokens, the error, and where -/
def tokensN (s : ByteArray) : List Tok3 × Nat × Int :=
  if 65536 < s.size then ([], 3, 0) else if 0 ≤ checkFrom s 0 then ([], 10, checkFrom s 0)
  else if (lexN (s.size + 1) s.data.toList 0 [] false).2.1 = 0 then ((lexN (s.size + 1) s.data.toList 0 [] false).1, 0, 0)
  else ([], (lexN (s.size + 1) s.data.toList 0 [] false).2.1, ((lexN (s.size + 1) s.data.toList 0 [] false).2.2 : Int))
theorem ownsRow_base {A : World} {base base' : Nat} {e : TypeId} {size : Nat} {v : Value} {k : Nat} {xs : List Value} (h : A.ownsRow base e size v k xs) (hb : base' ≤ base) : A.ownsRow base' e size v k xs := by
  refine ⟨h.1, ?_⟩
  rcases h.2 with h0 | ⟨g, cap, cur, h1, h2, h3⟩
  · exact .inl h0
  · exact .inr ⟨g, cap, cur, h1, Nat.le_trans hb h2, h3⟩
/-- the call has told this -/
def TokPost (s : ByteArray) (w : World) (r : List Tok3 × Nat × Int) (e : Ending) (w' : World) : Prop :=
  ∃ v, e = .returned (.tuple #[v, .int .u16 (r.2.1 : Int), .int .i64 r.2.2]) ∧ w'.ownsRow w.heap.size 32 2 v r.1.length (tokC s.data.toList r.1) ∧ Below w.heap.size w w'
theorem all_calls (X : Nat) (w : World) :
    Calls Tryz.prog 22 #[.pointer (some ⟨X, 0, none⟩)] w fun e w' => e = .returned (.func (.func 32) #[] #[.pointer (some ⟨w.heap.size, 0, none⟩)]) ∧ w' = w.alloc (.cells #[.pointer (some ⟨X, 0, none⟩)] 45) := by
  go_enter Tryz.func22, Tryz.ntmps22
  go_wp2
  go_ret
  exact ⟨rfl, rfl⟩
theorem collect_calls (X B1 : Nat) (s : ByteArray) (hs : s.size ≤ 65536) (hd1 : B1 ≠ X) (w : World) (hst : LexSt w X s 0 (.slice none 0 0) [] false 0) (hb1 : Boxed w B1 45 (.pointer (some ⟨X, 0, none⟩))) :
    Calls Tryz.prog 21 #[.func (.func 32) #[] #[.pointer (some ⟨B1, 0, none⟩)]] w fun e W' => ∃ v ys, e = .returned v ∧ Told s X ys W' ∧ W'.ownsRow w.heap.size 32 2 v ys.length (tokC s.data.toList ys) ∧ Keeps (fun b => b = X) w W' := by
  have h := callsIn_wide.1 (appendSeq_in 5 (Nat.le_refl _) X B1 s hs hd1 w hst hb1)
  have H := Lib.hid h
  clear h
  go_enter Tryz.func21, Tryz.ntmps21
  go_wp2_with (go_at_call 31; refine (H.out).mono ?_; rintro e w' ⟨v, ys, rfl, h1, h2, h3⟩)
  go_ret
  exact ⟨v, ys, rfl, h1, h2, h3⟩
set_option maxRecDepth 100000 in
set_option maxHeartbeats 2000000 in
theorem tokens_calls (s : ByteArray) (w : World) (hs : s.size < 4611686018427387904) :
    Calls Tryz.prog 11 #[.string s] w (TokPost s w (tokensN s)) := by
  by_cases h1 : 65536 < s.size
  · have hr : tokensN s = ([], 3, 0) := by unfold tokensN; rw [if_pos h1]
    rw [hr]
    go_enter Tryz.func11, Tryz.ntmps11
    go_wp2
    exact bodyPost_ret (v := .tuple #[.slice none 0 0, .int .u16 3, .int .i64 0]) (by simp [results, Tryz.results11, go_sem]) rfl ⟨_, rfl, World.ownsRow_nil _ _ _ _, Below.refl _ _⟩
  · have hck := check_calls s w hs
    by_cases h2 : 0 ≤ checkFrom s 0
    · have hr : tokensN s = ([], 10, checkFrom s 0) := by unfold tokensN; rw [if_neg h1, if_pos h2]
      rw [hr]
      have Hck := Lib.hid hck
      generalize checkFrom s 0 = k at *
      clear hck hr
      go_enter Tryz.func11, Tryz.ntmps11
      go_wp2_with (go_at_call 20; refine (Hck.out).mono ?_; rintro e w' ⟨rfl, hb⟩)
      exact bodyPost_ret (v := .tuple #[.slice none 0 0, .int .u16 10, .int .i64 k]) (by simp [results, Tryz.results11, go_sem]) rfl ⟨_, rfl, World.ownsRow_nil _ _ _ _, hb⟩
    · have hr : tokensN s = if (lexN (s.size + 1) s.data.toList 0 [] false).2.1 = 0 then ((lexN (s.size + 1) s.data.toList 0 [] false).1, 0, 0)
          else ([], (lexN (s.size + 1) s.data.toList 0 [] false).2.1, ((lexN (s.size + 1) s.data.toList 0 [] false).2.2 : Int)) := by unfold tokensN; rw [if_neg h1, if_neg h2]
      have Hr := Lib.hid hr
      have Hck := Lib.hid hck
      have hs2 : s.size ≤ 65536 := by omega
      generalize checkFrom s 0 = k at *
      have hcol := fun (w1 : World) => collect_calls w1.heap.size (w1.heap.size + 1) s hs2 (by omega) ((w1.alloc (.cells #[.string s, .int .i64 0, .slice none 0 0, .bool false, .int .u16 0] 49)).alloc (.cells #[.pointer (some ⟨w1.heap.size, 0, none⟩)] 45))
        ⟨(Below.heap_alloc _ _ _ (by simp)).trans (World.alloc_heap_new w1 _), World.ownsRow_nil _ _ _ _⟩ (by have := Boxed.new (w1.alloc (.cells #[.string s, .int .i64 0, .slice none 0 0, .bool false, .int .u16 0] 49)) 45 (.pointer (some ⟨w1.heap.size, 0, none⟩)); simpa using this)
      have Hcol := Lib.hid hcol
      clear hck hr hcol hs2
      go_enter Tryz.func11, Tryz.ntmps11
      go_wp2_with (first
        | (go_at_call 20; refine (Hck.out).mono ?_; rintro e w1 ⟨rfl, hb⟩; have Hb := Lib.hid hb; clear hb)
        | (go_at_call 22; refine (all_calls _ _).mono ?_; rintro e w2 ⟨rfl, rfl⟩))
      go_at_call 21
      refine (Hcol.out _).mono ?_
      rintro e W3 ⟨v, ys, rfl, ⟨at', v2, inn, er, hblk, hat, hrun⟩, hrow, hk⟩
      have x1 : W3.cell? ⟨w1.heap.size, 1, none⟩ = some (.int .i64 (at' : Int)) := cell_of_block hblk rfl
      have x4 : W3.cell? ⟨w1.heap.size, 4, none⟩ = some (.int .u16 (er : Int)) := cell_of_block hblk rfl
      have hB3 : Below w.heap.size w W3 := by
        have hA : Below w1.heap.size w1 ((w1.alloc (.cells #[.string s, .int .i64 0, .slice none 0 0, .bool false, .int .u16 0] 49)).alloc (.cells #[.pointer (some ⟨w1.heap.size, 0, none⟩)] 45)) := ((Below.refl _ _).alloc (Nat.le_refl _) _).alloc (by simp) _
        exact Hb.out.trans ((hA.trans (hk.below (by simp; omega) fun b h => by omega)).mono Hb.out.size)
      have hrow3 : W3.ownsRow w.heap.size 32 2 v ys.length (tokC s.data.toList ys) := ownsRow_base hrow (by have := Hb.out.size; simp; omega)
      have HB3 := Lib.hid hB3
      have Hrow := Lib.hid hrow3
      have Hrun := Lib.hid hrun
      clear hB3 hrow3 hrow hk hrun hblk
      by_cases he : er = 0
      · subst he
        go_wp2
        rw [Hr.out, Hrun.out, if_pos rfl]
        exact bodyPost_ret (v := .tuple #[v, .int .u16 0, .int .i64 0]) (by simp [results, Tryz.results11, go_sem]) rfl ⟨_, rfl, Hrow.out, HB3.out⟩
      · have y1 : ((er : Int) != 0) = true := by rw [bne_iff_ne]; omega
        go_wp2
        go_quiet (fail)
        go_wp2
        rw [Hr.out, Hrun.out, if_neg he]
        exact bodyPost_ret (v := .tuple #[.slice none 0 0, .int .u16 (er : Int), .int .i64 (at' : Int)]) (by simp [results, Tryz.results11, go_sem]) rfl ⟨_, rfl, World.ownsRow_nil _ _ _ _, by first | exact HB3.out | exact below_drewN HB3.out _⟩
end Go.Proofs.YtfaocpcbejgfjaaGreatDoor
namespace Go.Proofs.YtfaocpcbejgfjaaGreatDoor
open Go.RowKit Go.Sub

def moreF : Nat → List UInt8 → Nat
  | 0, _ => 0
  | k + 1, l => if Lib.hasPrefix l [58, 58] = true then (if simpleN (l.drop 2) = 0 then 0 else 2 + simpleN (l.drop 2) + moreF k (l.drop (2 + simpleN (l.drop 2)))) else 0
theorem moreF_eq : ∀ k (l : List UInt8), l.length ≤ k → moreF k l = moreN l := by
  intro k
  induction k with
  | zero =>
    intro l h
    obtain rfl := List.length_eq_zero_iff.1 (show l.length = 0 by omega)
    rw [moreN_miss _ rfl]; rfl
  | succ k ih =>
    intro l hl
    rw [moreF]
    cases hp : Lib.hasPrefix l [58, 58]
    · rw [if_neg (by simp), moreN_miss l hp]
    · rw [if_pos rfl]
      by_cases h0 : simpleN (l.drop 2) = 0
      · rw [if_pos h0, moreN_none l hp h0]
      · have h2 := Lib.hasPrefix_le hp
        simp only [List.length_cons, List.length_nil] at h2
        rw [if_neg h0, moreN_hit l _ hp rfl h0, ih _ (by rw [List.length_drop]; omega)]
def wordF (l : List UInt8) : Nat := if simpleN l = 0 then 0 else simpleN l + moreF l.length (l.drop (simpleN l))
theorem wordF_eq (l : List UInt8) : wordF l = wordN l := by
  unfold wordF wordN
  rw [moreF_eq _ _ (by rw [List.length_drop]; omega)]
theorem wordF_fun : wordF = wordN := funext wordF_eq
def linesF : Nat → List UInt8 → Nat
  | 0, l => l.length
  | k + 1, l => if Lib.indexByte l 10 < 0 then l.length
    else if (!oddB (l.take (Lib.indexByte l 10).toNat) && !oddB (Lib.trimSuffix (l.take (Lib.indexByte l 10).toNat) [13])) = true then (Lib.indexByte l 10).toNat
    else (Lib.indexByte l 10).toNat + 1 + linesF k (l.drop ((Lib.indexByte l 10).toNat + 1))
theorem linesF_eq : ∀ k (l : List UInt8), l.length ≤ k → linesF k l = linesN l := by
  intro k
  induction k with
  | zero =>
    intro l h
    obtain rfl := List.length_eq_zero_iff.1 (show l.length = 0 by omega)
    rw [linesN_none _ (by decide)]; rfl
  | succ k ih =>
    intro l hl
    rw [linesF]
    rcases nl_cases l with h0 | ⟨j, hj, hjl⟩
    · rw [if_pos h0, linesN_none l h0]
    · have e : (Lib.indexByte l 10).toNat = j := by omega
      rw [if_neg (by omega), e]
      cases h2 : (!oddB (l.take j) && !oddB (Lib.trimSuffix (l.take j) [13]))
      · rw [if_neg (by simp), linesN_more l j hj h2, ih _ (by rw [List.length_drop]; omega)]
      · rw [if_pos rfl, linesN_end l j hj h2]
def noteF (l : List UInt8) : Nat := match l with
  | [] => 0
  | b :: r => if b == 35 then linesF (b :: r).length (b :: r) else 0
theorem noteF_eq (l : List UInt8) : noteF l = noteN l := by
  match l with
  | [] => rfl
  | b :: r =>
    show (if b == 35 then linesF (b :: r).length (b :: r) else 0) = if b == 35 then linesN (b :: r) else 0
    rw [linesF_eq _ _ (Nat.le_refl _)]
def pieceF : Nat → List UInt8 → Nat
  | 0, _ => 0
  | k + 1, l => match l with
    | [] => 0
    | b :: r => if isQS b = false then 1 + pieceF k r else if escN (b :: r) = 0 then 0 else escN (b :: r) + pieceF k ((b :: r).drop (escN (b :: r)))
theorem pieceF_eq : ∀ k (l : List UInt8), l.length ≤ k → pieceF k l = pieceN l := by
  intro k
  induction k with
  | zero =>
    intro l h
    obtain rfl := List.length_eq_zero_iff.1 (show l.length = 0 by omega)
    rw [piece_nil]; rfl
  | succ k ih =>
    intro l hl
    match l, hl with
    | [], _ => rw [piece_nil]; rfl
    | b :: r, hl =>
      rw [pieceF]
      simp only [List.length_cons] at hl
      cases hq : isQS b
      · rw [if_pos rfl, piece_plain b r hq, ih r (by omega)]
      · rw [if_neg (by simp)]
        by_cases he : escN (b :: r) = 0
        · rw [if_pos he, piece_stop b r hq he]
        · rw [if_neg he, piece_esc _ he, ih _ (by rw [List.length_drop, List.length_cons]; omega)]
/-- the nine kinds, and how many bytes of each stand at the front -/
def kindsL (l : List UInt8) : List (Nat × Nat) := [(1, runOf isBlank l), (2, noteF l), (3, wordF l), (4, behindN 46 simpleN l), (5, behindN 36 wordF l), (12, behindN 64 (runOf isPart) l), (6, numberN l), (7, quoteN l), (13, operN l)]
def outM (ks : List (Nat × Nat)) (l : List UInt8) (st : List Nat) : Step5 := match ks.find? (fun x => decide (0 < x.2)) with
  | none => (0, 0, st, false, 11)
  | some x => ((brkN st x.1 (l.take x.2)).2.1, x.2, (brkN st x.1 (l.take x.2)).1, (brkN st x.1 (l.take x.2)).2.2 || (x.1 == 7), 0)
theorem kinds_eq (l : List UInt8) : triesL.map (fun x => (x.1, x.2.2 l)) = kindsL l := by
  unfold kindsL
  rw [wordF_fun, noteF_eq]; rfl
theorem outM_eq (l : List UInt8) (st : List Nat) : outN l st = outM (kindsL l) l st := by
  rw [← kinds_eq]
  unfold outN outM
  rw [List.find?_map]
  rw [show ((fun x : Nat × Nat => decide (0 < x.2)) ∘ fun x : Nat × Nat × (List UInt8 → Nat) => (x.1, x.2.2 l)) = fun x => decide (0 < x.2.2 l) from rfl]
  cases triesL.find? (fun x => decide (0 < x.2.2 l)) <;> rfl
def insF (l : List UInt8) (st : List Nat) : Step5 :=
  if 0 < pieceF l.length l then (8, pieceF l.length l, st, true, 0)
  else if l[0]? = some 34 then (11, 1, st, false, 0)
  else if Lib.hasPrefix l [92, 40] = false then (0, 0, st, true, 12)
  else if 256 ≤ st.length then (0, 0, st, true, 21)
  else (9, 2, 0 :: st, false, 0)
theorem insF_eq (l : List UInt8) (st : List Nat) : insF l st = insN l st := by
  unfold insF insN
  rw [pieceF_eq _ _ (Nat.le_refl _)]
def stepF (l : List UInt8) (st : List Nat) (inn : Bool) : Step5 := if inn then insF l st else outM (kindsL l) l st
theorem stepF_eq (l : List UInt8) (st : List Nat) (inn : Bool) : stepF l st inn = stepN l st inn := by
  unfold stepF stepN
  rw [insF_eq, outM_eq]
def lexF : Nat → List UInt8 → Nat → List Nat → Bool → List (Nat × Nat × Nat) × Nat × Nat
  | 0, _, at', _, _ => ([], 99, at')
  | fuel + 1, l, at', st, inn =>
    if l.length ≤ at' then ([], (if inn || !st.isEmpty then 13 else 0), at')
    else match stepF (l.drop at') st inn with
      | (k, n, st2, inn2, 0) => ((k, at', n) :: (lexF fuel l (at' + n) st2 inn2).1, (lexF fuel l (at' + n) st2 inn2).2)
      | (_, _, _, _, e + 1) => ([], e + 1, at')
theorem lexF_eq : ∀ k (l : List UInt8) at' st inn, lexF k l at' st inn = lexN k l at' st inn
  | 0, _, _, _, _ => rfl
  | k + 1, l, at', st, inn => by
    rw [lexF, lexN, stepF_eq]
    split
    · rfl
    · generalize stepN (l.drop at') st inn = r
      obtain ⟨kd, n, st2, inn2, er⟩ := r
      cases er with
      | zero =>
        show ((kd, at', n) :: (lexF k l (at' + n) st2 inn2).1, (lexF k l (at' + n) st2 inn2).2) = _
        rw [lexF_eq k]
      | succ e => rfl

theorem tokens_at {s : ByteArray} {ys : List Tok3} {er at' : Nat} (h1 : s.size ≤ 65536) (hu : Utf s.data.toList) (h : lexN (s.size + 1) s.data.toList 0 [] false = (ys, er, at')) : tokensN s = if er = 0 then (ys, 0, 0) else ([], er, (at' : Int)) := by
  unfold tokensN
  rw [if_neg (by omega), if_neg (by rw [check_of hu]; omega), h]
/-- the cells of a list of tokens -/
theorem row_cells {w : World} {base g n cap : Nat} {e : TypeId} {size : Nat} {xs : List Value} (h : w.ownsRow base e size (.slice (some ⟨g, 0, none⟩) n cap) n xs) (j : Nat) {u : Value} (hx : xs[j]? = some u) : w.cell? ⟨g, j, none⟩ = some u := by
  have h2 := h.cells (g := g) rfl j u hx
  rwa [show (⟨g, 0, none⟩ : Addr).add j = ⟨g, j, none⟩ by unfold Addr.add; split <;> simp_all] at h2
def ex1 : List UInt8 := [46, 97, 124, 34, 120, 92, 40, 49, 41, 34]
theorem ex1_run : lexN 11 ex1 0 [] false = ([(4, 0, 2), (13, 2, 1), (7, 3, 1), (8, 4, 1), (9, 5, 2), (6, 7, 1), (10, 8, 1), (11, 9, 1)], 0, 10) := by
  rw [← lexF_eq]; decide +kernel
theorem ex2_run : lexN 4 [49, 32, 126] 0 [] false = ([(6, 0, 1), (1, 1, 1)], 11, 2) := by
  rw [← lexF_eq]; decide +kernel
theorem ex1_told : tokensN ⟨ex1.toArray⟩ = ([(4, 0, 2), (13, 2, 1), (7, 3, 1), (8, 4, 1), (9, 5, 2), (6, 7, 1), (10, 8, 1), (11, 9, 1)], 0, 0) :=
  tokens_at (s := ⟨ex1.toArray⟩) (by decide) (utf_ascii (by decide)) ex1_run
theorem ex2_told : tokensN ⟨#[49, 32, 126]⟩ = ([], 11, 2) :=
  tokens_at (s := ⟨#[49, 32, 126]⟩) (by decide) (utf_ascii (by decide)) ex2_run
end Go.Proofs.YtfaocpcbejgfjaaGreatDoor
namespace Go.Proofs.YtfaocpcbejgfjaaGreatDoor
open Go.RowKit Go.Sub

theorem tokens_some {s : ByteArray} {ys : List Tok3} {n : Nat} (h : tokensN s = (ys, 0, 0)) (hn : ys.length = n + 1) (hs : s.size < 4611686018427387904) (w : World) :
    Calls Tryz.prog 11 #[.string s] w fun e w' => ∃ g cap, e = .returned (.tuple #[.slice (some ⟨g, 0, none⟩) (n + 1) cap, .int .u16 0, .int .i64 0]) ∧ (∀ j u, (tokC s.data.toList ys)[j]? = some u → w'.cell? ⟨g, j, none⟩ = some u) ∧ w'.ownsRow w.heap.size 32 2 (.slice (some ⟨g, 0, none⟩) (n + 1) cap) (n + 1) (tokC s.data.toList ys) ∧ Below w.heap.size w w' := by
  have hc := tokens_calls s w hs
  rw [h] at hc
  refine hc.mono ?_
  rintro e w' ⟨v, rfl, hrow, hb⟩
  dsimp only at hrow
  rw [hn] at hrow
  obtain ⟨g, cap, rfl⟩ := own_succ hrow
  exact ⟨g, cap, rfl, fun j u hx => row_cells hrow j hx, hrow, hb⟩
theorem tokens_none {s : ByteArray} {er : Nat} {at' : Int} (h : tokensN s = ([], er, at')) (hs : s.size < 4611686018427387904) (w : World) :
    Calls Tryz.prog 11 #[.string s] w fun e w' => ∃ p cap, e = .returned (.tuple #[.slice p 0 cap, .int .u16 (er : Int), .int .i64 at']) ∧ Below w.heap.size w w' := by
  have hc := tokens_calls s w hs
  rw [h] at hc
  refine hc.mono ?_
  rintro e w' ⟨v, rfl, ⟨_, hrow⟩, hb⟩
  rcases hrow with ⟨rfl, _⟩ | ⟨g, cap, cur, rfl, _⟩
  · exact ⟨none, 0, rfl, hb⟩
  · exact ⟨_, cap, rfl, hb⟩
theorem below_cell {a b : World} (h : Below a.heap.size a b) {p : Nat} {o : Nat} {v : Value} (hc : a.cell? ⟨p, o, none⟩ = some v) : b.cell? ⟨p, o, none⟩ = some v := (h.cell (World.block_lt_of_cell? _ _ hc)).trans hc
set_option maxRecDepth 100000 in
set_option maxHeartbeats 4000000 in
theorem known_calls (w : World) :
    Calls Tryz.prog 5 #[] w fun e w' => e = .returned (.bool true) ∧ Below w.heap.size w w' := by
  have c1 : ∀ w, Calls Tryz.prog 11 #[.string ⟨#[46, 97, 124, 34, 120, 92, 40, 49, 41, 34]⟩] w fun e w' => ∃ g cap, e = .returned (.tuple #[.slice (some ⟨g, 0, none⟩) 8 cap, .int .u16 0, .int .i64 0]) ∧ (w'.cell? ⟨g, 0, none⟩ = some (.int .i64 4) ∧ w'.cell? ⟨g, 4, none⟩ = some (.int .i64 7) ∧ w'.cell? ⟨g, 7, none⟩ = some (.string ⟨#[120]⟩) ∧ w'.cell? ⟨g, 12, none⟩ = some (.int .i64 10) ∧ w'.cell? ⟨g, 14, none⟩ = some (.int .i64 11)) ∧ Below w.heap.size w w' := fun w =>
    (tokens_some ex1_told (n := 7) rfl (by decide) w).mono fun e w' ⟨g, cap, he, hc, _, hb⟩ => ⟨g, cap, he, ⟨hc 0 _ rfl, hc 4 _ rfl, hc 7 _ rfl, hc 12 _ rfl, hc 14 _ rfl⟩, hb⟩
  have c2 : ∀ w, Calls Tryz.prog 11 #[.string ⟨#[49, 32, 126]⟩] w fun e w' => ∃ p cap, e = .returned (.tuple #[.slice p 0 cap, .int .u16 11, .int .i64 2]) ∧ Below w.heap.size w w' := fun w => tokens_none ex2_told (by decide) w
  have C1 := Lib.hid c1
  have C2 := Lib.hid c2
  clear c1 c2
  go_enter Tryz.func5, Tryz.ntmps5
  go_wp2_with (first
    | (go_at_call 11; with_reducible refine (C1.out _).mono ?_; rintro e w1 ⟨g, cap, rfl, ⟨k0, k4, k7, k12, k14⟩, hb⟩; have Hb := Lib.hid hb; clear hb)
    | (go_at_call 11; with_reducible refine (C2.out _).mono ?_; rintro e w2 ⟨p2, cap2, rfl, hb2⟩; replace k0 := below_cell hb2 k0; replace k4 := below_cell hb2 k4; replace k7 := below_cell hb2 k7; replace k12 := below_cell hb2 k12; replace k14 := below_cell hb2 k14; have Hb2 := Lib.hid (Hb.out.trans (hb2.mono Hb.out.size)); clear hb2))
  go_ret
  exact ⟨rfl, Hb2.out⟩
end Go.Proofs.YtfaocpcbejgfjaaGreatDoor
