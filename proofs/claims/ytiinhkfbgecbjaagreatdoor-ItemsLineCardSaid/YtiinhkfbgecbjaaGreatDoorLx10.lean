/- One step of the lexer inside of a string. Its condition: how the lexer lies in memory; a text of at most 65536 bytes. -/
import Derived.Test.YtiinhkfbgecbjaaGreatDoorLx9
namespace Go.Proofs.YtiinhkfbgecbjaaGreatDoor
set_option linter.unusedSimpArgs false
set_option linter.unusedVariables false
open Go.RowKit Go.Sub

/-- a step: the token's kind, its bytes, the stack, whether a string goes on, the error -/
abbrev Step5 := Nat × Nat × List Nat × Bool × Nat
def insN (l : List UInt8) (st : List Nat) : Step5 :=
  if 0 < pieceN l then (8, pieceN l, st, true, 0)
  else if l[0]? = some 34 then (11, 1, st, false, 0)
  else if Lib.hasPrefix l [92, 40] = false then (0, 0, st, true, 12)
  else if 256 ≤ st.length then (0, 0, st, true, 21)
  else (9, 2, 0 :: st, false, 0)
/-- what a step leaves -/
def Stepped (w : World) (X : Nat) (s : ByteArray) (at' : Nat) (v : Value) (r : Step5) (e : Ending) (w' : World) : Prop :=
  ∃ v' R, e = .returned (.agg #[.int .i64 (r.1 : Int), .string R]) ∧ R.data.toList = (s.data.toList.drop at').take r.2.1 ∧ LexSt w' X s at' v' r.2.2.1 r.2.2.2.1 (r.2.2.2.2 : Int) ∧ Keeps (lexO X v) w w' ∧ (v'.ownBlock = v.ownBlock ∨ ∃ g, v'.ownBlock = some g ∧ w.heap.size ≤ g)
variable {w : World} {X : Nat} {s : ByteArray} {at' : Nat} {v : Value} {st : List Nat} {inn : Bool} {er : Int}
theorem text_data (s : ByteArray) (at' n : Nat) : ((s.extract at' s.size).extract 0 n).data.toList = (s.data.toList.drop at').take n := by
  rw [Lib.extract_data, ext_data, List.drop_zero, Nat.sub_zero]
theorem piece_ext (s : ByteArray) (n : Nat) (hs : s.size ≤ 65536) (w : World) :
    Calls Tryz.prog 89 #[.string (s.extract n s.size)] w fun e w' => e = .returned (.int .i64 (pieceN (s.data.toList.drop n) : Nat)) ∧ Below w.heap.size w w' := by
  have := piece_calls (s.extract n s.size) (by have := ext_lt s n s.size (n := 65537) (by omega); omega) w
  rwa [ext_data] at this
theorem in_after {w1 : World} {n : Nat} {cs : Array Value} {t : TypeId} (h : LexSt w X s at' v st inn er) (hb : Below ((w.alloc (.cells cs t)).drewN n).heap.size ((w.alloc (.cells cs t)).drewN n) w1) :
    LexSt w1 X s at' v st inn er ∧ w1.heap[w.heap.size]? = some (.cells cs t (0, 0)) ∧ Below w.heap.size w w1 ∧ w.heap.size < w1.heap.size := by
  have hB1 : Below w.heap.size w ((w.alloc (.cells cs t)).drewN n) := below_drewN ((Below.refl _ _).alloc (Nat.le_refl _) _) n
  have hB : Below w.heap.size w w1 := hB1.trans (hb.mono hB1.size)
  have hn : ((w.alloc (.cells cs t)).drewN n).heap[w.heap.size]? = some (.cells cs t (0, 0)) := World.alloc_heap_new w _
  have hl := heap_lt hn
  exact ⟨h.below hB, (hb.block _ hl).trans hn, hB, Nat.lt_of_lt_of_le hl hb.size⟩
theorem in_done {w1 : World} {a b v1 : Value} {st1 : List Nat} {t : TypeId} {B : Nat} (hk : Keeps (lexO X v) w w1) (h1 : LexSt w1 X s at' v1 st1 inn er) (r : w1.heap[B]? = some (.cells #[a, b] t (0, 0))) (hX : X < w.heap.size) (hBn : w.heap.size ≤ B) (hv : ∀ g, some g = v1.ownBlock → ¬ g = B) (x y : Value) :
    ((w1.setCell ⟨B, 0, none⟩ x).setCell ⟨B, 1, none⟩ y).heap[B]? = some (.cells #[x, y] t (0, 0)) ∧ LexSt ((w1.setCell ⟨B, 0, none⟩ x).setCell ⟨B, 1, none⟩ y) X s at' v1 st1 inn er ∧ Keeps (lexO X v) w ((w1.setCell ⟨B, 0, none⟩ x).setCell ⟨B, 1, none⟩ y) := by
  have e1 := heap_setCell_same w1 B 0 _ _ x r
  have e2 := heap_setCell_same (w1.setCell ⟨B, 0, none⟩ x) B 1 _ _ y e1
  have k1 := keeps_setCell (O := fun b => b = B) w1 B 0 x rfl
  have k2 := keeps_setCell (O := fun b => b = B) (w1.setCell ⟨B, 0, none⟩ x) B 1 y rfl
  have k := k1.trans k2
  exact ⟨e2, h1.keeps k (by omega) hv, hk.trans' k fun b hb e => by omega⟩
theorem own_old (h : LexSt w X s at' v st inn er) {B : Nat} (hB : w.heap.size ≤ B) : ∀ g, some g = v.ownBlock → ¬ g = B := fun g hg e => by
  have := (h.own.lt g hg.symm).2
  omega
/-- the lexer's block, one cell of it set -/
theorem LexSt.setIn (h : LexSt w X s at' v st inn er) (b : Bool) : LexSt (w.setCell ⟨X, 3, none⟩ (.bool b)) X s at' v st b er :=
  ⟨heap_setCell_same w X 3 _ _ _ h.blk, ownsRow_setCell_other h.own h.apart _⟩
theorem LexSt.setErr (h : LexSt w X s at' v st inn er) (x : Int) : LexSt (w.setCell ⟨X, 4, none⟩ (.int .u16 x)) X s at' v st inn x :=
  ⟨heap_setCell_same w X 4 _ _ _ h.blk, ownsRow_setCell_other h.own h.apart _⟩
theorem LexSt.slice (h : LexSt w X s at' v st inn er) : ∃ p cap, v = .slice p st.length cap := by
  rcases h.nil_or with ⟨rfl, p, cap, rfl⟩ | ⟨t, rest, g, cap, cur, rfl, rfl, _⟩
  · exact ⟨p, cap, rfl⟩
  · exact ⟨_, cap, rfl⟩
theorem after_push {w1 w2 : World} {b0 : Bool} {cs : Array Value} {t : TypeId} {v' : Value} {k : Nat} {b : Bool} {er' : Int} (h : LexSt w X s at' v st inn er) (_h1 : LexSt w1 X s at' v st b0 er') (r : w1.heap[w.heap.size]? = some (.cells cs t (0, 0))) (hB1 : Below w.heap.size w w1) (hX : X < w.heap.size)
    (_h5 : LexSt w2 X s at' v' (k :: st) b er') (hk : Keeps (lexO X v) (w1.setCell ⟨X, 3, none⟩ (.bool b)) w2) (hv : v'.ownBlock = v.ownBlock ∨ ∃ g, v'.ownBlock = some g ∧ (w1.setCell ⟨X, 3, none⟩ (.bool b)).heap.size ≤ g) :
    w2.heap[w.heap.size]? = some (.cells cs t (0, 0)) ∧ Keeps (lexO X v) w w2 ∧ (∀ g, some g = v'.ownBlock → ¬ g = w.heap.size) ∧ (v'.ownBlock = v.ownBlock ∨ ∃ g, v'.ownBlock = some g ∧ w.heap.size ≤ g) ∧ True ∧ True ∧ True := by
  have hnB : ¬ lexO X v w.heap.size := fun e => e.elim (fun e => by omega) (fun e => own_old h (Nat.le_refl _) _ e rfl)
  have k3 := keeps_setCell (O := lexO X v) w1 X 3 (.bool b) (.inl rfl)
  have hlt := heap_lt r
  refine ⟨hk.heap (k3.heap r hnB) hnB, ((Keeps.of_below' hB1).trans k3).trans hk, fun g hg e => ?_, ?_, trivial, trivial, trivial⟩
  · rcases hv with hv | ⟨g', hv, hg'⟩
    · exact own_old h (Nat.le_refl _) g (hg.trans hv) e
    · rw [hv] at hg; cases hg; simp at hg'; omega
  · rcases hv with hv | ⟨g', hv, hg'⟩
    · exact .inl hv
    · exact .inr ⟨g', hv, by simp at hg'; omega⟩
/-- the block of a token that is handed back -/
def tokZ : Obj := .cells #[.int .i64 0, .string ByteArray.empty] 29

set_option maxRecDepth 100000 in
set_option maxHeartbeats 4000000 in
theorem inside_calls (h : LexSt w X s at' v st true 0) (hat : at' < s.size) (hs : s.size ≤ 65536) (hst : st.length ≤ 256) (hX : X < w.heap.size) :
    Calls Tryz.prog 62 #[.pointer (some ⟨X, 0, none⟩)] w (Stepped w X s at' v (insN (s.data.toList.drop at') st)) := by
  have c0 := h.c0
  have c1 := h.c1
  have hp := piece_ext s at' hs
  have hple := pieceN_le _ (s.data.toList.drop at') (Nat.le_refl _)
  rw [List.length_drop, ← Lib.size_eq] at hple
  have hsl : (s.extract at' s.size).size = s.size - at' := ext_size s at'
  by_cases hp0 : 0 < pieceN (s.data.toList.drop at')
  · have hr : insN (s.data.toList.drop at') st = (8, pieceN (s.data.toList.drop at'), st, true, 0) := by unfold insN; rw [if_pos hp0]
    rw [hr]
    generalize pieceN (s.data.toList.drop at') = n at *
    have Hp := Lib.hid hp
    have H := Lib.hid h
    clear hp hr h
    go_enter Tryz.func62, Tryz.ntmps62
    go_wp2
    go_quiet (fail)
    go_wp2_with (go_at_call 89; refine (Hp.out _).mono ?_; rintro e w1 ⟨rfl, hb⟩; obtain ⟨h1, r, hB1, hlt⟩ := in_after H.out hb; clear hb c0 c1; have c0 := h1.c0; have c1 := h1.c1; have c2 := h1.c2; have c3 := h1.c3; have c4 := h1.c4; have f3 := h1.free 3; have f4 := h1.free 4; have r0 : w1.cell? ⟨w.heap.size, 0, none⟩ = some _ := cell_of_block r rfl; have r1 : w1.cell? ⟨w.heap.size, 1, none⟩ = some _ := cell_of_block r rfl; have rf0 := frozen_of_row w1 w.heap.size 0 _ _ r; have rf1 := frozen_of_row w1 w.heap.size 1 _ _ r; have H1 := Lib.hid h1; have R := Lib.hid r; clear h1 r)
    obtain ⟨e2, hL', hBl⟩ := in_done (v := v) (Keeps.of_below' hB1) H1.out R.out hX (Nat.le_refl _) (own_old H.out (Nat.le_refl _)) (.int .i64 8) (.string ((s.extract at' s.size).extract 0 n)) 
    have q0 := cell_of_block e2 (o := 0) rfl 
    have q1 := cell_of_block e2 (o := 1) rfl 
    exact bodyPost_ret (v := .agg #[.int .i64 8, .string ((s.extract at' s.size).extract 0 n)]) (by simp [results, Tryz.results62, go_sem, q0, q1]) rfl ⟨_, _, rfl, text_data s at' n, hL', hBl, .inl rfl⟩
  · obtain ⟨p, cap, rfl⟩ := h.slice
    have hpz : pieceN (s.data.toList.drop at') = 0 := by omega
    rw [hpz] at hp
    obtain ⟨L, hL⟩ : ∃ L, s.extract at' s.size = L := ⟨_, rfl⟩
    have hLd : L.data.toList = s.data.toList.drop at' := by rw [← hL, ext_data]
    rw [hL] at hsl hp
    have hL0 : 0 < L.size := by omega
    have hcons := cons_of L hL0
    have Hp := Lib.hid hp
    have H := Lib.hid h
    have HLd := Lib.hid hLd
    have hr : insN (s.data.toList.drop at') st = if (s.data.toList.drop at')[0]? = some 34 then (11, 1, st, false, 0) else if Lib.hasPrefix (s.data.toList.drop at') [92, 40] = false then (0, 0, st, true, 12) else if 256 ≤ st.length then (0, 0, st, true, 21) else (9, 2, 0 :: st, false, 0) := by
      unfold insN; rw [if_neg hp0]
    rw [hr, ← hLd]
    have hat0 : L.data.toList[0]? = some L[0] := by rw [hcons]; rfl
    have hpre := fun w => Tryz.strings_HasPrefix L ⟨#[92, 40]⟩ w
    clear hr hpz hp hcons h hLd hp0 hple
    cases h34 : (L[0] == 34)
    · rw [if_neg (by rw [hat0]; intro e; rw [Option.some.inj e] at h34; simp at h34)]
      have y1 : ((L[0].toNat : Int) == 34) = false := byte_beq 34 h34
      clear hat0 h34
      cases hpx : Lib.hasPrefix L.data.toList [92, 40]
      · have hpre2 : ∀ w, Calls Tryz.prog 58 #[.string L, .string ⟨#[92, 40]⟩] w fun e w' => e = .returned (.bool false) ∧ w' = w := fun w => by have := hpre w; rw [show (⟨#[92, 40]⟩ : ByteArray).data.toList = [92, 40] from rfl, hpx] at this; exact this
        have Hpre := Lib.hid hpre2
        rw [if_pos rfl]
        clear hpre hpre2 hpx
        go_enter Tryz.func62, Tryz.ntmps62
        go_wp2
        go_quiet (fail)
        go_wp2_with (first | (go_at_call 89; refine (Hp.out _).mono ?_; rintro e w1 ⟨rfl, hb⟩; obtain ⟨h1, r, hB1, hlt⟩ := in_after H.out hb; clear hb c0 c1; have c0 := h1.c0; have c1 := h1.c1; have c2 := h1.c2; have c3 := h1.c3; have c4 := h1.c4; have f3 := h1.free 3; have f4 := h1.free 4; have r0 : w1.cell? ⟨w.heap.size, 0, none⟩ = some _ := cell_of_block r rfl; have r1 : w1.cell? ⟨w.heap.size, 1, none⟩ = some _ := cell_of_block r rfl; have rf0 := frozen_of_row w1 w.heap.size 0 _ _ r; have rf1 := frozen_of_row w1 w.heap.size 1 _ _ r; have H1 := Lib.hid h1; have R := Lib.hid r; clear h1 r) | (go_at_call 58; with_reducible refine (Hpre.out _).mono ?_; rintro e w1 ⟨rfl, rfl⟩))
        have k4 := keeps_setCell (O := lexO X (.slice p st.length cap)) w1 X 4 (.int .u16 12) (.inl rfl) 
        have hnB : ¬ lexO X (.slice p st.length cap) w.heap.size := fun e => e.elim (fun e => by omega) (fun e => own_old H.out (Nat.le_refl _) _ e rfl) 
        obtain ⟨e2, hL', hBl⟩ := in_done (v := .slice p st.length cap) ((Keeps.of_below' hB1).trans k4) (H1.out.setErr 12) (k4.heap R.out hnB) hX (Nat.le_refl _) (own_old H.out (Nat.le_refl _)) _ _
        have q0 := cell_of_block e2 (o := 0) rfl 
        have q1 := cell_of_block e2 (o := 1) rfl 
        exact bodyPost_ret (v := .agg #[.int .i64 0, .string (⟨#[]⟩)]) (by simp [results, Tryz.results62, go_sem, q0, q1]) rfl ⟨_, _, rfl, rfl, hL', hBl, .inl rfl⟩
      · have hpre2 : ∀ w, Calls Tryz.prog 58 #[.string L, .string ⟨#[92, 40]⟩] w fun e w' => e = .returned (.bool true) ∧ w' = w := fun w => by have := hpre w; rw [show (⟨#[92, 40]⟩ : ByteArray).data.toList = [92, 40] from rfl, hpx] at this; exact this
        have Hpre := Lib.hid hpre2
        have hL2 : 2 ≤ L.size := by
          have := Lib.hasPrefix_le hpx
          rw [← Lib.size_eq] at this
          exact this
        rw [if_neg (by simp)]
        clear hpre hpre2 hpx
        by_cases h256 : 256 ≤ st.length
        · rw [if_pos h256]
          go_enter Tryz.func62, Tryz.ntmps62
          go_wp2
          go_quiet (fail)
          go_wp2_with (first | (go_at_call 89; refine (Hp.out _).mono ?_; rintro e w1 ⟨rfl, hb⟩; obtain ⟨h1, r, hB1, hlt⟩ := in_after H.out hb; clear hb c0 c1; have c0 := h1.c0; have c1 := h1.c1; have c2 := h1.c2; have c3 := h1.c3; have c4 := h1.c4; have f3 := h1.free 3; have f4 := h1.free 4; have r0 : w1.cell? ⟨w.heap.size, 0, none⟩ = some _ := cell_of_block r rfl; have r1 : w1.cell? ⟨w.heap.size, 1, none⟩ = some _ := cell_of_block r rfl; have rf0 := frozen_of_row w1 w.heap.size 0 _ _ r; have rf1 := frozen_of_row w1 w.heap.size 1 _ _ r; have H1 := Lib.hid h1; have R := Lib.hid r; clear h1 r) | (go_at_call 58; with_reducible refine (Hpre.out _).mono ?_; rintro e w1 ⟨rfl, rfl⟩))
          have k4 := keeps_setCell (O := lexO X (.slice p st.length cap)) w1 X 4 (.int .u16 21) (.inl rfl) 
          have hnB : ¬ lexO X (.slice p st.length cap) w.heap.size := fun e => e.elim (fun e => by omega) (fun e => own_old H.out (Nat.le_refl _) _ e rfl) 
          obtain ⟨e2, hL', hBl⟩ := in_done (v := .slice p st.length cap) ((Keeps.of_below' hB1).trans k4) (H1.out.setErr 21) (k4.heap R.out hnB) hX (Nat.le_refl _) (own_old H.out (Nat.le_refl _)) _ _
          have q0 := cell_of_block e2 (o := 0) rfl 
          have q1 := cell_of_block e2 (o := 1) rfl 
          exact bodyPost_ret (v := .agg #[.int .i64 0, .string (⟨#[]⟩)]) (by simp [results, Tryz.results62, go_sem, q0, q1]) rfl ⟨_, _, rfl, rfl, hL', hBl, .inl rfl⟩
        · rw [if_neg h256]
          go_enter Tryz.func62, Tryz.ntmps62
          go_wp2
          go_quiet (fail)
          have hR : (L.extract 0 2).data.toList = (s.data.toList.drop at').take 2 := by rw [Lib.extract_data, HLd.out]; rfl
          have HR := Lib.hid hR
          clear hR
          go_wp2_with (first | (go_at_call 89; refine (Hp.out _).mono ?_; rintro e w1 ⟨rfl, hb⟩; obtain ⟨h1, r, hB1, hlt⟩ := in_after H.out hb; clear hb c0 c1; have c0 := h1.c0; have c1 := h1.c1; have c2 := h1.c2; have c3 := h1.c3; have c4 := h1.c4; have f3 := h1.free 3; have f4 := h1.free 4; have r0 : w1.cell? ⟨w.heap.size, 0, none⟩ = some _ := cell_of_block r rfl; have r1 : w1.cell? ⟨w.heap.size, 1, none⟩ = some _ := cell_of_block r rfl; have rf0 := frozen_of_row w1 w.heap.size 0 _ _ r; have rf1 := frozen_of_row w1 w.heap.size 1 _ _ r; have H1 := Lib.hid h1; have R := Lib.hid r; clear h1 r) | (go_at_call 58; with_reducible refine (Hpre.out _).mono ?_; rintro e w1 ⟨rfl, rfl⟩) | (go_at_call 90; refine (push_calls (H1.out.setIn false) 0 (by omega) (by simp; omega)).mono ?_; rintro e w2 ⟨v', rfl, h5, hk5, hv5⟩; obtain ⟨a1, a2, a3, a4, a5, a6, a7⟩ := after_push H.out H1.out R.out hB1 hX h5 hk5 hv5; have r0 : w2.cell? ⟨w.heap.size, 0, none⟩ = some _ := cell_of_block a1 rfl; have r1 : w2.cell? ⟨w.heap.size, 1, none⟩ = some _ := cell_of_block a1 rfl; have rf0 := frozen_of_row w2 w.heap.size 0 _ _ a1; have rf1 := frozen_of_row w2 w.heap.size 1 _ _ a1; have R2 := Lib.hid a1; have Hk5 := Lib.hid a2; have H5 := Lib.hid h5; have HvB := Lib.hid a3; have Hv5 := Lib.hid a4; clear a1 a2 a3 a4 a5 a6 a7 h5 hk5 hv5))
          obtain ⟨e1, hL1, hBl1⟩ := in_done (v := .slice p st.length cap) Hk5.out H5.out R2.out hX (Nat.le_refl _) HvB.out (.int .i64 9) (.string (L.extract 0 2))
          obtain ⟨e2, hL', hBl⟩ := in_done (v := .slice p st.length cap) hBl1 hL1 e1 hX (Nat.le_refl _) HvB.out (.int .i64 9) (.string (L.extract 0 2))
          have q0 := cell_of_block e2 (o := 0) rfl
          have q1 := cell_of_block e2 (o := 1) rfl
          exact bodyPost_ret (v := .agg #[.int .i64 9, .string (L.extract 0 2)]) (by simp [results, Tryz.results62, go_sem, q0, q1]) rfl ⟨_, _, rfl, HR.out, hL', hBl, Hv5.out⟩
    · rw [if_pos (by rw [hat0, eq_of_beq h34])]
      have y1 : ((L[0].toNat : Int) == 34) = true := by rw [eq_of_beq h34]; rfl
      have hR : (L.extract 0 1).data.toList = (s.data.toList.drop at').take 1 := by rw [Lib.extract_data, HLd.out]; rfl
      have HR := Lib.hid hR
      clear hat0 h34 hpre hR
      go_enter Tryz.func62, Tryz.ntmps62
      go_wp2
      go_quiet (fail)
      go_wp2_with (go_at_call 89; refine (Hp.out _).mono ?_; rintro e w1 ⟨rfl, hb⟩; obtain ⟨h1, r, hB1, hlt⟩ := in_after H.out hb; clear hb c0 c1; have c0 := h1.c0; have c1 := h1.c1; have c2 := h1.c2; have c3 := h1.c3; have c4 := h1.c4; have f3 := h1.free 3; have f4 := h1.free 4; have r0 : w1.cell? ⟨w.heap.size, 0, none⟩ = some _ := cell_of_block r rfl; have r1 : w1.cell? ⟨w.heap.size, 1, none⟩ = some _ := cell_of_block r rfl; have rf0 := frozen_of_row w1 w.heap.size 0 _ _ r; have rf1 := frozen_of_row w1 w.heap.size 1 _ _ r; have H1 := Lib.hid h1; have R := Lib.hid r; clear h1 r)
      have k4 := keeps_setCell (O := lexO X (.slice p st.length cap)) w1 X 3 (.bool false) (.inl rfl) 
      have hnB : ¬ lexO X (.slice p st.length cap) w.heap.size := fun e => e.elim (fun e => by omega) (fun e => own_old H.out (Nat.le_refl _) _ e rfl) 
      obtain ⟨e2, hL', hBl⟩ := in_done (v := .slice p st.length cap) ((Keeps.of_below' hB1).trans k4) (H1.out.setIn false) (k4.heap R.out hnB) hX (Nat.le_refl _) (own_old H.out (Nat.le_refl _)) _ _
      have q0 := cell_of_block e2 (o := 0) rfl 
      have q1 := cell_of_block e2 (o := 1) rfl 
      exact bodyPost_ret (v := .agg #[.int .i64 11, .string (L.extract 0 1)]) (by simp [results, Tryz.results62, go_sem, q0, q1]) rfl ⟨_, _, rfl, HR.out, hL', hBl, .inl rfl⟩
end Go.Proofs.YtiinhkfbgecbjaaGreatDoor
