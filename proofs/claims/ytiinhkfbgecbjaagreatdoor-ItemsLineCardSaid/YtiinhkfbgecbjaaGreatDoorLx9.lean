/- How the lexer counts brackets. Its condition: how the lexer and the token lie in memory. -/
import Derived.Test.YtiinhkfbgecbjaaGreatDoorLx8
namespace Go.Proofs.YtiinhkfbgecbjaaGreatDoor
set_option linter.unusedSimpArgs false
set_option linter.unusedVariables false
open Go.RowKit Go.Sub

/-- what a token makes of the stack, of its own kind, and whether a string goes on -/
def brkN (st : List Nat) (kind : Nat) (text : List UInt8) : List Nat × Nat × Bool := match st with
  | [] => ([], kind, false)
  | t :: rest => if kind == 13 then (if text == [40] then ((t + 1) :: rest, kind, false) else if text == [41] then (if t = 0 then (rest, 10, true) else ((t - 1) :: rest, kind, false)) else (t :: rest, kind, false)) else (t :: rest, kind, false)
theorem own_set {w : World} {B t u : Nat} {rest : List Nat} {g cap : Nat} (h : w.ownsRow B 3 1 (.slice (some ⟨g, 0, none⟩) (rest.length + 1) cap) (rest.length + 1) (stackC (t :: rest))) :
    w.cell? ⟨g, rest.length, none⟩ = some (.int .i64 (t : Int)) ∧ w.frozen? ⟨g, rest.length, none⟩ = false ∧ (w.setCell ⟨g, rest.length, none⟩ (.int .i64 (u : Int))).ownsRow B 3 1 (.slice (some ⟨g, 0, none⟩) (rest.length + 1) cap) (rest.length + 1) (stackC (u :: rest)) := by
  rcases h.2 with ⟨h1, _⟩ | ⟨g', cap', cur, h1, h2, h3, h4, h5, h6, h7⟩
  · cases h1
  · cases h1
    have hat : cur[rest.length]? = some (.int .i64 (t : Int)) := by
      have := stack_top t rest
      rw [← h7, List.getElem?_take] at this
      rw [if_pos (by omega)] at this
      simpa using this
    refine ⟨cell_of_block h3 hat, frozen_of_row w g _ _ _ h3, by rw [stack_len]; simp, .inr ⟨g, cap, cur.setIfInBounds rest.length (.int .i64 (u : Int)), rfl, h2, heap_setCell_same w g _ _ _ _ h3, h4, h5, by rw [Array.size_setIfInBounds]; exact h6, ?_⟩⟩
    rw [← stack_push] at h7 ⊢
    have hr : cur.toList.take rest.length = stackC rest := by
      have h8 := congrArg (List.take rest.length) h7
      rw [List.take_take, List.take_left' (stack_len rest)] at h8
      rw [← h8]; congr 1; omega
    have hlt : rest.length < cur.size := (Array.getElem?_eq_some_iff.1 hat).1
    rw [Nat.mul_one, List.take_add_one, Array.toList_setIfInBounds, List.take_set_of_le (Nat.le_refl _), hr]
    simp [hlt]
/-- how a token lies -/
def TokAt (w : World) (T : Nat) (kind : Nat) (text : ByteArray) : Prop := w.heap[T]? = some (.cells #[.int .i64 (kind : Int), .string text] 29 (0, 0))

theorem TokAt.k {w : World} {T kind : Nat} {text : ByteArray} (h : TokAt w T kind text) : w.cell? ⟨T, 0, none⟩ = some (.int .i64 (kind : Int)) := cell_of_block h rfl
theorem TokAt.t {w : World} {T kind : Nat} {text : ByteArray} (h : TokAt w T kind text) : w.cell? ⟨T, 1, none⟩ = some (.string text) := cell_of_block h rfl
theorem TokAt.free {w : World} {T kind : Nat} {text : ByteArray} (h : TokAt w T kind text) (o : Nat) : w.frozen? ⟨T, o, none⟩ = false := frozen_of_row w T o _ _ h
theorem TokAt.keeps {w w' : World} {T kind : Nat} {text : ByteArray} {O : Nat → Prop} (h : TokAt w T kind text) (k : Keeps O w w') (hT : ¬ O T) : TokAt w' T kind text := k.heap h hT
/-- what a step may turn: the lexer, the token, the row -/
def brkO (X T : Nat) (v : Value) (b : Nat) : Prop := b = X ∨ b = T ∨ some b = v.ownBlock
def Brk (w : World) (X T : Nat) (s : ByteArray) (at' : Nat) (v : Value) (inn : Bool) (er : Int) (text : ByteArray) (r : List Nat × Nat × Bool) (e : Ending) (w' : World) : Prop :=
  ∃ v', e = .returned (.tuple #[]) ∧ LexSt w' X s at' v' r.1 (r.2.2 || inn) er ∧ TokAt w' T r.2.1 text ∧ Keeps (brkO X T v) w w' ∧ v'.ownBlock = v.ownBlock
variable {w : World} {X T : Nat} {s : ByteArray} {at' : Nat} {v : Value} {st : List Nat} {inn : Bool} {er : Int} {kind : Nat} {text : ByteArray}
theorem brk_same (h : LexSt w X s at' v st inn er) (hT : TokAt w T kind text) (n : Nat) : Brk w X T s at' v inn er text (st, kind, false) (.returned (.tuple #[])) (w.drewN n) :=
  ⟨v, rfl, h.drewN n, hT, (Keeps.of_below' (below_drewN (Below.refl _ _) n)), rfl⟩

theorem brk_row {t u : Nat} {rest : List Nat} {g cap : Nat} (h : LexSt w X s at' (.slice (some ⟨g, 0, none⟩) (rest.length + 1) cap) (t :: rest) inn er) (hT : TokAt w T kind text) (hgX : g ≠ X) (hgT : T ≠ g) (n : Nat) :
    Brk w X T s at' (.slice (some ⟨g, 0, none⟩) (rest.length + 1) cap) inn er text (u :: rest, kind, false) (.returned (.tuple #[])) ((w.setCell ⟨g, rest.length, none⟩ (.int .i64 (u : Int))).drewN n) := by
  have hk := keeps_setCell (O := fun b => b = g) w g rest.length (.int .i64 (u : Int)) rfl
  exact ⟨_, rfl, ⟨hk.heap h.blk (fun e => hgX e.symm), (own_set (u := u) h.own).2.2⟩, hk.heap hT hgT, (hk.mono fun b _ e => .inr (.inr (by rw [e]; rfl))).trans (Keeps.of_below' (below_drewN (Below.refl _ _) n)), rfl⟩
theorem brk_popped {w2 : World} {v2 : Value} {rest : List Nat} {n : Nat} (h : LexSt w2 X s at' v2 rest inn er) (hT : TokAt w2 T kind text) (hk : Keeps (fun b => b = X) (w.drewN n) w2) (hTX : T ≠ X) (hTv : v2.ownBlock ≠ some T) (hv : v2.ownBlock = v.ownBlock) :
    Brk w X T s at' v inn er text (rest, 10, true) (.returned (.tuple #[])) ((w2.setCell ⟨T, 0, none⟩ (.int .i64 10)).setCell ⟨X, 3, none⟩ (.bool true)) := by
  have k1 := keeps_setCell (O := fun b => b = T) w2 T 0 (.int .i64 10) rfl
  have k2 := keeps_setCell (O := fun b => b = X) (w2.setCell ⟨T, 0, none⟩ (.int .i64 10)) X 3 (.bool true) rfl
  have b1 := k1.heap h.blk (fun e => hTX e.symm)
  have t1 := heap_setCell_same w2 T 0 _ _ (.int .i64 10) hT
  refine ⟨v2, rfl, ⟨heap_setCell_same _ X 3 _ _ _ b1, ?_⟩, k2.heap t1 hTX, ?_, hv⟩
  · exact ownsRow_setCell_other (ownsRow_setCell_other h.own hTv _) h.apart _
  · exact (((Keeps.of_below' (below_drewN (Below.refl _ _) n)).trans' (hk.mono fun b _ e => .inl e) fun _ _ e => e).trans (k1.mono fun b _ e => .inr (.inl e))).trans (k2.mono fun b _ e => .inl e)
theorem brk_other {t : Nat} {rest : List Nat} {l : List UInt8} (h40 : (l == [40]) = false) (h41 : (l == [41]) = false) : brkN (t :: rest) 13 l = (t :: rest, 13, false) := by
  simp only [brkN, beq_self_eq_true, if_true, h40, h41, Bool.false_eq_true, if_false]
theorem brk_open {t : Nat} {rest : List Nat} : brkN (t :: rest) 13 [40] = ((t + 1) :: rest, 13, false) := rfl
theorem brk_close {t : Nat} {rest : List Nat} (h : t ≠ 0) : brkN (t :: rest) 13 [41] = ((t - 1) :: rest, 13, false) := by
  show (if t = 0 then _ else _) = _
  rw [if_neg h]
theorem brk_end {rest : List Nat} : brkN (0 :: rest) 13 [41] = (rest, 10, true) := rfl
theorem brk_kind {t kind : Nat} {rest : List Nat} {l : List UInt8} (h : kind ≠ 13) : brkN (t :: rest) kind l = (t :: rest, kind, false) := by
  have : (kind == 13) = false := by simpa using h
  simp only [brkN, this, Bool.false_eq_true, if_false]

set_option maxRecDepth 100000 in
set_option maxHeartbeats 2000000 in
theorem bracket_calls (h : LexSt w X s at' v st inn er) (hT : TokAt w T kind text) (hTX : T ≠ X) (hTv : ¬ some T = v.ownBlock) (hb : ∀ x ∈ st, x ≤ 70000) (hk : kind ≤ 100) :
    Calls Tryz.prog 91 #[.pointer (some ⟨X, 0, none⟩), .pointer (some ⟨T, 0, none⟩)] w (Brk w X T s at' v inn er text (brkN st kind text.data.toList)) := by
  have k0 := hT.k
  have k1 := hT.t
  rcases h.nil_or with ⟨rfl, p, cap, rfl⟩ | ⟨t, rest, g, cap, cur, rfl, rfl, hg, hgb, hg1, hg2, hg3, hg4⟩
  · have Htop := Lib.hid (top_nil h)
    have Hend := Lib.hid (brk_same h hT 0)
    go_enter Tryz.func91, Tryz.ntmps91
    go_wp2_with (go_at_call 65; refine (Htop.out).mono ?_; rintro e w' ⟨rfl, rfl⟩)
    go_end0
    exact Hend.out
  · have Htop := Lib.hid (top_some h)
    have H := Lib.hid h
    have HT := Lib.hid hT
    have ht := hb t (by simp)
    have hgT : T ≠ g := fun e => hTv (by rw [e]; rfl)
    have hgX : g ≠ X := by omega
    by_cases hk13 : kind = 13
    · subst hk13
      cases h40 : (text.data.toList == [40])
      · cases h41 : (text.data.toList == [41])
        · rw [brk_other h40 h41]
          have b40 : (text.toList == [40]) = false := by rw [Lib.toList_data]; exact h40
          have b41 : (text.toList == [41]) = false := by rw [Lib.toList_data]; exact h41
          clear h40 h41 hgb hg4 h hT
          go_enter Tryz.func91, Tryz.ntmps91
          go_wp2_with (go_at_call 65; refine (Htop.out).mono ?_; rintro e w' ⟨rfl, nq, rfl⟩)
          go_end0
          exact brk_same H.out HT.out _
        · have e41 : text.data.toList = [41] := eq_of_beq h41
          have b40 : (text.toList == [40]) = false := by rw [Lib.toList_data]; exact h40
          have b41 : (text.toList == [41]) = true := by rw [Lib.toList_data]; exact h41
          by_cases ht0 : t = 0
          · subst ht0
            rw [e41, brk_end]
            obtain ⟨r1, r2, _⟩ := own_set (u := 0) h.own
            have Hpop := Lib.hid fun n => pop_calls (h.drewN n)
            clear h40 h41 e41 hgb hg4 h hT hb
            go_enter Tryz.func91, Tryz.ntmps91
            go_wp2_with (first | (go_at_call 65; refine (Htop.out).mono ?_; rintro e w' ⟨rfl, nq, rfl⟩) | (go_at_call 106; refine (Hpop.out _).mono ?_; rintro e w2 ⟨rfl, h2, hkp⟩; have hT2 : TokAt w2 T 13 text := hkp.heap HT.out hTX; have p0 := hT2.k; have p1 := hT2.free 0; have p2 := h2.c3; have p3 := h2.free 3; have H2 := Lib.hid h2; have HT2 := Lib.hid hT2; have Hkp := Lib.hid hkp; clear h2 hT2 hkp))
            go_end0
            exact brk_popped H2.out HT2.out Hkp.out hTX (fun e => hTv e.symm) rfl
          · rw [e41, brk_close ht0]
            obtain ⟨r1, r2, _⟩ := own_set (u := t - 1) h.own
            have htp : 0 < t := by omega
            have hw : (t : Int) - 1 = ((t - 1 : Nat) : Int) := by omega
            generalize t - 1 = u at *
            clear h40 h41 e41 hgb hg4 h hT hb
            go_enter Tryz.func91, Tryz.ntmps91
            go_wp2_with (go_at_call 65; refine (Htop.out).mono ?_; rintro e w' ⟨rfl, nq, rfl⟩)
            go_end0
            exact brk_row H.out HT.out hgX hgT _
      · have e40 : text.data.toList = [40] := eq_of_beq h40
        have b40 : (text.toList == [40]) = true := by rw [Lib.toList_data]; exact h40
        rw [e40, brk_open]
        obtain ⟨r1, r2, _⟩ := own_set (u := t + 1) h.own
        clear h40 e40 hgb hg4 h hT hb
        go_enter Tryz.func91, Tryz.ntmps91
        go_wp2_with (go_at_call 65; refine (Htop.out).mono ?_; rintro e w' ⟨rfl, nq, rfl⟩)
        go_end0
        exact brk_row H.out HT.out hgX hgT _
    · rw [brk_kind hk13]
      have y1 : ((kind : Int) != 13) = true := by rw [bne_iff_ne]; omega
      have y2 : ((kind : Int) = 13) = False := by apply eq_false; omega
      clear hgb hg4 h hT hk13
      go_enter Tryz.func91, Tryz.ntmps91
      go_wp2_with (go_at_call 65; refine (Htop.out).mono ?_; rintro e w' ⟨rfl, nq, rfl⟩)
      go_end0
      exact brk_same H.out HT.out _
end Go.Proofs.YtiinhkfbgecbjaaGreatDoor
