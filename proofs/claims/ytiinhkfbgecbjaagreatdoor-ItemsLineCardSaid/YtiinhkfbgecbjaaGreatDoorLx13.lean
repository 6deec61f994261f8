/- The lexer's steps, one behind the other: what its iterator tells. Its condition: how the lexer and its table lie in memory; a text of at most 65536 bytes. -/
import Derived.Test.YtiinhkfbgecbjaaGreatDoorLx11
import Derived.Test.YtiinhkfbgecbjaaGreatDoorLx12
namespace Go.Proofs.YtiinhkfbgecbjaaGreatDoor
set_option linter.unusedSimpArgs false
set_option linter.unusedVariables false
open Go.RowKit Go.Sub

/-- a step, in a string or outside -/
def stepN (l : List UInt8) (st : List Nat) (inn : Bool) : Step5 := if inn then insN l st else outN l st
/-- the steps from a place on: the tokens (kind, place, length), the error, and where it stopped -/
def lexN : Nat → List UInt8 → Nat → List Nat → Bool → List (Nat × Nat × Nat) × Nat × Nat
  | 0, _, at', _, _ => ([], 99, at')
  | fuel + 1, l, at', st, inn =>
    if l.length ≤ at' then ([], (if inn || !st.isEmpty then 13 else 0), at')
    else match stepN (l.drop at') st inn with
      | (k, n, st2, inn2, 0) => ((k, at', n) :: (lexN fuel l (at' + n) st2 inn2).1, (lexN fuel l (at' + n) st2 inn2).2)
      | (_, _, _, _, e + 1) => ([], e + 1, at')
theorem brk_facts (st : List Nat) (k : Nat) (x : List UInt8) (M : Nat) (hM : ∀ y ∈ st, y ≤ M) : (brkN st k x).1.length ≤ st.length ∧ ∀ y ∈ (brkN st k x).1, y ≤ M + 1 := by
  match st, hM with
  | [], _ => exact ⟨Nat.le_refl _, fun y hy => by simp [brkN] at hy⟩
  | t :: rest, hM =>
    have ht := hM t (by simp)
    have hr : ∀ y ∈ rest, y ≤ M + 1 := fun y hy => by have := hM y (List.mem_cons_of_mem _ hy); omega
    have hc : ∀ u, u ≤ M + 1 → ∀ y ∈ u :: rest, y ≤ M + 1 := fun u hu y hy => by
      rcases List.mem_cons.1 hy with rfl | hy
      · exact hu
      · exact hr y hy
    unfold brkN
    dsimp only
    split
    · split
      · exact ⟨Nat.le_refl _, hc _ (by omega)⟩
      · split
        · split
          · exact ⟨by simp, hr⟩
          · exact ⟨Nat.le_refl _, hc _ (by omega)⟩
        · exact ⟨Nat.le_refl _, hc _ (by omega)⟩
    · exact ⟨Nat.le_refl _, hc _ (by omega)⟩
/-- what a step that is no error has -/
def Good (l : List UInt8) (M : Nat) (r : Step5) : Prop := r.2.2.2.2 = 0 → 0 < r.2.1 ∧ r.2.1 ≤ l.length ∧ r.2.2.1.length ≤ 256 ∧ ∀ y ∈ r.2.2.1, y ≤ M + 1
theorem insN_good (l : List UInt8) (st : List Nat) (M : Nat) (h0 : l ≠ []) (hst : st.length ≤ 256) (hM : ∀ y ∈ st, y ≤ M) : Good l M (insN l st) := by
  have hp := pieceN_le _ l (Nat.le_refl _)
  have h1 : 0 < l.length := by
    cases l with
    | nil => exact absurd rfl h0
    | cons _ _ => simp
  have hM1 : ∀ y ∈ st, y ≤ M + 1 := fun y hy => by have := hM y hy; omega
  unfold insN Good
  split
  · exact fun _ => ⟨by assumption, hp, hst, hM1⟩
  · split
    · exact fun _ => ⟨by show 0 < 1; omega, h1, hst, hM1⟩
    · split
      · exact fun h => by simp at h
      · split
        · exact fun h => by simp at h
        · rename_i h2 h3
          refine fun _ => ⟨by show 0 < 2; omega, ?_, by show st.length + 1 ≤ 256; omega, fun y hy => ?_⟩
          · have := Lib.hasPrefix_le (show Lib.hasPrefix l [92, 40] = true by simpa using h2)
            simpa using this
          · rcases List.mem_cons.1 hy with rfl | hy
            · omega
            · exact hM1 y hy
theorem outN_good (l : List UInt8) (st : List Nat) (M : Nat) (hst : st.length ≤ 256) (hM : ∀ y ∈ st, y ≤ M) : Good l M (outN l st) := by
  unfold outN Good
  cases h : triesL.find? (fun x => decide (0 < x.2.2 l)) with
  | none => exact fun h => by simp at h
  | some x =>
    have h1 := List.find?_some h
    have h2 := tries_le x (List.mem_of_find?_eq_some h) l
    obtain ⟨b1, b2⟩ := brk_facts st x.1 (l.take (x.2.2 l)) M hM
    exact fun _ => ⟨by simpa using h1, h2, by show (brkN st x.1 _).1.length ≤ 256; omega, b2⟩
theorem stepN_good (l : List UInt8) (st : List Nat) (inn : Bool) (M : Nat) (h0 : l ≠ []) (hst : st.length ≤ 256) (hM : ∀ y ∈ st, y ≤ M) : Good l M (stepN l st inn) := by
  unfold stepN
  split
  · exact insN_good l st M h0 hst hM
  · exact outN_good l st M hst hM
set_option maxRecDepth 100000 in
theorem close_calls {w : World} {X TB B1 B3 : Nat} {s : ByteArray} {at' : Nat} {v : Value} {st : List Nat} (h : LexSt w X s at' v st false 0) (hTB : w.heap[TB]? = some (.cells triesC.toArray 103 (0, 0))) (hTX : TB ≠ X) (hTv : ¬ some TB = v.ownBlock) (hat : at' < s.size) (hs : s.size ≤ 65536) (hb : ∀ x ∈ st, x ≤ 70000) (hX : X < w.heap.size)
    (c1 : w.cell? ⟨B1, 0, none⟩ = some (.pointer (some ⟨X, 0, none⟩))) (c3 : w.cell? ⟨B3, 0, none⟩ = some (.slice (some ⟨TB, 0, none⟩) 9 9)) :
    Calls Tryz.prog 63 #[.pointer (some ⟨B1, 0, none⟩), .pointer (some ⟨B3, 0, none⟩)] w (Stepped w X s at' v (outN (s.data.toList.drop at') st)) := by
  have hA : Below w.heap.size w (w.alloc (.cells #[.int .i64 0, .string ⟨#[]⟩] 29)) := (Below.refl _ _).alloc (Nat.le_refl _) _
  have hr := World.alloc_heap_new w (.cells #[.int .i64 0, .string ⟨#[]⟩] 29)
  have h1 := h.below hA
  have hTB1 : (w.alloc (.cells #[.int .i64 0, .string ⟨#[]⟩] 29)).heap[TB]? = _ := (hA.block TB (heap_lt hTB)).trans hTB
  have hout := outside_calls h1 hTB1 hTX hTv hat hs hb (by simp; omega)
  have k1 : (w.alloc (.cells #[.int .i64 0, .string ⟨#[]⟩] 29)).cell? ⟨B1, 0, none⟩ = _ := (hA.cell (World.block_lt_of_cell? _ _ c1)).trans c1
  have k3 : (w.alloc (.cells #[.int .i64 0, .string ⟨#[]⟩] 29)).cell? ⟨B3, 0, none⟩ = _ := (hA.cell (World.block_lt_of_cell? _ _ c3)).trans c3
  have hnB : ¬ lexO X v w.heap.size := fun e => e.elim (fun e => by omega) (fun e => own_old h (Nat.le_refl _) _ e rfl)
  have hsz : (w.alloc (.cells #[.int .i64 0, .string ⟨#[]⟩] 29)).heap.size = w.heap.size + 1 := by simp
  have hkA : Keeps (lexO X v) w (w.alloc (.cells #[.int .i64 0, .string ⟨#[]⟩] 29)) := Keeps.of_below' hA
  have Hout := Lib.hid hout
  have H := Lib.hid h
  have Hr := Lib.hid hr
  have HkA := Lib.hid hkA
  have Hsz := Lib.hid hsz
  clear hout h hr hTB hTB1 h1 hA hkA hsz
  go_enter Tryz.func63, Tryz.ntmps63
  go_wp2_with (go_at_call 64; refine (Hout.out).mono ?_; rintro e w2 ⟨v', R, rfl, hRd, h2, hk2, hv2⟩; have a1 := hk2.heap Hr.out hnB; have a2 := HkA.out.trans hk2; have r0 : w2.cell? ⟨w.heap.size, 0, none⟩ = some _ := cell_of_block a1 rfl; have r1 : w2.cell? ⟨w.heap.size, 1, none⟩ = some _ := cell_of_block a1 rfl; have rf0 := frozen_of_row w2 w.heap.size 0 _ _ a1; have rf1 := frozen_of_row w2 w.heap.size 1 _ _ a1; have HRd := Lib.hid hRd; have H2 := Lib.hid h2; have A1 := Lib.hid a1; have A2 := Lib.hid a2; have Hv2 := Lib.hid hv2; clear hRd h2 hk2 hv2 a1 a2)
  have hvB : ∀ g, some g = v'.ownBlock → ¬ g = w.heap.size := fun g hg e => by
    rcases Hv2.out with hv | ⟨g', hv, hg'⟩
    · exact own_old H.out (Nat.le_refl _) g (hg.trans hv) e
    · rw [hv] at hg; cases hg; rw [Hsz.out] at hg'; omega
  obtain ⟨e2, hL', hBl⟩ := in_done (v := v) A2.out H2.out A1.out hX (Nat.le_refl _) hvB (.int .i64 ((outN (s.data.toList.drop at') st).1 : Int)) (.string R)
  have q0 := cell_of_block e2 (o := 0) rfl
  have q1 := cell_of_block e2 (o := 1) rfl
  refine bodyPost_ret (v := .agg #[.int .i64 ((outN (s.data.toList.drop at') st).1 : Int), .string R]) (by simp [results, Tryz.results63, go_sem, q0, q1]) rfl ⟨_, _, rfl, HRd.out, hL', hBl, ?_⟩
  rcases Hv2.out with hv | ⟨g', hv, hg'⟩
  · exact .inl hv
  · exact .inr ⟨g', hv, by rw [Hsz.out] at hg'; omega⟩
end Go.Proofs.YtiinhkfbgecbjaaGreatDoor
