/- One step of the lexer outside of strings. Its condition: how the lexer and its table lie in memory; a text of at most 65536 bytes. -/
import Derived.Test.YtiinhkfbgecbjaaGreatDoorLx10
import Derived.Laws.EntriesVeiled
namespace Go.Proofs.YtiinhkfbgecbjaaGreatDoor
set_option linter.unusedSimpArgs false
set_option linter.unusedVariables false
open Go.RowKit Go.Sub

theorem behindN_le (c : UInt8) {f : List UInt8 → Nat} (hf : ∀ l, f l ≤ l.length) (l : List UInt8) : behindN c f l ≤ l.length := by
  match l with
  | [] => simp [behindN]
  | b :: r =>
    have := hf r
    show (if b == c then (if f r = 0 then 0 else f r + 1) else 0) ≤ _
    split
    · split <;> simp only [List.length_cons] <;> omega
    · omega
theorem quoteN_le (l : List UInt8) : quoteN l ≤ l.length := by have := quote_len l; omega
theorem operN_le (l : List UInt8) : operN l ≤ l.length := by
  unfold operN
  cases h : opsL.find? fun o => Lib.hasPrefix l o with
  | none => simp
  | some x => exact Lib.hasPrefix_le (List.find?_some h)
theorem tries_le : ∀ x ∈ triesL, ∀ l, x.2.2 l ≤ l.length := by
  intro x hx l
  simp only [triesL, List.mem_cons, List.not_mem_nil, or_false] at hx
  rcases hx with rfl | rfl | rfl | rfl | rfl | rfl | rfl | rfl | rfl
  · exact runOf_le _ l
  · exact noteN_le l
  · exact wordN_le l
  · exact behindN_le _ simpleN_le l
  · exact behindN_le _ wordN_le l
  · exact behindN_le _ (runOf_le isPart) l
  · exact numberN_le l
  · exact quoteN_le l
  · exact operN_le l
set_option maxRecDepth 100000 in
theorem tries_enter : ∀ x ∈ triesL, ∀ args w, (callFunc x.2.1 args).run Tryz.prog w = .ok (.enter x.2.1 args) w := by
  intro x hx
  simp only [triesL, List.mem_cons, List.not_mem_nil, or_false] at hx
  rcases hx with rfl | rfl | rfl | rfl | rfl | rfl | rfl | rfl | rfl <;> exact fun _ _ => rfl
theorem tries_kind : ∀ x ∈ triesL, x.1 ≤ 13 := by
  intro x hx
  simp only [triesL, List.mem_cons, List.not_mem_nil, or_false] at hx
  rcases hx with rfl | rfl | rfl | rfl | rfl | rfl | rfl | rfl | rfl <;> decide
theorem tries_cells (k : Nat) (x : Nat × Nat × (List UInt8 → Nat)) (h : triesL[k]? = some x) : triesC[2 * k]? = some (.int .i64 (x.1 : Int)) ∧ triesC[2 * k + 1]? = some (.func (.func x.2.1) #[] #[]) := by
  have hk : k < 9 := (List.getElem?_eq_some_iff.1 h).1
  have hks : k = 0 ∨ k = 1 ∨ k = 2 ∨ k = 3 ∨ k = 4 ∨ k = 5 ∨ k = 6 ∨ k = 7 ∨ k = 8 := by omega
  rcases hks with rfl | rfl | rfl | rfl | rfl | rfl | rfl | rfl | rfl <;> (cases Option.some.inj h; exact ⟨rfl, rfl⟩)
def outN (l : List UInt8) (st : List Nat) : Step5 := match triesL.find? (fun x => decide (0 < x.2.2 l)) with
  | none => (0, 0, st, false, 11)
  | some x => ((brkN st x.1 (l.take (x.2.2 l))).2.1, x.2.2 l, (brkN st x.1 (l.take (x.2.2 l))).1, (brkN st x.1 (l.take (x.2.2 l))).2.2 || (x.1 == 7), 0)
theorem outN_none {l : List UInt8} {st : List Nat} (h : ∀ x ∈ triesL, x.2.2 l = 0) : outN l st = (0, 0, st, false, 11) := by
  unfold outN
  rw [List.find?_eq_none.2 (fun x hx => by rw [h x hx]; simp)]
theorem outN_some {l : List UInt8} {st : List Nat} {k : Nat} {x : Nat × Nat × (List UInt8 → Nat)} (hx : triesL[k]? = some x) (h : ∀ y ∈ triesL.take k, y.2.2 l = 0) (h0 : 0 < x.2.2 l) :
    outN l st = ((brkN st x.1 (l.take (x.2.2 l))).2.1, x.2.2 l, (brkN st x.1 (l.take (x.2.2 l))).1, (brkN st x.1 (l.take (x.2.2 l))).2.2 || (x.1 == 7), 0) := by
  have hf : triesL.find? (fun x => decide (0 < x.2.2 l)) = some x := by
    have e : triesL = triesL.take k ++ x :: triesL.drop (k + 1) := by
      obtain ⟨hk, rfl⟩ := List.getElem?_eq_some_iff.1 hx
      rw [← List.drop_eq_getElem_cons hk, List.take_append_drop]
    rw [e, List.find?_append, List.find?_eq_none.2 (fun y hy => by rw [h y hy]; simp)]
    rw [Option.none_or, List.find?_cons_of_pos (by simpa using h0)]
  unfold outN
  rw [hf]
variable {w : World} {X TB : Nat} {s : ByteArray} {at' : Nat} {v : Value} {st : List Nat} {inn : Bool} {er : Int}

theorem out_after {wr w2 : World} {c cs : Array Value} {t t' : TypeId} (hB : Below w.heap.size w wr) (hr : wr.heap[w.heap.size]? = some (.cells c t (0, 0))) (hb : Below (wr.alloc (.cells cs t')).heap.size (wr.alloc (.cells cs t')) w2) :
    Below w.heap.size w w2 ∧ w2.heap[w.heap.size]? = some (.cells c t (0, 0)) ∧ w2.heap[wr.heap.size]? = some (.cells cs t' (0, 0)) := by
  have hk : Below wr.heap.size wr w2 := ((Below.refl _ _).alloc (Nat.le_refl _) _).trans (hb.mono (by simp))
  exact ⟨hB.trans (hk.mono hB.size), (hk.block _ (heap_lt hr)).trans hr, (hb.block _ (by simp)).trans (World.alloc_heap_new wr _)⟩

theorem out_tok {w2 : World} {c : Array Value} {t : TypeId} {kd : Nat} {R : ByteArray} (h2 : LexSt w2 X s at' v st inn er) (hr : w2.heap[w.heap.size]? = some (.cells c t (0, 0))) (hB : Below w.heap.size w w2) :
    LexSt (w2.alloc (.cells #[.int .i64 (kd : Int), .string R] 29)).drew X s at' v st inn er ∧ TokAt (w2.alloc (.cells #[.int .i64 (kd : Int), .string R] 29)).drew w2.heap.size kd R ∧ (w2.alloc (.cells #[.int .i64 (kd : Int), .string R] 29)).drew.heap[w.heap.size]? = some (.cells c t (0, 0)) ∧ Below w.heap.size w (w2.alloc (.cells #[.int .i64 (kd : Int), .string R] 29)).drew ∧ w.heap.size < w2.heap.size := by
  have k : Below w2.heap.size w2 (w2.alloc (.cells #[.int .i64 (kd : Int), .string R] 29)).drew := ((Below.refl _ _).alloc (Nat.le_refl _) _).trans ⟨rfl, rfl, rfl, Nat.le_refl _, fun _ _ => rfl⟩
  have hl := heap_lt hr
  exact ⟨h2.below k, World.alloc_heap_new w2 _, (k.block _ hl).trans hr, hB.trans (k.mono hB.size), hl⟩
theorem out_brk {W3 : World} {T : Nat} {c : Array Value} {t : TypeId} {kd : Nat} {R : ByteArray} {b0 : Bool} (h : LexSt w X s at' v st b0 er) (h3 : LexSt W3 X s at' v st inn er) (tk : TokAt W3 T kd R) (hr : W3.heap[w.heap.size]? = some (.cells c t (0, 0))) (hB : Below w.heap.size w W3) (hT : w.heap.size < T) (hX : X < w.heap.size) (hb : ∀ x ∈ st, x ≤ 70000) (hk : kd ≤ 100) (b : Bool) :
    Calls Tryz.prog 91 #[.pointer (some ⟨X, 0, none⟩), .pointer (some ⟨T, 0, none⟩)] (W3.setCell ⟨X, 3, none⟩ (.bool b)) (Brk (W3.setCell ⟨X, 3, none⟩ (.bool b)) X T s at' v b er R (brkN st kd R.data.toList)) ∧
    (∀ e w5, Brk (W3.setCell ⟨X, 3, none⟩ (.bool b)) X T s at' v b er R (brkN st kd R.data.toList) e w5 → ∃ v', e = .returned (.tuple #[]) ∧ LexSt w5 X s at' v' (brkN st kd R.data.toList).1 ((brkN st kd R.data.toList).2.2 || b) er ∧ TokAt w5 T (brkN st kd R.data.toList).2.1 R ∧ w5.heap[w.heap.size]? = some (.cells c t (0, 0)) ∧ Keeps (lexO X v) w w5 ∧ v'.ownBlock = v.ownBlock) ∧ True ∧ True := by
  have hTX : T ≠ X := by omega
  have hTv : ¬ some T = v.ownBlock := fun e => own_old h (Nat.le_of_lt hT) T e rfl
  have k3 := keeps_setCell (O := lexO X v) W3 X 3 (.bool b) (.inl rfl)
  have k3' := keeps_setCell (O := fun x => x = X) W3 X 3 (.bool b) rfl
  refine ⟨bracket_calls (h3.setIn b) (k3'.heap tk hTX) hTX hTv hb hk, ?_, trivial, trivial⟩
  rintro e w5 ⟨v', rfl, h5, tk5, hk5, hv5⟩
  have hnB : ¬ lexO X v w.heap.size := fun e => e.elim (fun e => by omega) (fun e => own_old h (Nat.le_refl _) _ e rfl)
  have hnB2 : ¬ brkO X T v w.heap.size := fun e => e.elim (fun e => by omega) fun e => e.elim (fun e => by omega) (fun e => own_old h (Nat.le_refl _) _ e rfl)
  refine ⟨v', rfl, h5, tk5, hk5.heap (k3.heap hr hnB) hnB2, (((Keeps.of_below' hB).trans k3).trans' hk5 fun x hx e => ?_), hv5⟩
  rcases e with e | e | e
  · exact .inl e
  · omega
  · exact .inr e

set_option maxRecDepth 100000 in
set_option maxHeartbeats 4000000 in
theorem outside_calls (h : LexSt w X s at' v st false 0) (hTB : w.heap[TB]? = some (.cells triesC.toArray 103 (0, 0))) (hTX : TB ≠ X) (hTv : ¬ some TB = v.ownBlock) (hat : at' < s.size) (hs : s.size ≤ 65536) (hb : ∀ x ∈ st, x ≤ 70000) (hX : X < w.heap.size) :
    Calls Tryz.prog 64 #[.pointer (some ⟨X, 0, none⟩), .slice (some ⟨TB, 0, none⟩) 9 9] w (Stepped w X s at' v (outN (s.data.toList.drop at') st)) := by
  have c0 := h.c0
  have c1 := h.c1
  obtain ⟨L, hL⟩ : ∃ L, s.extract at' s.size = L := ⟨_, rfl⟩
  have hLd : L.data.toList = s.data.toList.drop at' := by rw [← hL, ext_data]
  have hLs : L.size = s.size - at' := by rw [← hL, ext_size]
  have hL0 : 0 < L.size := by omega
  rw [← hLd]
  have H := Lib.hid h
  have HLd := Lib.hid hLd
  have HTB := Lib.hid hTB
  clear hLd h hTB
  go_enter Tryz.func64, Tryz.ntmps64
  go_wp2
  go_quiet (fail)
  have hB0 : Below w.heap.size w ((w.alloc (.cells #[.int .i64 0, .string ⟨#[]⟩] 29)).drewN nq) := below_drewN ((Below.refl _ _).alloc (Nat.le_refl _) _) nq
  have hr0 : ((w.alloc (.cells #[.int .i64 0, .string ⟨#[]⟩] 29)).drewN nq).heap[w.heap.size]? = some (.cells #[.int .i64 0, .string ⟨#[]⟩] 29 (0, 0)) := World.alloc_heap_new w _
  have HB0 := Lib.hid hB0
  have Hr0 := Lib.hid hr0
  clear hB0 hr0
  go_wp2
  generalize (w.alloc (.cells #[.int .i64 0, .string ⟨#[]⟩] 29)).drewN nq = W0 at *
  clear c0 c1
  go_loopw [21] (fun i wr => ∃ k : Nat, k ≤ 9 ∧ i = .int .i64 k ∧ Hid (∀ y ∈ triesL.take k, y.2.2 L.data.toList = 0) ∧ Hid (wr.heap[w.heap.size]? = some (.cells #[.int .i64 0, .string ⟨#[]⟩] 29 (0, 0))) ∧ Below w.heap.size w wr) (fun i _ => 9 - (intOf i).toNat)
  case atStart => exact ⟨0, by omega, rfl, Lib.hid (by intro y hy; simp at hy), Hr0, HB0.out⟩
  case round =>
    clear HB0 Hr0
    obtain ⟨k, hk, rfl, Hno, Hr, hB⟩ := hrel
    by_cases hlt : k < 9
    · obtain ⟨x, hx⟩ : ∃ x, triesL[k]? = some x := ⟨_, List.getElem?_eq_getElem (show k < triesL.length from hlt)⟩
      have hmem := List.mem_of_getElem? hx
      have htell := tries_tell x hmem L
      have hle := tries_le x hmem L.data.toList
      rw [← Lib.size_eq] at hle
      have heg := tries_enter x hmem
      have hkd := tries_kind x hmem
      obtain ⟨t0, t1⟩ := tries_cells k x hx
      have hTBr : wr.heap[TB]? = some (.cells triesC.toArray 103 (0, 0)) := (hB.block TB (heap_lt HTB.out)).trans HTB.out
      have d0 : wr.cell? ⟨TB, k * 2, none⟩ = some (.int .i64 (x.1 : Int)) := cell_of_block hTBr (by rw [Nat.mul_comm]; simpa using t0)
      have d1 : wr.cell? ⟨TB, k * 2 + 1, none⟩ = some (.func (.func x.2.1) #[] #[]) := cell_of_block hTBr (by rw [Nat.mul_comm]; simpa using t1)
      have hout := outN_some (st := st) hx Hno.out
      have htake : triesL.take (k + 1) = triesL.take k ++ [x] := by rw [List.take_add_one, hx]; rfl
      have Htake := Lib.hid htake
      obtain ⟨kd, g, f⟩ := x
      dsimp only at *
      have Htell := Lib.hid htell
      have Heg := Lib.hid heg
      have Hout := Lib.hid hout
      clear htell heg hout htake hmem hx t0 t1 hTBr
      generalize hfn : f L.data.toList = n at *
      have Hfn := Lib.hid hfn
      clear hfn
      by_cases hn0 : n = 0
      · subst hn0
        go_wp2
        rw [Heg.out, Oper.upon_enter]
        refine (Htell.out _ hL0 (by omega)).mono ?_
        rintro e w2 ⟨rfl, hb2⟩
        obtain ⟨hB2, hr2, hq2⟩ := out_after hB Hr.out hb2
        clear hb2 d0 d1 Hr hB
        go_wp2
        go_roundw
        case rel => exact ⟨k + 1, by omega, by go_num, Lib.hid (by
          intro y hy
          rw [Htake.out] at hy
          rcases List.mem_append.1 hy with hy | hy
          · exact Hno.out y hy
          · simp only [List.mem_singleton] at hy; subst hy; exact Hfn.out), Lib.hid hr2, hB2⟩
        case measure => simp [intOf]; omega
      · have hnp : 0 < n := by omega
        go_wp2
        rw [Heg.out, Oper.upon_enter]
        refine (Htell.out _ hL0 (by omega)).mono ?_
        rintro e w2 ⟨rfl, hb2⟩
        obtain ⟨hB2, hr2, hq2⟩ := out_after hB Hr.out hb2
        have hwlt : w.heap.size < w2.heap.size := heap_lt hr2
        generalize wr.heap.size = Q at *
        have q0 : w2.cell? ⟨Q, 0, none⟩ = some (.int .i64 (kd : Int)) := cell_of_block hq2 rfl
        have hQ := heap_lt hq2
        have q0' : ∀ o, (w2.alloc o).cell? ⟨Q, 0, none⟩ = some (.int .i64 (kd : Int)) := fun o => cell_of_block ((Below.heap_alloc _ _ _ hQ).trans hq2) rfl
        have Hr2 := Lib.hid hr2
        have h2 := H.out.below hB2
        have c3 := h2.c3
        have f3 := h2.free 3
        have H2 := Lib.hid h2
        clear d0 d1 Hr hB hq2 hr2 h2 hb2
        go_wp2
        go_region
        obtain ⟨h3, tk3, hr3, hB3, hT3⟩ := out_tok H2.out Hr2.out hB2 (kd := kd) (R := L.extract 0 n)
        obtain ⟨b1, b2, b3, b4⟩ := out_brk H.out h3 tk3 hr3 hB3 hT3 hX hb (by omega) (kd == 7)
        have m0 := h3.c3
        have m1 := h3.free 3
        have m2 := tk3.k
        have hk7 : ((kd : Int) == 7) = (kd == 7) := by rw [Bool.eq_iff_iff, beq_iff_eq, beq_iff_eq]; omega
        have hLn : (L.extract 0 n).data.toList = L.data.toList.take n := by rw [Lib.extract_data]; simp
        rw [hLn] at b1 b2
        have Brc := Lib.hid b1
        have B2 := Lib.hid b2
        clear b1 b2 b3 b4 q0 q0' c3 f3
        generalize (w2.alloc (.cells #[.int .i64 (kd : Int), .string (L.extract 0 n)] 29)).drew = W3 at *
        generalize w2.heap.size = T at *
        have H3 := Lib.hid h3
        have Tk3 := Lib.hid tk3
        have Hr3 := Lib.hid hr3
        clear h3 tk3 hr3
        go_wp2_with (go_at_call 91; refine (Brc.out).mono ?_; rintro e w5 hbr; obtain ⟨v', rfl, h5, a1, a2, a3, a4⟩ := B2.out e w5 hbr; have z0 := a1.k; have z1 := a1.t; have r0 : w5.cell? ⟨w.heap.size, 0, none⟩ = some _ := cell_of_block a2 rfl; have r1 : w5.cell? ⟨w.heap.size, 1, none⟩ = some _ := cell_of_block a2 rfl; have rf0 := frozen_of_row w5 w.heap.size 0 _ _ a2; have rf1 := frozen_of_row w5 w.heap.size 1 _ _ a2; have H5 := Lib.hid h5; have A2 := Lib.hid a2; have A3 := Lib.hid a3; have A4 := Lib.hid a4; clear h5 a1 a2 a3 a4 hbr)
        rw [Hout.out hnp]
        generalize brkN st kd (L.data.toList.take n) = br at *
        obtain ⟨e2, hL', hBl⟩ := in_done (v := v) A3.out H5.out A2.out hX (Nat.le_refl _) (fun g hg => own_old H.out (Nat.le_refl _) g (hg.trans A4.out)) (.int .i64 (br.2.1 : Int)) (.string (L.extract 0 n))
        have q0 := cell_of_block e2 (o := 0) rfl
        have q1 := cell_of_block e2 (o := 1) rfl
        exact bodyPost_ret (v := .agg #[.int .i64 (br.2.1 : Int), .string (L.extract 0 n)]) (by simp [results, Tryz.results64, go_sem, q0, q1]) rfl ⟨_, _, rfl, by rw [hLn, HLd.out], hL', hBl, .inl A4.out⟩
    · obtain rfl : k = 9 := by omega
      have hnone := outN_none (st := st) (fun x hx => Hno.out x (by rw [List.take_of_length_le (by decide)]; exact hx))
      have Hnone := Lib.hid hnone
      clear hnone
      have h1 := H.out.below hB
      have c4 := h1.c4
      have f4 := h1.free 4
      have r0 : wr.cell? ⟨w.heap.size, 0, none⟩ = some _ := cell_of_block Hr.out rfl
      have r1 : wr.cell? ⟨w.heap.size, 1, none⟩ = some _ := cell_of_block Hr.out rfl
      have rf0 := frozen_of_row wr w.heap.size 0 _ _ Hr.out
      have rf1 := frozen_of_row wr w.heap.size 1 _ _ Hr.out
      have H1 := Lib.hid h1
      clear h1 Hno
      go_wp2
      rw [Hnone.out]
      have k4 := keeps_setCell (O := lexO X v) wr X 4 (.int .u16 11) (.inl rfl)
      have hnB : ¬ lexO X v w.heap.size := fun e => e.elim (fun e => by omega) (fun e => own_old H.out (Nat.le_refl _) _ e rfl)
      obtain ⟨e2, hL', hBl⟩ := in_done (v := v) ((Keeps.of_below' hB).trans k4) (H1.out.setErr 11) (k4.heap Hr.out hnB) hX (Nat.le_refl _) (own_old H.out (Nat.le_refl _)) (.int .i64 0) (.string ⟨#[]⟩)
      have q0 := cell_of_block e2 (o := 0) rfl
      have q1 := cell_of_block e2 (o := 1) rfl
      exact bodyPost_ret (v := .agg #[.int .i64 0, .string ⟨#[]⟩]) (by simp [results, Tryz.results64, go_sem, q0, q1]) rfl ⟨_, _, rfl, rfl, hL', hBl, .inl rfl⟩
end Go.Proofs.YtiinhkfbgecbjaaGreatDoor
