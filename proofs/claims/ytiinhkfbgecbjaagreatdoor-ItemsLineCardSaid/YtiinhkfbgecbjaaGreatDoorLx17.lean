/- The lexer's tokens, collected. Its condition: how the lexer lies in memory; a text of at most 65536 bytes. -/
import Derived.Test.YtiinhkfbgecbjaaGreatDoorLx16
namespace Go.Proofs.YtiinhkfbgecbjaaGreatDoor
set_option linter.unusedSimpArgs false
set_option linter.unusedVariables false
open Go.RowKit Go.Sub
attribute [local go_sem] Oper.semAt_some

/-- the cells of tokens in a list -/
def tokC (l : List UInt8) (ys : List Tok3) : List Value := ys.flatMap fun x => [.int .i64 (x.1 : Int), .string ⟨((l.drop x.2.1).take x.2.2).toArray⟩]
theorem tokC_snoc (l : List UInt8) (ys : List Tok3) (x : Tok3) : tokC l (ys ++ [x]) = tokC l ys ++ [.int .i64 (x.1 : Int), .string ⟨((l.drop x.2.1).take x.2.2).toArray⟩] := by unfold tokC; simp
/-- how the lexer's block lies at the end, and what has been told -/
def Told (s : ByteArray) (X : Nat) (ys : List Tok3) (W : World) : Prop :=
  ∃ (at' : Nat) (v : Value) (inn : Bool) (er : Nat), W.heap[X]? = some (.cells #[.string s, .int .i64 (at' : Int), v, .bool inn, .int .u16 (er : Int)] 80 (0, 0)) ∧ at' ≤ s.size ∧ lexN (s.size + 1) s.data.toList 0 [] false = (ys, er, at')
theorem told_of {s : ByteArray} {X : Nat} {ys : List Tok3} {W : World} (h : Done s X ys W) : Told s X ys W := by
  obtain ⟨at', v, st2, inn2, er, hl, hr⟩ := done_run h
  obtain ⟨at2, st, inn, v2, st3, inn3, er2, hreach, hl2, hd⟩ := h
  obtain ⟨f1, _, _, f4⟩ := reach_facts hreach
  rw [← Lib.size_eq] at f1
  have he : at' = at2 := by
    have a := hl.blk
    rw [hl2.blk] at a
    simp only [Option.some.injEq, Obj.cells.injEq, Array.mk.injEq, List.cons.injEq, Value.int.injEq, true_and] at a
    omega
  refine ⟨at', v, inn2, er, hl.blk, by omega, ?_⟩
  have := hr (s.size - ys.length)
  rwa [show ys.length + (s.size - ys.length + 1) = s.size + 1 by omega] at this
theorem told_keeps {s : ByteArray} {X : Nat} {ys : List Tok3} {A B : World} {O : Nat → Prop} (h : Told s X ys A) (hk : Keeps O A B) (hX : ¬ O X) : Told s X ys B := by
  obtain ⟨at', v, inn, er, h1, h2, h3⟩ := h
  exact ⟨at', v, inn, er, hk.heap h1 hX, h2, h3⟩
theorem seqO_mono {α : Type} {F : Fence} {n : Nat} {P : Program} {g : Nat} {lb : Array Value} {encs : α → Array Value} {M R : Nat → Prop} {S S' Sp : List α → World → Prop} {N : Nat} {w : World} (h : SeqO F n P g lb encs M R S Sp N w) (hS : ∀ xs W, S xs W → S' xs W) : SeqO F n P g lb encs M R S' Sp N w :=
  fun l J Jx W O a b c d e => (h l J Jx W O a b c d e).mono fun en W' ⟨h1, h2⟩ => ⟨h1, h2.imp (fun ⟨xs, O', s, j⟩ => ⟨xs, O', hS _ _ s, j⟩) id⟩

theorem tok_info : (Tryz.prog.info? 29).map (fun i => (i.zero, i.size, i.bytes)) = some (some (.agg #[.int .i64 0, .string ByteArray.empty]), 2, 24) := by kernel_rfl
theorem toks_und : Tryz.prog.underlying 23 = some (.slice 29) := by kernel_rfl
def AppI (l : List UInt8) (X : Nat) (w : World) (pre : List Tok3) (O : Nat → Prop) (W : World) : Prop :=
  ∃ v, (∀ b, O b ↔ (b = w.heap.size ∨ some b = v.ownBlock)) ∧ Boxed W w.heap.size 23 v ∧ W.ownsRow w.heap.size 29 2 v pre.length (tokC l pre) ∧ Keeps (fun b => b = X) w W
def NoIx {α : Type} (_ : Code) (_ : List α) (_ : Nat → Prop) (_ : World) : Prop := False

set_option maxRecDepth 100000 in
set_option maxHeartbeats 2000000 in
theorem appendSeq_in (n : Nat) (hn : 5 ≤ n) (X B1 : Nat) (s : ByteArray) (hs : s.size ≤ 65536) (hd1 : B1 ≠ X) (w : World) (hst : LexSt w X s 0 (.slice none 0 0) [] false 0) (hb1 : Boxed w B1 76 (.pointer (some ⟨X, 0, none⟩))) :
    CallsIn Fence.wide n Tryz.prog 59 #[.slice none 0 0, .func (.func 60) #[] #[.pointer (some ⟨B1, 0, none⟩)]] w fun e W' => ∃ v ys, e = .returned v ∧ Told s X ys W' ∧ W'.ownsRow w.heap.size 29 2 v ys.length (tokC s.data.toList ys) ∧ Keeps (fun b => b = X) w W' := by
  have h1 : 1 ≤ n := by omega
  obtain ⟨i0, hi, hz0, hz1, hz2⟩ := info_parts tok_info
  refine callsIn_of_wp_marks Tryz.func59 rfl trivial ?_ rfl
  simp only [Tryz.ntmps59, List.size_toArray, List.length_cons, List.length_nil, Nat.reduceAdd, Nat.reduceSub, Array.replicate_succ, Array.replicate_zero, List.push_toArray, List.append_toArray, List.nil_append, List.cons_append]
  gi_wp2
  have bO := Boxed.new w 23 (.slice none 0 0)
  obtain ⟨W0, hW0⟩ : ∃ W0, w.alloc (.cells #[.slice none 0 0] 23) = W0 := ⟨_, rfl⟩
  have hsz : W0.heap.size = w.heap.size + 1 := by rw [← hW0]; simp
  have hB0 : Below w.heap.size w W0 := by rw [← hW0]; exact (Below.refl _ w).alloc (Nat.le_refl _) _
  have hXl : X < w.heap.size := heap_lt hst.blk
  have hBl : B1 < w.heap.size := hb1.lt
  have hst0 : LexSt W0 X s 0 (.slice none 0 0) [] false 0 := hst.below hB0
  have hb10 : Boxed W0 B1 76 (.pointer (some ⟨X, 0, none⟩)) := boxed_keeps hb1 (Keeps.of_below' (O := fun _ => False) hB0) (fun h => h)
  rw [hW0] at bO ⊢
  clear hW0
  refine wpIn_rangeFunc_O rfl h1 (gf := 60) (lb := #[.pointer (some ⟨B1, 0, none⟩)]) rfl trivial (enters_of Tryz.func60 (by kernel_rfl) rfl)
    (seqO_mono (lex_stops (n - 1) (by omega) X B1 s hs hd1 W0 hst0 hb10) (fun xs W h => told_of h)) (Below.refl _ _) (fun _ => rfl) (fun b h => by omega) (fun b h => by omega)
    (fun _ _ _ h hk => told_keeps h hk (by omega)) (fun _ _ _ h _ => h)
    (AppI s.data.toList X w) NoIx (fun b => b = w.heap.size) (fun b h => ⟨by omega, by omega, by omega⟩)
    ?hI (fun _ _ _ _ _ h _ => h.elim) ⟨_, fun b => by simp [Value.ownBlock], bO, World.ownsRow_nil _ _ _ _, Keeps.of_below' hB0⟩ ?hround ?hdone (fun _ _ _ _ _ _ _ h _ _ => h.elim)
  case hI =>
    rintro pre O A B ⟨v, hO, hv, hrow, hB⟩ hk
    exact ⟨v, hO, boxed_keeps hv hk (fun h => h.1 ((hO _).2 (.inl rfl))), ownsRow_keeps hrow hk (fun g hg h => h.1 ((hO _).2 (.inr hg))), hB.trans' hk fun b hb h => h.2.elim id fun h => by omega⟩
  case hround =>
    rintro l pre x W O - hlt hOl hs
    unfold tokV
    obtain ⟨kd, hkd⟩ : ∃ kd, Value.int .i64 (x.1 : Int) = kd := ⟨_, rfl⟩
    obtain ⟨tx, htx⟩ : ∃ tx, Value.string ⟨((s.data.toList.drop x.2.1).take x.2.2).toArray⟩ = tx := ⟨_, rfl⟩
    have hsnoc := tokC_snoc s.data.toList pre x
    have o1 : kd.oneCell' = true := by rw [← hkd]; rfl
    have o2 : tx.oneCell' = true := by rw [← htx]; rfl
    rw [hkd, htx] at hsnoc
    have Hkd := Lib.hid hkd
    have Htx := Lib.hid htx
    clear hkd htx
    gi_wp2
    rw [Hkd.out, Htx.out]
    refine ⟨Keeps.alloc _ _ _, fun Wb hkb hsb ⟨v, hO, hv, hrow, hB⟩ hl => ?_⟩
    have hblk : Wb.heap[W.heap.size]? = some (.cells #[kd, tx] 29 (0, 0)) := hkb.heap (World.alloc_heap_new _ _) (by omega)
    have q0 : Wb.cell? ⟨W.heap.size, 0, none⟩ = some kd := cell_of_block hblk rfl
    have q1 : Wb.cell? ⟨W.heap.size, 1, none⟩ = some tx := cell_of_block hblk rfl
    have hc := hv.cell
    have hszb : Wb.heap.size = W.heap.size + 1 := by rw [hsb]; simp
    have Hszb := Lib.hid hszb
    have Hsnoc := Lib.hid hsnoc
    have hnew : ∀ (j : Nat) u, [kd, tx][j]? = some u → (Wb.alloc (.cells #[kd, tx] 29)).cell? ((⟨Wb.heap.size, 0, none⟩ : Addr).add j) = some u := by
      intro j u hu
      have hb := World.alloc_heap_new Wb (.cells #[kd, tx] 29)
      match j, hu with
      | 0, hu => rw [show (⟨Wb.heap.size, 0, none⟩ : Addr).add 0 = ⟨Wb.heap.size, 0, none⟩ by unfold Addr.add; split <;> simp_all]; rw [← hu]; exact cell_of_block hb rfl
      | 1, hu => rw [show (⟨Wb.heap.size, 0, none⟩ : Addr).add 1 = ⟨Wb.heap.size, 1, none⟩ by unfold Addr.add; split <;> simp_all]; rw [← hu]; exact cell_of_block hb rfl
      | j + 2, hu => simp at hu
    clear hsb hszb hsnoc hblk Hkd Htx
    gi_wp2_with (gi_at_builtin; refine wpListIn_append_O _ rfl _ _ 23 rfl w.heap.size 29 i0 (.agg #[.int .i64 0, .string ByteArray.empty]) 2 24 toks_und hi hz0 hz1 hz2 rfl (by decide) _ _ _ rfl (hrow.alloc _) ⟨Wb.heap.size, 0, none⟩ 1 1 [kd, tx] rfl rfl hnew (by intro u hu; simp at hu; rcases hu with rfl | rfl <;> assumption) (by simp only [maxLen]; omega) (by omega) (by have := hB.size; simp; omega) ?_; intro v' w1 hown' hkeep hblk' _; obtain ⟨g', cap', rfl⟩ := own_succ hown'; obtain ⟨hv1, hv2, hr2, hk2, hb2⟩ := appended hv (by decide) hrow hown' hkeep (by rw [World.size_alloc] at hblk'; exact hblk'); have hc1 := hv1.cell; have hf1 := hv1.frozen)
    refine ⟨fun b => b = w.heap.size ∨ some b = (Value.slice (some ⟨g', 0, none⟩) (pre.length + 1) cap').ownBlock, hk2.mono (fun b _ h => .inl ((hO b).2 h)), fun b hb => ?_, _, fun b => Iff.rfl, hv2, by rw [Hsnoc.out, List.length_append]; exact hr2, hB.trans' hk2 fun b hb h => ?_⟩
    · rcases hb with rfl | hb
      · exact ⟨.inl ((hO _).2 (.inl rfl)), Nat.lt_of_lt_of_le hv.lt hk2.size⟩
      · exact ⟨(hb2 b hb).1.imp (fun h => (hO b).2 (.inr h)) (fun h => by have := Hszb.out; omega), (hb2 b hb).2⟩
    · rcases h with rfl | h
      · omega
      · have := (hrow.lt b h.symm).1; omega
  case hdone =>
    rintro D ys W O hD hS ⟨v, hO, hv, hrow, hB⟩ hOD hK
    have hc := hv.cell
    have hkD : Keeps (fun b => b = D) W (W.putObj D (.deferred none)) := Keeps.putObj _ _ _ rfl
    gi_wp2
    refine ⟨by simp, .inl ⟨_, _, rfl, run_takeDeferred hK, ?_⟩⟩
    exact ⟨_, results_tmp rfl _ _ _, v, ys, rfl, told_keeps hS hkD (by omega), ownsRow_keeps hrow hkD (fun g hg e => hOD ((hO D).2 (.inr (by rw [← e]; exact hg)))), hB.trans' hkD fun b hb e => by omega⟩
end Go.Proofs.YtiinhkfbgecbjaaGreatDoor
