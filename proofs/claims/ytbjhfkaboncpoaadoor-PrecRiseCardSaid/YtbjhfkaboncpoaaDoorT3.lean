/- The table of operators, and the list of them, as the program makes them; the table of blanks being laid. -/
import Derived.Test.YtbjhfkaboncpoaaDoorT2
import Derived.Test.YtbjhfkaboncpoaaDoorMapS
import Derived.Test.YtbjhfkaboncpoaaDoorAppend
namespace Go.Proofs.YtbjhfkaboncpoaaDoor
open Go.RowKit Go.Shelf Go.Sub
attribute [local go_sem] Oper.semAt_some

def kvX (x : OpX) : ByteArray × Value := (x.1, .agg #[.int .i64 x.2.1, .int .i64 x.2.2])
def putAll (l : List OpX) : List (ByteArray × Value) := l.foldl (fun kvs x => putS kvs (kvX x).1 (kvX x).2) []
theorem putAll_snoc (l : List OpX) (x : OpX) : putAll (l ++ [x]) = putS (putAll l) x.1 (.agg #[.int .i64 x.2.1, .int .i64 x.2.2]) := by simp [putAll, kvX]
def opsKV : List (ByteArray × Value) := putAll opsX
theorem map41 : Tryd.prog.underlying 41 = some (.map 9 40) := by kernel_rfl
theorem str9 : Tryd.prog.underlying 9 = some .string := by kernel_rfl
def TableI (w : World) (l : List OpX) (O : Nat → Prop) (W : World) : Prop :=
  O = (fun b => b = w.heap.size) ∧ W.cell? ⟨w.heap.size + 1, 0, none⟩ = some (.map (some w.heap.size)) ∧ W.heap[w.heap.size]? = some (mapObj (putAll l)) ∧ Below w.heap.size w W
def NoI {α : Type} (_ : Code) (_ : List α) (_ : Nat → Prop) (_ : World) : Prop := False

set_option maxRecDepth 100000 in
set_option maxHeartbeats 1000000 in
theorem table_in (n : Nat) (hn : 3 ≤ n) (w : World) (hT : TabX w) :
    CallsIn Fence.wide n Tryd.prog 21 #[] w fun e W' => e = .returned (.map (some w.heap.size)) ∧ W'.heap[w.heap.size]? = some (mapObj opsKV) ∧ Below w.heap.size w W' := by
  have h1 : 1 ≤ n := by omega
  have h0 : 0 < w.heap.size := World.block_lt_of_cell? _ _ (hT 0 (by omega))
  have hmm := @run_makeMap Tryd.prog
  refine callsIn_of_wp_marks Tryd.func21 rfl trivial ?_ rfl
  simp only [Tryd.ntmps21, List.size_toArray, List.length_cons, List.length_nil, Nat.reduceAdd, Nat.reduceSub, Array.replicate_succ, Array.replicate_zero, List.push_toArray, List.append_toArray, List.nil_append, List.cons_append]
  gi_wp2_with (refine ⟨trivial, ?_⟩; gi_at_call 19; refine (each_in (n - 1) _).mono ?_; rintro e w' ⟨rfl, rfl⟩)
  obtain ⟨W0, hW0⟩ : ∃ W0, (w.alloc (.map #[] 0)).alloc (.cells #[.map (some w.heap.size)] 41) = W0 := ⟨_, rfl⟩
  have hsz : W0.heap.size = w.heap.size + 2 := by rw [← hW0]; simp
  have hB0 : Below w.heap.size w W0 := by rw [← hW0]; exact ((Below.refl _ w).alloc (Nat.le_refl _) _).alloc (by simp) _
  have hT0 : TabX W0 := hT.below hB0
  have hc0 : W0.cell? ⟨w.heap.size + 1, 0, none⟩ = some (.map (some w.heap.size)) := by
    have := (Boxed.new (w.alloc (.map #[] 0)) 41 (.map (some w.heap.size))).cell
    rw [hW0] at this; simpa using this
  have hm0 : W0.heap[w.heap.size]? = some (mapObj (putAll [])) := by
    rw [← hW0]; exact (Below.heap_alloc _ _ _ (by simp)).trans (World.alloc_heap_new _ _)
  rw [hW0]
  clear hW0 hmm
  refine wpIn_rangeFunc_O rfl h1 (gf := 28) (lb := #[]) rfl trivial (enters_of Tryd.func28 (by kernel_rfl) rfl)
    (each_stops (n - 1) (by omega) W0 hT0) (Below.refl _ _) (fun _ => rfl) (fun _ h => h.elim) (fun b h => by omega) (fun _ _ _ h _ => h) (fun _ _ _ h _ => h)
    (TableI w) NoI (fun b => b = w.heap.size) (fun b h => ⟨by omega, fun h => h, by omega⟩)
    ?hI (fun _ _ _ _ _ h _ => h.elim) ⟨rfl, hc0, hm0, hB0⟩ ?hround ?hdone (fun _ _ _ _ _ _ _ h _ _ => h.elim)
  case hI =>
    rintro pre O A B ⟨rfl, hc, hm, hB⟩ hk
    exact ⟨rfl, hk.cell hc (fun h => by have := h.2; simp at this; omega), hk.heap hm (fun h => by have := h.2; simp at this; omega), hB.trans (hk.below hB.size fun b h => by have := h.2; simp at this; omega)⟩
  case hround =>
    rintro l pre x W O ⟨rfl, hc, hm, hB⟩ hlt hOl hs
    unfold encX
    gi_wp2
    refine ⟨Keeps.alloc _ _ _, fun Wb hkb hsb ⟨_, hc, hm, hB⟩ hl => ?_⟩
    have hcb0 : Wb.cell? ⟨W.heap.size, 0, none⟩ = some (.int .i64 x.2.1) := cell_of_heap (hkb.heap (World.alloc_heap_new W _) (by omega)) rfl
    have hcb1 : Wb.cell? ⟨W.heap.size, 1, none⟩ = some (.int .i64 x.2.2) := cell_of_heap (hkb.heap (World.alloc_heap_new W _) (by omega)) rfl
    have hup := run_mapUpdate (P := Tryd.prog) map41 str9 hm x.1 (.agg #[.int .i64 x.2.1, .int .i64 x.2.2])
    have hfin : ∀ o, Below w.heap.size w (Wb.putObj w.heap.size o) := fun o => hB.trans ((Keeps.putObj (O := fun b => b = w.heap.size) Wb w.heap.size o rfl).below hB.size fun b h => by omega)
    have hcf : ∀ o, (Wb.putObj w.heap.size o).cell? ⟨w.heap.size + 1, 0, none⟩ = some (.map (some w.heap.size)) := fun o => (Keeps.putObj (O := fun b => b = w.heap.size) Wb w.heap.size o rfl).cell hc (by omega)
    gi_wp2
    refine ⟨_, Keeps.putObj _ _ _ (.inl rfl), fun b hb => ⟨.inl hb, ?_⟩, rfl, hcf _, ?_, hfin _⟩
    · have := heap_lt hm; simp [World.putObj]; omega
    · rw [World.putObj_heap_same (heap_lt hm), putAll_snoc]
  case hdone =>
    rintro D ys W O hD rfl ⟨rfl, hc, hm, hB⟩ hOD hK
    gi_wp2
    refine ⟨by simp, .inl ⟨_, _, rfl, run_takeDeferred hK, ?_⟩⟩
    refine ⟨_, results_tmp rfl _ _ _, rfl, ?_, hB.trans (belowK_b (w := w) (Nat.le_refl _) W D _ _ (by omega) hK rfl rfl)⟩
    rw [World.putObj_heap_other (by omega)]; exact hm

theorem info9 : (Tryd.prog.info? 9).map (fun i => (i.zero, i.size, i.bytes)) = some (some (.string ByteArray.empty), 1, 16) := by kernel_rfl
def strsOf (l : List OpX) : List Value := l.map fun x => Value.string x.1
def OpersI (w : World) (l : List OpX) (O : Nat → Prop) (W : World) : Prop :=
  ∃ v, (∀ b, O b ↔ (b = w.heap.size ∨ some b = v.ownBlock)) ∧ Boxed W w.heap.size 22 v ∧ W.ownsRow w.heap.size 9 1 v l.length (strsOf l) ∧ Below w.heap.size w W
theorem slice22 : Tryd.prog.underlying 22 = some (.slice 9) := by kernel_rfl

set_option maxHeartbeats 400000 in
theorem clip_calls (b : Nat) (len cap : Nat) (hl : len ≤ cap) (hc : cap ≤ maxLen) (w : World) :
    Calls Tryd.prog 20 #[.slice (some ⟨b, 0, none⟩) len cap] w fun e w' => e = .returned (.slice (some ⟨b, 0, none⟩) len len) ∧ w' = w := by
  unfold maxLen at hc
  go_enter Tryd.func20, Tryd.ntmps20
  go_wp2
  go_ret
  exact ⟨rfl, rfl⟩

set_option maxRecDepth 100000 in
set_option maxHeartbeats 1000000 in
theorem opers_in (n : Nat) (hn : 3 ≤ n) (w : World) (hT : TabX w) :
    CallsIn Fence.wide n Tryd.prog 8 #[] w fun e W' => ∃ b, e = .returned (.slice (some ⟨b, 0, none⟩) 24 24) ∧ (∀ i x, opsX[i]? = some x → W'.cell? ⟨b, i, none⟩ = some (.string x.1)) ∧ Below w.heap.size w W' := by
  have h1 : 1 ≤ n := by omega
  have h0 : 0 < w.heap.size := World.block_lt_of_cell? _ _ (hT 0 (by omega))
  obtain ⟨i0, hi, hz0, hz1, hz2⟩ := info_parts info9
  refine callsIn_of_wp_marks Tryd.func8 rfl trivial ?_ rfl
  simp only [Tryd.ntmps8, List.size_toArray, List.length_cons, List.length_nil, Nat.reduceAdd, Nat.reduceSub, Array.replicate_succ, Array.replicate_zero, List.push_toArray, List.append_toArray, List.nil_append, List.cons_append]
  gi_wp2_with (refine ⟨trivial, ?_⟩; gi_at_call 19; refine (each_in (n - 1) _).mono ?_; rintro e w' ⟨rfl, rfl⟩)
  have bO := Boxed.new w 22 (.slice none 0 0)
  obtain ⟨W0, hW0⟩ : ∃ W0, w.alloc (.cells #[.slice none 0 0] 22) = W0 := ⟨_, rfl⟩
  have hsz : W0.heap.size = w.heap.size + 1 := by rw [← hW0]; simp
  have hB0 : Below w.heap.size w W0 := by rw [← hW0]; exact (Below.refl _ w).alloc (Nat.le_refl _) _
  have hT0 : TabX W0 := hT.below hB0
  rw [hW0] at bO ⊢
  clear hW0
  refine wpIn_rangeFunc_O rfl h1 (gf := 28) (lb := #[]) rfl trivial (enters_of Tryd.func28 (by kernel_rfl) rfl)
    (each_stops (n - 1) (by omega) W0 hT0) (Below.refl _ _) (fun _ => rfl) (fun _ h => h.elim) (fun b h => by omega) (fun _ _ _ h _ => h) (fun _ _ _ h _ => h)
    (OpersI w) NoI (fun b => b = w.heap.size) (fun b h => ⟨by omega, fun h => h, by omega⟩)
    ?hI (fun _ _ _ _ _ h _ => h.elim) ⟨_, fun b => by simp [Value.ownBlock], bO, World.ownsRow_nil _ _ _ _, hB0⟩ ?hround ?hdone (fun _ _ _ _ _ _ _ h _ _ => h.elim)
  case hI =>
    rintro pre O A B ⟨v, hO, hv, hrow, hB⟩ hk
    exact ⟨v, hO, boxed_keeps hv hk (fun h => h.1 ((hO _).2 (.inl rfl))), ownsRow_keeps hrow hk (fun g hg h => h.1 ((hO _).2 (.inr hg))), hB.trans (hk.below hB.size fun b h => by have := h.2; simp at this; omega)⟩
  case hround =>
    rintro l pre x W O - hlt hOl hs
    unfold encX
    gi_wp2
    refine ⟨Keeps.refl _ _, fun Wb hkb hsb ⟨v, hO, hv, hrow, hB⟩ hl => ?_⟩
    have hc := hv.cell
    have Hsb := Lib.hid hsb
    clear hsb
    gi_wp2_with (gi_at_builtin; refine wpListIn_append_O _ rfl _ _ 22 rfl w.heap.size 9 i0 (.string ByteArray.empty) 1 16 slice22 hi hz0 hz1 hz2 rfl (by decide) _ _ _ rfl (hrow.alloc _) ⟨Wb.heap.size, 0, none⟩ 1 1 [.string x.1] rfl rfl (cell_one_new _ _ _) (by simp [Value.oneCell']) (by simp [maxLen]; omega) (by omega) (by have := hB.size; simp; omega) ?_; intro v' w1 hown' hkeep hnew _; obtain ⟨g', cap', rfl⟩ := ownsRow_succ hown'; obtain ⟨hv1, hv2, hr2, hk2, hb2⟩ := appended hv (by decide) hrow hown' hkeep (by rw [World.size_alloc] at hnew; exact hnew); have hc1 := hv1.cell; have hf1 := hv1.frozen)
    refine ⟨fun b => b = w.heap.size ∨ some b = (Value.slice (some ⟨g', 0, none⟩) (pre.length + 1) cap').ownBlock, hk2.mono (fun b _ h => .inl ((hO b).2 h)), fun b hb => ?_, _, fun b => Iff.rfl, hv2, by simpa [strsOf] using hr2, hB.trans (hk2.below hB.size fun b h => ?_)⟩
    · rcases hb with rfl | hb
      · exact ⟨.inl ((hO _).2 (.inl rfl)), Nat.lt_of_lt_of_le hv.lt hk2.size⟩
      · exact ⟨(hb2 b hb).1.imp (fun h => (hO b).2 (.inr h)) (fun h => by have := Hsb.out; omega), (hb2 b hb).2⟩
    · rcases h with rfl | h
      · exact Nat.le_refl _
      · exact (hrow.lt b h.symm).1
  case hdone =>
    rintro D ys W O hD rfl ⟨v, hO, hv, hrow, hB⟩ hOD hK
    have hc := hv.cell
    have hlen : opsX.length = 24 := opsX_length
    rw [hlen] at hrow
    obtain ⟨g, cap, rfl⟩ := ownsRow_succ hrow
    have hcells := hrow.cells (g := g) rfl
    have hgD : g ≠ D := fun e => hOD ((hO D).2 (.inr (by rw [e]; rfl)))
    have hcap : 24 ≤ cap := by
      rcases hrow.2 with ⟨h, _⟩ | ⟨_, _, _, h, _, _, hc, _⟩
      · cases h
      · cases h; exact hc
    have hcm : cap ≤ maxLen := by
      rcases hrow.2 with ⟨h, _⟩ | ⟨_, _, _, h, _, _, _, hc, _⟩
      · cases h
      · cases h; exact hc
    gi_wp2_with (refine ⟨trivial, ?_⟩; gi_at_call 20; refine (callsIn_wide.2 (clip_calls g 24 cap hcap hcm _)).mono ?_; rintro e w' ⟨rfl, rfl⟩)
    refine ⟨by simp, .inl ⟨_, _, rfl, run_takeDeferred hK, ?_⟩⟩
    refine ⟨_, results_tmp rfl _ _ _, g, rfl, fun i x hx => ?_, hB.trans (belowK_b (w := w) (Nat.le_refl _) w' D _ _ (by omega) hK rfl rfl)⟩
    have h2 := hcells i (.string x.1) (by simp [strsOf, hx])
    have e : (⟨g, 0, none⟩ : Addr).add i = ⟨g, i, none⟩ := by unfold Addr.add; split <;> simp_all
    rw [e] at h2
    exact (Keeps.putObj (O := fun b => b = D) w' D _ rfl).cell h2 hgD
theorem opers_calls (w : World) (hT : TabX w) :
    Calls Tryd.prog 8 #[] w fun e W' => ∃ b, e = .returned (.slice (some ⟨b, 0, none⟩) 24 24) ∧ (∀ i x, opsX[i]? = some x → W'.cell? ⟨b, i, none⟩ = some (.string x.1)) ∧ Below w.heap.size w W' :=
  callsIn_wide.1 (opers_in 3 (Nat.le_refl _) w hT)
end Go.Proofs.YtbjhfkaboncpoaaDoor
