/- Which operator the program reads at a text's front. No condition. -/
import Derived.Test.YtiinhkfbgecbjaaGreatDoorSg6
namespace Go.Proofs.YtiinhkfbgecbjaaGreatDoor
set_option linter.unusedSimpArgs false
set_option linter.unusedVariables false
open Go.RowKit Go.Sub
attribute [local go_sem] Oper.semAt_some

def operN (l : List UInt8) : Nat := ((opsL.find? fun o => Lib.hasPrefix l o).map List.length).getD 0
theorem operN_none (l : List UInt8) (h : ∀ x ∈ opsL, Lib.hasPrefix l x = false) : operN l = 0 := by
  unfold operN
  rw [List.find?_eq_none.2 (fun x hx => by rw [h x hx]; simp)]; rfl
theorem operN_some (l : List UInt8) (pre : List (List UInt8)) (x : List UInt8) (hp : pre ++ [x] <+: opsL) (h : ∀ y ∈ pre, Lib.hasPrefix l y = false) (hx : Lib.hasPrefix l x = true) : operN l = x.length := by
  obtain ⟨t, ht⟩ := hp
  unfold operN
  rw [← ht, List.append_assoc, List.find?_append, List.find?_eq_none.2 (fun y hy => by rw [h y hy]; simp)]
  simp [hx]

theorem splitSeq_calls (s p : ByteArray) (w : World) :
    Calls Tryz.prog 115 #[.string s, .string p, .int .i64 0] w fun e w' => e = .returned (.func (.func 124) #[] #[.pointer (some ⟨w.heap.size + 1, 0, none⟩), .pointer (some ⟨w.heap.size, 0, none⟩), .pointer (some ⟨w.heap.size + 1 + 1, 0, none⟩)]) ∧
      w' = ((w.alloc (.cells #[.string s] 9)).alloc (.cells #[.string p] 9)).alloc (.cells #[.int .i64 0] 3) := by
  go_enter Tryz.func115, Tryz.ntmps115
  go_wp2
  go_ret
  exact ⟨rfl, rfl⟩
theorem SplitSeq_calls (s p : ByteArray) (w : World) :
    Calls Tryz.prog 103 #[.string s, .string p] w fun e w' => e = .returned (.func (.func 124) #[] #[.pointer (some ⟨w.heap.size + 1, 0, none⟩), .pointer (some ⟨w.heap.size, 0, none⟩), .pointer (some ⟨w.heap.size + 1 + 1, 0, none⟩)]) ∧
      w' = ((w.alloc (.cells #[.string s] 9)).alloc (.cells #[.string p] 9)).alloc (.cells #[.int .i64 0] 3) := by
  go_enter Tryz.func103, Tryz.ntmps103
  go_wp2_with (go_at_call 115; refine (splitSeq_calls _ _ _).mono ?_; rintro e w' ⟨rfl, rfl⟩)
  go_ret
  exact ⟨rfl, rfl⟩

theorem split_stops (n : Nat) (hn : 1 ≤ n) (b0 b1 b2 : Nat) (h01 : b0 ≠ b1) (h02 : b0 ≠ b2) (w : World)
    (hb0 : Boxed w b0 9 (.string ⟨(curO 0).toArray⟩)) (hb1 : Boxed w b1 9 (.string ⟨#[32]⟩)) (hb2 : Boxed w b2 3 (.int .i64 0)) :
    SeqO Fence.wide n Tryz.prog 124 #[.pointer (some ⟨b1, 0, none⟩), .pointer (some ⟨b0, 0, none⟩), .pointer (some ⟨b2, 0, none⟩)] encB (fun b => b = b0) (fun b => b = b1 ∨ b = b2) (fun ys _ => ys = opsL) (fun pre _ => pre <+: opsL) 34 w := fun l J Jx W O hW hO hJ hY h0 =>
  have hk : Keeps (fun _ => False) w W := Keeps.of_below' hW
  split_in n hn l b0 b1 b2 h01 h02 J Jx W O hO hJ hY (boxed_keeps hb0 hk (fun h => h)) (boxed_keeps hb1 hk (fun h => h)) (boxed_keeps hb2 hk (fun h => h)) h0

def OperI (l : List UInt8) (s : ByteArray) (w : World) (pre : List (List UInt8)) (O : Nat → Prop) (W : World) : Prop :=
  O = (fun b => b = w.heap.size + 1) ∧ Boxed W w.heap.size 9 (.string s) ∧ Boxed W (w.heap.size + 1) 3 (.int .i64 0) ∧ (∀ x ∈ pre, Lib.hasPrefix l x = false) ∧ Below w.heap.size w W
def OperX (l : List UInt8) (w : World) (c : Code) (pre : List (List UInt8)) (O : Nat → Prop) (W : World) : Prop :=
  c = .ret ∧ ∃ p x, pre = p ++ [x] ∧ O = (fun b => b = w.heap.size + 1) ∧ (∀ y ∈ p, Lib.hasPrefix l y = false) ∧ Lib.hasPrefix l x = true ∧ Boxed W (w.heap.size + 1) 3 (.int .i64 x.length) ∧ Below w.heap.size w W

set_option maxRecDepth 100000 in
set_option maxHeartbeats 1000000 in
theorem oper_in (n : Nat) (hn : 3 ≤ n) (s : ByteArray) (w : World) :
    CallsIn Fence.wide n Tryz.prog 88 #[.string s] w fun e W' => e = .returned (.int .i64 (operN s.data.toList : Nat)) ∧ Below w.heap.size w W' := by
  have h1 : 1 ≤ n := by omega
  have hres : Tryz.f88.results = #[.cell 2 3] := by kernel_rfl
  refine callsIn_of_wp_marks Tryz.func88 rfl trivial ?_ rfl
  simp only [Tryz.ntmps88, List.size_toArray, List.length_cons, List.length_nil, Nat.reduceAdd, Nat.reduceSub, Array.replicate_succ, Array.replicate_zero, List.push_toArray, List.append_toArray, List.nil_append, List.cons_append]
  have hS := fun w => SplitSeq_calls ⟨(curO 0).toArray⟩ ⟨#[32]⟩ w
  gi_wp2_with (refine ⟨trivial, ?_⟩; gi_at_call 103; refine (callsIn_wide.2 (hS _)).mono ?_; rintro e w' ⟨rfl, rfl⟩)
  clear hS
  obtain ⟨W0, hW0⟩ : ∃ W0, (((((w.alloc (.cells #[.string s] 9)).alloc (.cells #[.int .i64 0] 3)).alloc (.cells #[.string ⟨(curO 0).toArray⟩] 9)).alloc (.cells #[.string ⟨#[32]⟩] 9)).alloc (.cells #[.int .i64 0] 3)) = W0 := ⟨_, rfl⟩
  have hsz : W0.heap.size = w.heap.size + 5 := by rw [← hW0]; simp
  have hB0 : Below w.heap.size w W0 := by
    rw [← hW0]
    exact (((((Below.refl _ w).alloc (Nat.le_refl _) _).alloc (by simp) _).alloc (by simp; omega) _).alloc (by simp; omega) _).alloc (by simp; omega) _
  have b0 : Boxed W0 w.heap.size 9 (.string s) := by
    rw [← hW0]
    exact ((((Boxed.new w 9 (.string s)).alloc _).alloc _).alloc _).alloc _
  have b1 : Boxed W0 (w.heap.size + 1) 3 (.int .i64 0) := by
    have := ((((Boxed.new (w.alloc (.cells #[.string s] 9)) 3 (.int .i64 0)).alloc (.cells #[.string ⟨(curO 0).toArray⟩] 9)).alloc (.cells #[.string ⟨#[32]⟩] 9)).alloc (.cells #[.int .i64 0] 3))
    rw [hW0] at this; simpa using this
  have b2 : Boxed W0 (w.heap.size + 1 + 1) 9 (.string ⟨(curO 0).toArray⟩) := by
    have := (((Boxed.new ((w.alloc (.cells #[.string s] 9)).alloc (.cells #[.int .i64 0] 3)) 9 (.string ⟨(curO 0).toArray⟩)).alloc (.cells #[.string ⟨#[32]⟩] 9)).alloc (.cells #[.int .i64 0] 3))
    rw [hW0] at this; simpa using this
  have b3 : Boxed W0 (w.heap.size + 1 + 1 + 1) 9 (.string ⟨#[32]⟩) := by
    have := ((Boxed.new (((w.alloc (.cells #[.string s] 9)).alloc (.cells #[.int .i64 0] 3)).alloc (.cells #[.string ⟨(curO 0).toArray⟩] 9)) 9 (.string ⟨#[32]⟩)).alloc (.cells #[.int .i64 0] 3))
    rw [hW0] at this; simpa using this
  have b4 : Boxed W0 (w.heap.size + 1 + 1 + 1 + 1) 3 (.int .i64 0) := by
    have := (Boxed.new ((((w.alloc (.cells #[.string s] 9)).alloc (.cells #[.int .i64 0] 3)).alloc (.cells #[.string ⟨(curO 0).toArray⟩] 9)).alloc (.cells #[.string ⟨#[32]⟩] 9)) 3 (.int .i64 0))
    rw [hW0] at this; simpa using this
  rw [hW0]
  clear hW0
  refine wpIn_rangeFunc_O rfl h1 (gf := 124) (lb := #[.pointer (some ⟨w.heap.size + 1 + 1 + 1, 0, none⟩), .pointer (some ⟨w.heap.size + 1 + 1, 0, none⟩), .pointer (some ⟨w.heap.size + 1 + 1 + 1 + 1, 0, none⟩)]) rfl trivial (enters_of Tryz.func124 (by kernel_rfl) rfl)
    (split_stops (n - 1) (by omega) _ _ _ (by omega) (by omega) W0 b2 b3 b4) (Below.refl _ _) (fun _ => rfl) (fun b h => by omega) (fun b h => by omega) (fun _ _ _ h _ => h) (fun _ _ _ h _ => h)
    (OperI s.data.toList s w) (OperX s.data.toList w) (fun b => b = w.heap.size + 1) (fun b h => ⟨by omega, by omega, by omega⟩)
    ?hI ?hIx ⟨rfl, b0, b1, fun _ h => by simp at h, hB0⟩ ?hround ?hdone ?hstop
  case hI =>
    rintro pre O A B ⟨rfl, hb0, hb1, hp, hB⟩ hk
    exact ⟨rfl, boxed_keeps hb0 hk (fun h => by have := h.2; omega), boxed_keeps hb1 hk (fun h => h.1 rfl), hp, hB.trans (hk.below hB.size fun b h => by have := h.2; omega)⟩
  case hIx =>
    rintro c pre O A B ⟨rfl, p, x, rfl, rfl, hp, hx, hb1, hB⟩ hk
    exact ⟨rfl, p, x, rfl, rfl, hp, hx, boxed_keeps hb1 hk (fun h => h.1 rfl), hB.trans (hk.below hB.size fun b h => by have := h.2; omega)⟩
  case hround =>
    rintro l pre x W O - hlt hOl hs
    unfold encB
    gi_wp2
    refine ⟨Keeps.refl _ _, fun Wb hkb hsb ⟨hO, hb0, hb1, hp, hB⟩ hl => ?_⟩
    have hOl' : ∀ b, O b → b < Wb.heap.size := fun b hb => by rw [hsb]; exact (hOl b hb).2.2
    clear hsb
    have hc0 := hb0.cell
    have hc1 := hb1.cell
    have hf1 := hb1.frozen
    have hcall := Tryz.strings_HasPrefix s ⟨x.toArray⟩ Wb
    have Hp := Lib.hid hp
    clear hp
    cases hx : Lib.hasPrefix s.data.toList x
    · have hcall2 : Lib.hasPrefix s.data.toList (⟨x.toArray⟩ : ByteArray).data.toList = false := hx
      rw [hcall2] at hcall
      have Hx := Lib.hid hx
      clear hcall2 hx
      gi_wp2_with (refine ⟨trivial, fun h => by simp [Fence.wide] at h, ?_⟩; gi_at_call 58; refine (CallsIn.inRound l (callsIn_wide.2 hcall)).mono ?_; rintro e w' ⟨rfl, rfl⟩)
      refine ⟨O, Keeps.refl _ _, fun b hb => ⟨.inl hb, (hOl' b hb)⟩, hO, hb0, hb1, fun y hy => ?_, hB⟩
      rcases List.mem_append.1 hy with h | h
      · exact Hp.out y h
      · rw [List.mem_singleton.1 h]; exact Hx.out
    · have hcall2 : Lib.hasPrefix s.data.toList (⟨x.toArray⟩ : ByteArray).data.toList = true := hx
      rw [hcall2] at hcall
      have Hx := Lib.hid hx
      clear hcall2 hx
      gi_wp2_with (refine ⟨trivial, fun h => by simp [Fence.wide] at h, ?_⟩; gi_at_call 58; refine (CallsIn.inRound l (callsIn_wide.2 hcall)).mono ?_; rintro e w' ⟨rfl, rfl⟩)
      have hk1 := Keeps.setCell (O := fun b => b = w.heap.size + 1) w' (w.heap.size + 1) (.int .i64 x.length) rfl
      refine ⟨O, hk1.mono fun b _ h => .inl (by rw [hO]; exact h), fun b hb => ⟨.inl hb, Nat.lt_of_lt_of_le (hOl' b hb) hk1.size⟩, rfl, pre, x, rfl, hO, Hp.out, Hx.out, hb1.set _, hB.trans (hk1.below hB.size fun b h => by omega)⟩
  case hdone =>
    rintro D ys W O hD rfl ⟨rfl, hb0, hb1, hp, hB⟩ hOD hK
    have hc1 := hb1.cell
    have hf1 := hb1.frozen
    have hK2 := (Keeps.setCell (O := fun b => b = w.heap.size + 1) W (w.heap.size + 1) (.int .i64 0) rfl).heap hK hOD
    gi_wp2
    refine ⟨by simp, .inl ⟨_, _, rfl, run_takeDeferred hK2, ?_⟩⟩
    have hb1' := hb1.set (.int .i64 0)
    have hk1 := Keeps.setCell (O := fun b => b = w.heap.size + 1) W (w.heap.size + 1) (.int .i64 0) rfl
    have hB1 := hB.trans (hk1.below hB.size fun b h => by omega)
    generalize W.setCell ⟨w.heap.size + 1, 0, none⟩ (.int .i64 0) = W2 at *
    have hDn : D ≠ w.heap.size + 1 := by omega
    have hb1'' := boxed_keeps hb1' (Keeps.putObj (O := fun b => b = D) W2 D (.deferred none) rfl) (fun h => hDn h.symm)
    have hBf := hB1.trans (belowK_b (w := w) (Nat.le_refl _) W2 D _ (.deferred none) (by omega) hK2 rfl rfl)
    have hc := hb1''.cell
    generalize W2.putObj D (.deferred none) = W3 at *
    refine ⟨.int .i64 0, ?_, by rw [operN_none _ hp]; rfl, hBf⟩
    simp only [results, hres]
    go_simp
  case hstop =>
    rintro D c pre W O hD hpre ⟨rfl, p, x, rfl, rfl, hp, hx, hb1, hB⟩ hOD hK
    gi_wp2
    refine ⟨by simp, .inl ⟨_, _, rfl, run_takeDeferred hK, ?_⟩⟩
    have hDn : D ≠ w.heap.size + 1 := by omega
    have hb1'' := boxed_keeps hb1 (Keeps.putObj (O := fun b => b = D) W D (.deferred none) rfl) (fun h => hDn h.symm)
    have hBf := hB.trans (belowK_b (w := w) (Nat.le_refl _) W D _ (.deferred none) (by omega) hK rfl rfl)
    have hc := hb1''.cell
    generalize W.putObj D (.deferred none) = W3 at *
    refine ⟨.int .i64 x.length, ?_, by rw [operN_some _ p x hpre hp hx], hBf⟩
    simp only [results, hres]
    go_simp
theorem oper_calls (s : ByteArray) (w : World) :
    Calls Tryz.prog 88 #[.string s] w fun e W' => e = .returned (.int .i64 (operN s.data.toList : Nat)) ∧ Below w.heap.size w W' :=
  callsIn_wide.1 (oper_in 3 (Nat.le_refl _) s w)
end Go.Proofs.YtiinhkfbgecbjaaGreatDoor
