/- Level, Side, Left and Right of the program, of every text; the table of blanks being laid. -/
import Derived.Test.YtbjhfkaboncpoaaDoorT3
import Derived.Deep.QuietTactic
import Derived.BigQuiet
namespace Go.Proofs.YtbjhfkaboncpoaaDoor
open Go.RowKit Go.Shelf Go.Sub

theorem opsKV_eq : opsKV = opsX.map kvX := by kernel_rfl
def infoX (s : ByteArray) : List OpX → Option (Int × Int)
  | [] => none
  | x :: r => if x.1 = s then some x.2 else infoX s r
def levelI (s : ByteArray) : Int := ((infoX s opsX).map (·.1)).getD 0
def sideI (s : ByteArray) : Int := ((infoX s opsX).map (·.2)).getD 0
def isOp (s : ByteArray) : Bool := (infoX s opsX).isSome
theorem lookS_kv (s : ByteArray) : ∀ l : List OpX, lookS (l.map kvX) s = (infoX s l).map fun p => .agg #[.int .i64 p.1, .int .i64 p.2]
  | [] => rfl
  | x :: r => by
    simp only [List.map_cons, kvX, lookS, infoX]
    by_cases h : x.1 = s
    · rw [if_pos h, if_pos h]; rfl
    · rw [if_neg h, if_neg h]; exact lookS_kv s r
theorem lookS_ops (s : ByteArray) : (lookS opsKV s).getD (.agg #[.int .i64 0, .int .i64 0]) = .agg #[.int .i64 (levelI s), .int .i64 (sideI s)] := by
  rw [opsKV_eq, lookS_kv]
  unfold levelI sideI
  cases infoX s opsX <;> rfl
theorem lookS_isSome (s : ByteArray) : (lookS opsKV s).isSome = isOp s := by
  rw [opsKV_eq, lookS_kv]
  unfold isOp
  cases infoX s opsX <;> rfl
theorem field40_0 (w : World) (a b : Int) : (Instr.field 40 (.agg #[.int .i64 a, .int .i64 b]) 0).run Tryd.prog w = .ok (.int .i64 a) w := by kernel_rfl
theorem field40_1 (w : World) (a b : Int) : (Instr.field 40 (.agg #[.int .i64 a, .int .i64 b]) 1).run Tryd.prog w = .ok (.int .i64 b) w := by kernel_rfl
theorem zero40 (w : World) : (zeroValue 40).run Tryd.prog w = .ok (.agg #[.int .i64 0, .int .i64 0]) w := by kernel_rfl

theorem table_calls (w : World) (hT : TabX w) :
    Calls Tryd.prog 21 #[] w fun e W' => ∃ b, e = .returned (.map (some b)) ∧ (∀ s, (Instr.lookup 41 (.map (some b)) (.string s) false).run Tryd.prog W' = .ok (.agg #[.int .i64 (levelI s), .int .i64 (sideI s)]) W') ∧
      (∀ s, (Instr.lookup 41 (.map (some b)) (.string s) true).run Tryd.prog W' = .ok (.tuple #[.agg #[.int .i64 (levelI s), .int .i64 (sideI s)], .bool (isOp s)]) W') ∧ Below w.heap.size w W' :=
  (callsIn_wide.1 (table_in 3 (Nat.le_refl _) w hT)).mono fun e W' ⟨he, hm, hb⟩ => ⟨_, he, fun s => by
    rw [run_lookup map41 str9 (zero40 _) hm s false, lookS_ops, lookS_isSome]; rfl, fun s => by
    rw [run_lookup map41 str9 (zero40 _) hm s true, lookS_ops, lookS_isSome]; rfl, hb⟩

set_option maxHeartbeats 400000 in
theorem level_calls (s : ByteArray) (w : World) (hT : TabX w) :
    Calls Tryd.prog 9 #[.string s] w fun e w' => e = .returned (.int .i64 (levelI s)) ∧ Below w.heap.size w w' := by
  have hf := field40_0
  go_enter Tryd.func9, Tryd.ntmps9
  go_wp2_with (go_at_call 21; refine (table_calls _ hT).mono ?_; rintro e w' ⟨b, rfl, hl, hl', hb⟩; have hl1 := hl s; clear hl hl')
  go_ret
  exact ⟨rfl, hb⟩
set_option maxHeartbeats 400000 in
theorem side_calls (s : ByteArray) (w : World) (hT : TabX w) :
    Calls Tryd.prog 13 #[.string s] w fun e w' => e = .returned (.int .i64 (sideI s)) ∧ Below w.heap.size w w' := by
  have hf := field40_1
  go_enter Tryd.func13, Tryd.ntmps13
  go_wp2_with (go_at_call 21; refine (table_calls _ hT).mono ?_; rintro e w' ⟨b, rfl, hl, hl', hb⟩; have hl1 := hl s; clear hl hl')
  go_ret
  exact ⟨rfl, hb⟩
def besideI (s : ByteArray) (side : Int) : Int := if isOp s then (if sideI s = side then levelI s else levelI s + 1) else 0
theorem opsX_bound : ∀ x ∈ opsX, 1 ≤ x.2.1 ∧ x.2.1 ≤ 9 ∧ 0 ≤ x.2.2 ∧ x.2.2 ≤ 2 := by decide +kernel
theorem infoX_mem (s : ByteArray) (p : Int × Int) : ∀ l : List OpX, infoX s l = some p → ∃ x ∈ l, x.2 = p
  | [], h => by cases h
  | x :: r, h => by
    unfold infoX at h
    by_cases hk : x.1 = s
    · rw [if_pos hk] at h; cases h; exact ⟨x, List.mem_cons_self, rfl⟩
    · rw [if_neg hk] at h
      obtain ⟨y, hy, e⟩ := infoX_mem s p r h
      exact ⟨y, List.mem_cons_of_mem _ hy, e⟩
theorem level_bound (s : ByteArray) : 0 ≤ levelI s ∧ levelI s ≤ 9 := by
  unfold levelI
  cases h : infoX s opsX with
  | none => simp
  | some p =>
    obtain ⟨x, hx, rfl⟩ := infoX_mem s p opsX h
    have := opsX_bound x hx
    simp; omega
set_option maxHeartbeats 400000 in
theorem beside_calls (s : ByteArray) (side : Int) (w : World) (hT : TabX w) :
    Calls Tryd.prog 22 #[.string s, .int .i64 side] w fun e w' => e = .returned (.int .i64 (besideI s side)) ∧ Below w.heap.size w w' := by
  obtain ⟨hb0, hb9⟩ := level_bound s
  cases hi : isOp s with
  | false =>
    have e : besideI s side = 0 := by unfold besideI; rw [hi]; rfl
    rw [e]
    clear e
    have Hi := Lib.hid hi
    clear hi
    go_enter Tryd.func22, Tryd.ntmps22
    go_wp2_with (go_at_call 21; refine (table_calls _ hT).mono ?_; rintro e w' ⟨b, rfl, hl, hl', hb⟩; have hl1 := hl' s; rw [Hi.out] at hl1; clear hl hl')
    go_ret
    exact ⟨rfl, hb.alloc hb.size _⟩
  | true =>
    have e : besideI s side = if sideI s = side then levelI s else levelI s + 1 := by unfold besideI; rw [hi]; rfl
    rw [e]
    clear e
    have Hi := Lib.hid hi
    clear hi
    by_cases hs : sideI s = side
    all_goals
      first | rw [if_pos hs] | rw [if_neg hs]
      first | have hs' : (sideI s == side) = true := by simpa using hs | have hs' : (sideI s == side) = false := by simpa using hs
      clear hs
      go_enter Tryd.func22, Tryd.ntmps22
      go_wp2_with (go_at_call 21; refine (table_calls _ hT).mono ?_; rintro e w' ⟨b, rfl, hl, hl', hb⟩; have hl1 := hl' s; rw [Hi.out] at hl1; clear hl hl')
      go_ret
      exact ⟨rfl, hb.alloc hb.size _⟩
set_option maxHeartbeats 400000 in
theorem left_calls (s : ByteArray) (w : World) (hT : TabX w) :
    Calls Tryd.prog 10 #[.string s] w fun e w' => e = .returned (.int .i64 (besideI s 1)) ∧ Below w.heap.size w w' := by
  go_enter Tryd.func10, Tryd.ntmps10
  go_wp2_with (go_at_call 22; refine (beside_calls _ _ _ hT).mono ?_; rintro e w' ⟨rfl, hb⟩)
  go_ret
  exact ⟨rfl, hb⟩
set_option maxHeartbeats 400000 in
theorem right_calls (s : ByteArray) (w : World) (hT : TabX w) :
    Calls Tryd.prog 11 #[.string s] w fun e w' => e = .returned (.int .i64 (besideI s 2)) ∧ Below w.heap.size w w' := by
  go_enter Tryd.func11, Tryd.ntmps11
  go_wp2_with (go_at_call 22; refine (beside_calls _ _ _ hT).mono ?_; rintro e w' ⟨rfl, hb⟩)
  go_ret
  exact ⟨rfl, hb⟩
end Go.Proofs.YtbjhfkaboncpoaaDoor
