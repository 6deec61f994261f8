/- The document's own operators, keys, names and escapes, as the program reads them. No condition. -/
import Derived.Test.YtiinhkfbgecbjaaGreatDoorR1
import Derived.Test.YtiinhkfbgecbjaaGreatDoorL2a
import Derived.Test.YtiinhkfbgecbjaaGreatDoorL1
import Derived.Deep.QuietTactic
import Derived.BigQuiet
namespace Go.Proofs.YtiinhkfbgecbjaaGreatDoor
set_option linter.unusedSimpArgs false
set_option linter.unusedVariables false
open Go.RowKit Go.Sub

def opsC : List Value := opsL.map fun x => Value.string ⟨x.toArray⟩
theorem ropers_calls (w : World) :
    Calls Tryz.prog 71 #[] w fun e w' => e = .returned (.slice (some ⟨w.heap.size, 0, none⟩) 34 34) ∧ w' = w.alloc (.cells opsC.toArray 9) := by
  go_enter Tryz.func71, Tryz.ntmps71
  go_wp2
  go_ret
  exact ⟨rfl, rfl⟩
theorem ops_len : ∀ x ∈ opsL, x.length ≤ 3 := by decide +kernel
theorem pre_test (s X : ByteArray) (h : X.size ≤ s.size) : ((s.extract 0 X.size).toList == X.toList) = Lib.hasPrefix s.data.toList X.data.toList := by
  rw [Lib.toList_data, Lib.toList_data, Lib.extract_data, List.drop_zero, Nat.sub_zero, Bool.eq_iff_iff, beq_iff_eq]
  unfold Lib.hasPrefix
  rw [List.isPrefixOf_iff_prefix]
  constructor
  · intro e; rw [← e]; exact List.take_prefix _ _
  · intro e; rw [List.prefix_iff_eq_take] at e; rw [Lib.size_eq X]; exact e.symm
theorem pre_long {l x : List UInt8} (h : l.length < x.length) : Lib.hasPrefix l x = false := by
  cases hp : Lib.hasPrefix l x
  · rfl
  · have := Lib.hasPrefix_le hp; omega

set_option maxHeartbeats 1000000 in
set_option maxRecDepth 100000 in
theorem roper_calls (s : ByteArray) (w : World) (hs : s.size < 4611686018427387904) :
    Calls Tryz.prog 57 #[.string s] w fun e w' => e = .returned (.int .i64 (operN s.data.toList : Nat)) ∧ Below w.heap.size w w' := by
  have hsz := Lib.size_eq s
  have Hsz := Lib.hid hsz
  have hop := ropers_calls w
  have hb1 : (w.alloc (.cells opsC.toArray 9)).heap[w.heap.size]? = some (.cells opsC.toArray 9 (0, 0)) := World.alloc_heap_new w _
  have hB1 := (Below.refl w.heap.size w).alloc (Nat.le_refl _) (.cells opsC.toArray 9)
  generalize w.alloc (.cells opsC.toArray 9) = W1 at *
  clear hsz
  have Hop := Lib.hid hop
  have Hb := Lib.hid hb1
  clear hop hb1
  go_enter Tryz.func57, Tryz.ntmps57
  go_wp2_with (go_at_call 71; refine Hop.out.mono ?_; rintro e w' ⟨rfl, rfl⟩)
  clear Hop
  go_loopw [4] (fun i wr => ∃ k : Nat, k ≤ 34 ∧ i = .int .i64 k ∧ Hid (∀ y ∈ opsL.take k, Lib.hasPrefix s.data.toList y = false) ∧ ∃ n, wr = w'.drewN n) (fun i _ => 34 - (intOf i).toNat)
  case atStart => exact ⟨0, by omega, rfl, Lib.hid (by intro y hy; simp at hy), 0, rfl⟩
  case round =>
    obtain ⟨k, hk, rfl, Hno, n, rfl⟩ := hrel
    by_cases hlt : k < 34
    · obtain ⟨x, hx⟩ : ∃ x, opsL[k]? = some x := ⟨_, List.getElem?_eq_getElem (show k < opsL.length from hlt)⟩
      have hxl := ops_len x (List.mem_of_getElem? hx)
      obtain ⟨X, hX⟩ : ∃ X : ByteArray, (⟨x.toArray⟩ : ByteArray) = X := ⟨_, rfl⟩
      have hcell : w'.cell? ⟨w.heap.size, k, none⟩ = some (.string X) := cell_of_block Hb.out (by simp [opsC, hx, hX])
      have hXd : X.data.toList = x := by rw [← hX]
      have hXs : X.size = x.length := by rw [Lib.size_eq, hXd]
      have htake : opsL.take (k + 1) = opsL.take k ++ [x] := by rw [List.take_add_one, hx]; rfl
      have Htake := Lib.hid htake
      have HXd := Lib.hid hXd
      have HXs := Lib.hid hXs
      have hX3 : X.size ≤ 3 := by omega
      clear htake hXd hXs hX hx
      by_cases hlen : X.size ≤ s.size
      · have ht := pre_test s X hlen
        rw [HXd.out] at ht
        have hd : decide (X.size ≤ s.size) = true := decide_eq_true hlen
        cases hp : Lib.hasPrefix s.data.toList x
        · rw [hp] at ht
          have Hp := Lib.hid hp
          clear hp
          go_wp2
          go_quiet (fail)
          go_wp2
          go_roundw
          case rel => exact ⟨k + 1, by omega, by go_num, Lib.hid (by
            intro y hy
            rw [Htake.out] at hy
            rcases List.mem_append.1 hy with hy | hy
            · exact Hno.out y hy
            · simp only [List.mem_singleton] at hy; subst hy; exact Hp.out), _, rfl⟩
          case measure => simp [intOf]; omega
        · rw [hp] at ht
          have hop := operN_some s.data.toList (opsL.take k) x (by rw [← Htake.out]; exact List.take_prefix _ _) Hno.out hp
          have Hop := Lib.hid hop
          clear hp hop
          go_wp2
          go_quiet (fail)
          go_wp2
          go_ret
          exact ⟨by rw [Hop.out, ← HXs.out]; rfl, below_drewN hB1 _⟩
      · have hd : decide (X.size ≤ s.size) = false := decide_eq_false hlen
        have hp : Lib.hasPrefix s.data.toList x = false := pre_long (by rw [← Hsz.out, ← HXs.out]; omega)
        have Hp := Lib.hid hp
        clear hp
        go_wp2
        go_quiet (fail)
        go_wp2
        go_roundw
        case rel => exact ⟨k + 1, by omega, by go_num, Lib.hid (by
            intro y hy
            rw [Htake.out] at hy
            rcases List.mem_append.1 hy with hy | hy
            · exact Hno.out y hy
            · simp only [List.mem_singleton] at hy; subst hy; exact Hp.out), _, rfl⟩
        case measure => simp [intOf]; omega
    · obtain rfl : k = 34 := by omega
      have hop := operN_none s.data.toList (fun x hx => Hno.out x (by rw [List.take_of_length_le (by decide)]; exact hx))
      have Hop := Lib.hid hop
      clear hop Hno
      go_wp2
      go_ret
      exact ⟨by rw [Hop.out]; rfl, below_drewN hB1 _⟩
end Go.Proofs.YtiinhkfbgecbjaaGreatDoor
