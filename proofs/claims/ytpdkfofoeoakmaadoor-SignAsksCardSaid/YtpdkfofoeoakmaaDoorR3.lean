/- The document's own operators, keys, names and escapes, as the program reads them. No condition. -/
import Derived.Test.YtpdkfofoeoakmaaDoorR1
import Derived.Test.YtpdkfofoeoakmaaDoorL2a
import Derived.Test.YtpdkfofoeoakmaaDoorL1
import Derived.Deep.QuietTactic
import Derived.BigQuiet
namespace Go.Proofs.YtpdkfofoeoakmaaDoor
open Go.RowKit Go.Sub

def opsC : List Value := opsL.map fun x => Value.string ⟨x.toArray⟩
theorem ropers_calls (w : World) :
    Calls Tryd.prog 68 #[] w fun e w' => e = .returned (.slice (some ⟨w.heap.size, 0, none⟩) 34 34) ∧ w' = w.alloc (.cells opsC.toArray 9) := by
  go_enter Tryd.func68, Tryd.ntmps68
  go_wp2
  go_ret
  exact ⟨rfl, rfl⟩
theorem ops_len : ∀ x ∈ opsL, x.length ≤ 3 := by decide +kernel
theorem pre_test (s X : ByteArray) (h : X.size ≤ s.size) : ((s.extract 0 X.size).toList == X.toList) = Lib.hasPrefix s.data.toList X.data.toList := by
  rw [Lib.toList_data, Lib.toList_data, Lib.extract_data, List.drop_zero, Nat.sub_zero, Bool.eq_iff_iff, beq_iff_eq]
  unfold Lib.hasPrefix
  rw [List.isPrefixOf_iff_prefix]
  constructor
  · intro e; rw [← e]; exact List.take_prefix _ _
  · intro e; rw [List.prefix_iff_eq_take] at e; rw [Lib.size_eq X]; exact e.symm
theorem pre_long {l x : List UInt8} (h : l.length < x.length) : Lib.hasPrefix l x = false := by
  cases hp : Lib.hasPrefix l x
  · rfl
  · have := Lib.hasPrefix_le hp; omega

set_option maxHeartbeats 1000000 in
set_option maxRecDepth 100000 in
theorem roper_calls (s : ByteArray) (w : World) (hs : s.size < 4611686018427387904) :
    Calls Tryd.prog 50 #[.string s] w fun e w' => e = .returned (.int .i64 (operN s.data.toList : Nat)) ∧ Below w.heap.size w w' := by
  have hsz := Lib.size_eq s
  have Hsz := Lib.hid hsz
  have hop := ropers_calls w
  have hb1 : (w.alloc (.cells opsC.toArray 9)).heap[w.heap.size]? = some (.cells opsC.toArray 9 (0, 0)) := World.alloc_heap_new w _
  have hB1 := (Below.refl w.heap.size w).alloc (Nat.le_refl _) (.cells opsC.toArray 9)
  generalize w.alloc (.cells opsC.toArray 9) = W1 at *
  clear hsz
  have Hop := Lib.hid hop
  have Hb := Lib.hid hb1
  clear hop hb1
  go_enter Tryd.func50, Tryd.ntmps50
  go_wp2_with (go_at_call 68; refine Hop.out.mono ?_; rintro e w' ⟨rfl, rfl⟩)
  clear Hop
  go_loopw [4] (fun i wr => ∃ k : Nat, k ≤ 34 ∧ i = .int .i64 k ∧ Hid (∀ y ∈ opsL.take k, Lib.hasPrefix s.data.toList y = false) ∧ ∃ n, wr = w'.drewN n) (fun i _ => 34 - (intOf i).toNat)
  case atStart => exact ⟨0, by omega, rfl, Lib.hid (by intro y hy; simp at hy), 0, rfl⟩
  case round =>
    obtain ⟨k, hk, rfl, Hno, n, rfl⟩ := hrel
    by_cases hlt : k < 34
    · obtain ⟨x, hx⟩ : ∃ x, opsL[k]? = some x := ⟨_, List.getElem?_eq_getElem (show k < opsL.length from hlt)⟩
      have hxl := ops_len x (List.mem_of_getElem? hx)
      obtain ⟨X, hX⟩ : ∃ X : ByteArray, (⟨x.toArray⟩ : ByteArray) = X := ⟨_, rfl⟩
      have hcell : w'.cell? ⟨w.heap.size, k, none⟩ = some (.string X) := cell_of_block Hb.out (by simp [opsC, hx, hX])
      have hXd : X.data.toList = x := by rw [← hX]
      have hXs : X.size = x.length := by rw [Lib.size_eq, hXd]
      have htake : opsL.take (k + 1) = opsL.take k ++ [x] := by rw [List.take_add_one, hx]; rfl
      have Htake := Lib.hid htake
      have HXd := Lib.hid hXd
      have HXs := Lib.hid hXs
      have hX3 : X.size ≤ 3 := by omega
      clear htake hXd hXs hX hx
      by_cases hlen : X.size ≤ s.size
      · have ht := pre_test s X hlen
        rw [HXd.out] at ht
        have hd : decide (X.size ≤ s.size) = true := decide_eq_true hlen
        cases hp : Lib.hasPrefix s.data.toList x
        · rw [hp] at ht
          have Hp := Lib.hid hp
          clear hp
          go_wp2
          go_quiet (fail)
          go_wp2
          go_roundw
          case rel => exact ⟨k + 1, by omega, by go_num, Lib.hid (by
            intro y hy
            rw [Htake.out] at hy
            rcases List.mem_append.1 hy with hy | hy
            · exact Hno.out y hy
            · simp only [List.mem_singleton] at hy; subst hy; exact Hp.out), _, rfl⟩
          case measure => simp [intOf]; omega
        · rw [hp] at ht
          have hop := operN_some s.data.toList (opsL.take k) x (by rw [← Htake.out]; exact List.take_prefix _ _) Hno.out hp
          have Hop := Lib.hid hop
          clear hp hop
          go_wp2
          go_quiet (fail)
          go_wp2
          go_ret
          exact ⟨by rw [Hop.out, ← HXs.out]; rfl, below_drewN hB1 _⟩
      · have hd : decide (X.size ≤ s.size) = false := decide_eq_false hlen
        have hp : Lib.hasPrefix s.data.toList x = false := pre_long (by rw [← Hsz.out, ← HXs.out]; omega)
        have Hp := Lib.hid hp
        clear hp
        go_wp2
        go_quiet (fail)
        go_wp2
        go_roundw
        case rel => exact ⟨k + 1, by omega, by go_num, Lib.hid (by
            intro y hy
            rw [Htake.out] at hy
            rcases List.mem_append.1 hy with hy | hy
            · exact Hno.out y hy
            · simp only [List.mem_singleton] at hy; subst hy; exact Hp.out), _, rfl⟩
        case measure => simp [intOf]; omega
    · obtain rfl : k = 34 := by omega
      have hop := operN_none s.data.toList (fun x hx => Hno.out x (by rw [List.take_of_length_le (by decide)]; exact hx))
      have Hop := Lib.hid hop
      clear hop Hno
      go_wp2
      go_ret
      exact ⟨by rw [Hop.out]; rfl, below_drewN hB1 _⟩

def keysC : List Value := keysL.map fun x => Value.string ⟨x.toArray⟩
set_option maxHeartbeats 1000000 in
set_option maxRecDepth 100000 in
theorem rkey_calls (s : ByteArray) (w : World) :
    Calls Tryd.prog 53 #[.string s] w fun e w' => e = .returned (.bool (isKey s.data.toList)) ∧ Below w.heap.size w w' := by
  have hb1 : (w.alloc (.cells keysC.toArray 9)).heap[w.heap.size]? = some (.cells keysC.toArray 9 (0, 0)) := World.alloc_heap_new w _
  have hB1 := (Below.refl w.heap.size w).alloc (Nat.le_refl _) (.cells keysC.toArray 9)
  obtain ⟨W1, hW1⟩ : ∃ W1, w.alloc (.cells keysC.toArray 9) = W1 := ⟨_, rfl⟩
  rw [hW1] at hb1 hB1
  have Hb := Lib.hid hb1
  clear hb1
  simp only [keysC, keysL, List.map_cons, List.map_nil] at hW1
  go_enter Tryd.func53, Tryd.ntmps53
  go_wp2
  clear hW1
  go_loopw [4] (fun i wr => ∃ k : Nat, k ≤ 18 ∧ i = .int .i64 k ∧ Hid (∀ y ∈ keysL.take k, y ≠ s.data.toList) ∧ wr = W1) (fun i _ => 18 - (intOf i).toNat)
  case atStart => exact ⟨0, by omega, rfl, Lib.hid (by intro y hy; simp at hy), rfl⟩
  case round =>
    obtain ⟨k, hk, rfl, Hno, rfl⟩ := hrel
    by_cases hlt : k < 18
    · obtain ⟨x, hx⟩ : ∃ x, keysL[k]? = some x := ⟨_, List.getElem?_eq_getElem (show k < keysL.length from hlt)⟩
      obtain ⟨X, hX⟩ : ∃ X : ByteArray, (⟨x.toArray⟩ : ByteArray) = X := ⟨_, rfl⟩
      have hcell : wr.cell? ⟨w.heap.size, k, none⟩ = some (.string X) := cell_of_block Hb.out (by simp [keysC, hx, hX])
      have hXd : X.data.toList = x := by rw [← hX]
      have htake : keysL.take (k + 1) = keysL.take k ++ [x] := by rw [List.take_add_one, hx]; rfl
      have Htake := Lib.hid htake
      have Hmem := Lib.hid (List.mem_of_getElem? hx)
      have ht : (X.toList == s.toList) = (x == s.data.toList) := by rw [Lib.toList_data, Lib.toList_data, hXd]
      clear htake hXd hX hx
      cases hp : (x == s.data.toList)
      · rw [hp] at ht
        have hne : x ≠ s.data.toList := by simpa using hp
        have Hne := Lib.hid hne
        clear hne hp
        go_wp2
        go_roundw
        case rel => exact ⟨k + 1, by omega, by go_num, Lib.hid (by
            intro y hy
            rw [Htake.out] at hy
            rcases List.mem_append.1 hy with hy | hy
            · exact Hno.out y hy
            · simp only [List.mem_singleton] at hy; subst hy; exact Hne.out), trivial⟩
        case measure => simp [intOf]; omega
      · rw [hp] at ht
        have hkey : isKey s.data.toList = true := by
          unfold isKey
          rw [← eq_of_beq hp]
          exact List.contains_iff_mem.2 Hmem.out
        have Hkey := Lib.hid hkey
        clear hkey hp
        go_wp2
        go_ret
        exact ⟨by rw [Hkey.out]; rfl, hB1⟩
    · obtain rfl : k = 18 := by omega
      have hkey : isKey s.data.toList = false := by
        unfold isKey
        cases hc : keysL.contains s.data.toList
        · rfl
        · exact absurd rfl (Hno.out _ (by rw [List.take_of_length_le (by decide)]; exact List.contains_iff_mem.1 hc))
      have Hkey := Lib.hid hkey
      clear hkey Hno
      go_wp2
      go_ret
      exact ⟨by rw [Hkey.out]; rfl, hB1⟩

set_option maxRecDepth 100000 in
theorem rplain_calls (s : ByteArray) (w : World) (hs : s.size < 4611686018427387904) :
    Calls Tryd.prog 52 #[.string s] w fun e w' => e = .returned (.bool (plainB s.data.toList)) ∧ Below w.heap.size w w' := by
  have hp : plainB s.data.toList = (!s.data.toList.isEmpty && (simpleN s.data.toList == s.size && !isKey s.data.toList)) := by rw [Lib.size_eq]; rfl
  by_cases h0 : s.size = 0
  · obtain rfl : s = ByteArray.empty := ByteArray.size_eq_zero_iff.1 h0
    go_enter Tryd.func52, Tryd.ntmps52
    go_wp2
    go_ret
    exact ⟨rfl, Below.refl _ _⟩
  · have hlt : 0 < s.size := by omega
    obtain ⟨he, he2⟩ := not_empty s hlt
    have he3 : s.data.toList.isEmpty = false := by rw [← Lib.toList_data]; exact he
    rw [he3] at hp
    have hsim := rsimple_calls s w hs
    have hkey := fun w' => rkey_calls s w'
    clear h0 he3
    generalize plainB s.data.toList = pb at *
    generalize simpleN s.data.toList = k at *
    generalize isKey s.data.toList = ik at *
    have Hp := Lib.hid hp
    have Hkey := Lib.hid hkey
    have Hsim := Lib.hid hsim
    clear hp hkey hsim
    cases hk : (k == s.size)
    · have h1 : ((k : Int) == (s.size : Int)) = false := by rw [beq_eq_false_iff_ne] at hk ⊢; omega
      have h2 : ((k : Int) = (s.size : Int)) = False := by apply eq_false; intro h; rw [beq_eq_false_iff_ne] at hk; omega
      rw [hk] at Hp
      clear hk
      go_enter Tryd.func52, Tryd.ntmps52
      go_wp2_with (go_at_call 66; refine Hsim.out.mono ?_; rintro e w' ⟨rfl, rfl⟩)
      go_ret
      exact ⟨by rw [Hp.out]; rfl, Below.refl _ _⟩
    · have h2 : k = s.size := eq_of_beq hk
      rw [hk] at Hp
      subst h2
      clear hk
      go_enter Tryd.func52, Tryd.ntmps52
      go_wp2_with (first
        | (go_at_call 66; refine Hsim.out.mono ?_; rintro e w' ⟨rfl, rfl⟩)
        | (go_at_call 53; refine (Hkey.out _).mono ?_; rintro e w' ⟨rfl, hB⟩))
      go_ret
      exact ⟨by rw [Hp.out]; cases ik <;> rfl, hB⟩
end Go.Proofs.YtpdkfofoeoakmaaDoor
