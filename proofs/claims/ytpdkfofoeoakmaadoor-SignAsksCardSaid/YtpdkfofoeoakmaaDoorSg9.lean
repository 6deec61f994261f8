/- Which words are the language's own, and which texts are names. No condition but that of the table of blanks. -/
import Derived.Test.YtpdkfofoeoakmaaDoorSg8
namespace Go.Proofs.YtpdkfofoeoakmaaDoor
open Go.RowKit Go.Sub

theorem ba_eq (s : ByteArray) (x : List UInt8) : ((⟨x.toArray⟩ : ByteArray) = s) ↔ x = s.data.toList := by
  constructor
  · rintro rfl; rfl
  · rintro rfl; exact Lib.mk_data s
theorem look_map (s : ByteArray) : ∀ L : List (List UInt8), (lookS (L.map fun x => ((⟨x.toArray⟩ : ByteArray), Value.bool true)) s).getD (.bool false) = .bool (L.contains s.data.toList)
  | [] => rfl
  | x :: L => by
    have ih := look_map s L
    rw [List.map_cons, lookS, List.contains_cons]
    by_cases h : s.data.toList = x
    · have h2 : (⟨x.toArray⟩ : ByteArray) = s := (ba_eq s x).2 h.symm
      simp [h2, h]
    · have h2 : ¬ (⟨x.toArray⟩ : ByteArray) = s := fun e => h ((ba_eq s x).1 e).symm
      have h3 : (s.data.toList == x) = false := by rw [beq_eq_false_iff_ne]; exact h
      simp [h2, h3, ih]
theorem keyKV_eq : keyKV keysL = keysL.map fun x => ((⟨x.toArray⟩ : ByteArray), Value.bool true) := by kernel_rfl

set_option maxRecDepth 100000 in
theorem key_calls (s : ByteArray) (w : World) (hT : TabX w) :
    Calls Tryd.prog 24 #[.string s] w fun e w' => e = .returned (.bool (isKey s.data.toList)) ∧ Below w.heap.size w w' := by
  have hz := fun w' : World => (show (zeroValue 4).run Tryd.prog w' = .ok (.bool false) w' by rfl)
  have hk := look_map s keysL
  rw [← keyKV_eq] at hk
  have Hk := Lib.hid hk
  clear hk
  go_enter Tryd.func24, Tryd.ntmps24
  go_wp2_with (go_at_call 47; refine (keys_calls _ hT).mono ?_; rintro e w' ⟨rfl, hm, hB⟩; have hlk := run_lookup (P := Tryd.prog) map60 str9 (hz w') hm s false)
  go_ret
  refine ⟨?_, hB⟩
  show Ending.returned ((lookS (keyKV keysL) s).getD (.bool false)) = _
  rw [Hk.out]; rfl

def plainB (l : List UInt8) : Bool := !l.isEmpty && (simpleN l == l.length && !isKey l)
set_option maxRecDepth 100000 in
theorem plain_calls (s : ByteArray) (w : World) (hs : s.size < 4611686018427387904) (hT : TabX w) :
    Calls Tryd.prog 23 #[.string s] w fun e w' => e = .returned (.bool (plainB s.data.toList)) ∧ Below w.heap.size w w' := by
  have hp : plainB s.data.toList = (!s.data.toList.isEmpty && (simpleN s.data.toList == s.size && !isKey s.data.toList)) := by rw [Lib.size_eq]; rfl
  by_cases h0 : s.size = 0
  · obtain rfl : s = ByteArray.empty := ByteArray.size_eq_zero_iff.1 h0
    go_enter Tryd.func23, Tryd.ntmps23
    go_wp2
    go_ret
    exact ⟨rfl, Below.refl _ _⟩
  · have hlt : 0 < s.size := by omega
    obtain ⟨he, he2⟩ := not_empty s hlt
    have he3 : s.data.toList.isEmpty = false := by rw [← Lib.toList_data]; exact he
    rw [he3] at hp
    have hsim := simple_calls s w hs
    have hkey := fun w' (hT' : TabX w') => key_calls s w' hT'
    clear h0 he3
    generalize plainB s.data.toList = pb at *
    generalize simpleN s.data.toList = k at *
    generalize isKey s.data.toList = ik at *
    have Hp := Lib.hid hp
    clear hp
    cases hk : (k == s.size)
    · have h1 : ((k : Int) == (s.size : Int)) = false := by rw [beq_eq_false_iff_ne] at hk ⊢; omega
      have h2 : ((k : Int) = (s.size : Int)) = False := by apply eq_false; intro h; rw [beq_eq_false_iff_ne] at hk; omega
      rw [hk] at Hp
      clear hk
      go_enter Tryd.func23, Tryd.ntmps23
      go_wp2_with (go_at_call 41; refine hsim.mono ?_; rintro e w' ⟨rfl, rfl⟩)
      go_ret
      exact ⟨by rw [Hp.out]; rfl, Below.refl _ _⟩
    · have h1 : ((k : Int) == (s.size : Int)) = true := by rw [beq_iff_eq] at hk ⊢; omega
      have h2 : k = s.size := eq_of_beq hk
      rw [hk] at Hp
      subst h2
      clear hk h1
      go_enter Tryd.func23, Tryd.ntmps23
      go_wp2_with (first
        | (go_at_call 41; refine hsim.mono ?_; rintro e w' ⟨rfl, rfl⟩)
        | (go_at_call 24; refine (hkey _ hT).mono ?_; rintro e w' ⟨rfl, hB⟩))
      go_ret
      exact ⟨by rw [Hp.out]; cases ik <;> rfl, hB⟩
end Go.Proofs.YtpdkfofoeoakmaaDoor
