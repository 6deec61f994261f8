/- The kinds of tokens outside of strings, and how many bytes of each the lexer reads. Its condition: a text of 1 to 65536 bytes. -/
import Derived.Test.YtiinhkfbgecbjaaGreatDoorLx5
namespace Go.Proofs.YtiinhkfbgecbjaaGreatDoor
set_option linter.unusedSimpArgs false
set_option linter.unusedVariables false
open Go.RowKit Go.Sub

/-- a function that tells how many bytes of a text's front are such a one; it may take memory -/
def Tells1 (g : Nat) (f : List UInt8 → Nat) : Prop := ∀ (s : ByteArray) w, 0 < s.size → s.size ≤ 65536 → Calls Tryz.prog g #[.string s] w fun e w' => e = .returned (.int .i64 (f s.data.toList : Nat)) ∧ Below w.heap.size w w'
theorem tells1_of {g : Nat} {f : List UInt8 → Nat} (h : Tells g f) : Tells1 g f := fun s w _ hs => (h s w (by omega)).mono fun e w' ⟨he, hw⟩ => ⟨he, by rw [hw]; exact Below.refl _ _⟩
theorem word_tells : Tells 77 wordN := fun s w hs => word_calls s w hs
theorem number_tells : Tells 85 numberN := fun s w hs => number_calls s w hs
theorem oper_tells1 : Tells1 88 operN := fun s w _ _ => oper_calls s w
theorem note_tells1 : Tells1 76 noteN := fun s w h0 hs => (note_calls s w (by omega) h0).mono fun e w' ⟨he, hw⟩ => ⟨he, by rw [hw]; exact Below.refl _ _⟩
theorem drop_le {f : List UInt8 → Nat} (hf : ∀ l, f l ≤ l.length) (s : ByteArray) : f (s.data.toList.drop 1) ≤ s.size := by
  have := hf (s.data.toList.drop 1)
  rw [List.length_drop, ← Lib.size_eq] at this; omega
set_option maxRecDepth 100000 in
theorem field_tells1 : Tells1 78 (behindN 46 simpleN) := by
  intro s w h0 hs
  go_enter Tryz.func78, Tryz.ntmps78
  go_wp2_with (go_at_call 79; refine (behind_calls 80 (fun _ _ => rfl) simpleN field1_tells 46 s _ (by omega) h0 (drop_le simpleN_le s)).mono ?_; rintro e w' ⟨rfl, rfl⟩)
  go_ret
  exact ⟨rfl, Below.refl _ _⟩
set_option maxRecDepth 100000 in
theorem var_tells1 : Tells1 83 (behindN 36 wordN) := by
  intro s w h0 hs
  go_enter Tryz.func83, Tryz.ntmps83
  go_wp2_with (go_at_call 79; refine (behind_calls 77 (fun _ _ => rfl) wordN word_tells 36 s _ (by omega) h0 (drop_le wordN_le s)).mono ?_; rintro e w' ⟨rfl, rfl⟩)
  go_ret
  exact ⟨rfl, Below.refl _ _⟩
set_option maxRecDepth 100000 in
theorem fmt_tells1 : Tells1 84 (behindN 64 (runOf isPart)) := by
  intro s w h0 hs
  go_enter Tryz.func84, Tryz.ntmps84
  go_wp2_with (go_at_call 79; refine (behind_calls 82 (fun _ _ => rfl) (runOf isPart) parts_tells 64 s _ (by omega) h0 (drop_le (runOf_le isPart) s)).mono ?_; rintro e w' ⟨rfl, rfl⟩)
  go_ret
  exact ⟨rfl, Below.refl _ _⟩
def quoteN (l : List UInt8) : Nat := match l with
  | [] => 0
  | b :: _ => if b == 34 then 1 else 0
theorem quote_len (l : List UInt8) : (Lib.trimPrefix l [34]).length + quoteN l = l.length := by
  match l with
  | [] => rfl
  | b :: r =>
    rw [tp_cons]
    show _ + (if b == 34 then 1 else 0) = _
    by_cases h : b = 34
    · subst h; rfl
    · rw [if_neg (by simpa using fun e => h (Eq.symm e)), if_neg (by simpa using h)]; rfl
set_option maxRecDepth 100000 in
theorem quote_tells1 : Tells1 86 quoteN := by
  intro s w h0 hs
  have hq := quote_len s.data.toList
  have ht := trim_calls s ⟨#[34]⟩ 34 rfl
  have Hq := Lib.hid hq
  have Ht := Lib.hid ht
  have Hsz := Lib.hid (Lib.size_eq s)
  clear hq ht
  go_enter Tryz.func86, Tryz.ntmps86
  go_wp2_with (go_at_call 87; refine (Ht.out _).mono ?_; rintro e w' ⟨R, rfl, rfl, hR, hRs⟩; have HR := Lib.hid hR; clear hR)
  go_ret
  refine ⟨?_, Below.refl _ _⟩
  have h1 := Hq.out
  rw [← HR.out, ← Lib.size_eq, ← Lib.size_eq] at h1
  have h2 : (s.size : Int) - (R.size : Int) = (quoteN s.data.toList : Nat) := by omega
  show Ending.returned (.int .i64 ((s.size : Int) - (R.size : Int))) = _
  rw [h2]
/-- the kinds, in order, and what tells each -/
def triesL : List (Nat × Nat × (List UInt8 → Nat)) := [(1, 73, runOf isBlank), (2, 76, noteN), (3, 77, wordN), (4, 78, behindN 46 simpleN), (5, 83, behindN 36 wordN), (12, 84, behindN 64 (runOf isPart)), (6, 85, numberN), (7, 86, quoteN), (13, 88, operN)]
theorem tries_tell : ∀ x ∈ triesL, Tells1 x.2.1 x.2.2 := by
  intro x hx
  simp only [triesL, List.mem_cons, List.not_mem_nil, or_false] at hx
  rcases hx with rfl | rfl | rfl | rfl | rfl | rfl | rfl | rfl | rfl
  · exact tells1_of space_tells
  · exact note_tells1
  · exact tells1_of word_tells
  · exact field_tells1
  · exact var_tells1
  · exact fmt_tells1
  · exact tells1_of number_tells
  · exact quote_tells1
  · exact oper_tells1
def triesC : List Value := triesL.flatMap fun x => [.int .i64 x.1, .func (.func x.2.1) #[] #[]]
set_option maxRecDepth 100000 in
theorem tries_calls (w : World) :
    Calls Tryz.prog 61 #[] w fun e w' => e = .returned (.slice (some ⟨w.heap.size, 0, none⟩) 9 9) ∧ w' = w.alloc (.cells triesC.toArray 103) := by
  go_enter Tryz.func61, Tryz.ntmps61
  go_wp2
  go_ret
  exact ⟨rfl, rfl⟩
end Go.Proofs.YtiinhkfbgecbjaaGreatDoor
