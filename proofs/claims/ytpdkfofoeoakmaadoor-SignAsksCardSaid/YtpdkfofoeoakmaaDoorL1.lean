/- The law SignOpers, walked. The table of blanks being laid. -/
import Derived.Test.YtpdkfofoeoakmaaDoorSg10
namespace Go.Proofs.YtpdkfofoeoakmaaDoor
open Go.RowKit Go.Sub

def OpFacts (x : List UInt8) : Prop := 0 < x.length ∧ x.length ≤ 3 ∧ operN x = x.length ∧ operN (x ++ [32]) = x.length ∧ operN (x ++ [97]) = x.length ∧ (operN (x.take 1) = 1 ∨ x = [33, 61]) ∧ operN (97 :: x) = 0
instance (x : List UInt8) : Decidable (OpFacts x) := by unfold OpFacts; infer_instance
theorem op_facts : ∀ x ∈ opsL, OpFacts x := by decide +kernel

set_option maxRecDepth 100000 in
set_option maxHeartbeats 4000000 in
theorem opers_core (k : Int) (k0 : 0 ≤ k) (k1 : k ≤ 255) (w : World) (hT : TabX w) :
    Calls Tryd.prog 6 #[.int .u8 k] w fun e w' => e = .returned (.bool true) ∧ Below w.heap.size w w' := by
  obtain ⟨x, hx⟩ : ∃ x, opsL[(k % 34).toNat]? = some x := ⟨_, List.getElem?_eq_getElem (show (k % 34).toNat < opsL.length from by show _ < 34; omega)⟩
  obtain ⟨f0, f1, f2, f3, f4, f5, f6⟩ := op_facts x (List.mem_of_getElem? hx)
  obtain ⟨O, hO⟩ : ∃ O : ByteArray, (⟨x.toArray⟩ : ByteArray) = O := ⟨_, rfl⟩
  have hcell : (w.alloc (.cells (opsL.map fun x => Value.string ⟨x.toArray⟩).toArray 9)).cell? ⟨w.heap.size, (k % 34).toNat, none⟩ = some (.string O) :=
    cell_of_block (World.alloc_heap_new _ _) (by simp [hx, ← hO])
  simp only [opsL, List.map_cons, List.map_nil] at hcell
  have HA := Lib.hid fun o => (Below.refl w.heap.size w).alloc (Nat.le_refl _) o
  have hs : O.size = x.length := by rw [← hO]; rfl
  have hs1 : 1 ≤ O.size := by omega
  have hs3 : O.size ≤ 3 := by omega
  have e1 : (O.extract 0 1).data.toList = x.take 1 := by rw [Lib.extract_data, ← hO]; rfl
  have e2 : (O ++ ⟨#[32]⟩).data.toList = x ++ [32] := by rw [← hO]; simp
  have e3 : (O ++ ⟨#[97]⟩).data.toList = x ++ [97] := by rw [← hO]; simp
  have e4 : ((⟨#[97]⟩ : ByteArray) ++ O).data.toList = 97 :: x := by rw [← hO]; simp
  have e5 : O.data.toList = x := by rw [← hO]
  have c1 : ∀ w', Calls Tryd.prog 21 #[.string (O.extract 0 1)] w' fun e W' => e = .returned (.int .i64 (operN (x.take 1) : Nat)) ∧ Below w'.heap.size w' W' := fun w' => e1 ▸ oper_calls (O.extract 0 1) w'
  have c2 : ∀ w', Calls Tryd.prog 21 #[.string (O ++ ⟨#[32]⟩)] w' fun e W' => e = .returned (.int .i64 (O.size : Nat)) ∧ Below w'.heap.size w' W' := fun w' => by rw [hs, ← f3, ← e2]; exact oper_calls _ w'
  have c3 : ∀ w', Calls Tryd.prog 21 #[.string (O ++ ⟨#[97]⟩)] w' fun e W' => e = .returned (.int .i64 (O.size : Nat)) ∧ Below w'.heap.size w' W' := fun w' => by rw [hs, ← f4, ← e3]; exact oper_calls _ w'
  have c4 : ∀ w', Calls Tryd.prog 21 #[.string ((⟨#[97]⟩ : ByteArray) ++ O)] w' fun e W' => e = .returned (.int .i64 0) ∧ Below w'.heap.size w' W' := fun w' => by
    have := oper_calls ((⟨#[97]⟩ : ByteArray) ++ O) w'; rw [e4, f6] at this; exact this
  have c5 : ∀ w', Calls Tryd.prog 21 #[.string O] w' fun e W' => e = .returned (.int .i64 (O.size : Nat)) ∧ Below w'.heap.size w' W' := fun w' => by
    have := oper_calls O w'; rw [e5, f2, ← hs] at this; exact this
  have C1 := Lib.hid c1
  have C2 := Lib.hid c2
  have C3 := Lib.hid c3
  have C4 := Lib.hid c4
  have C5 := Lib.hid c5
  have hbang : x = [33, 61] → (O.toList == [33, 61]) = true := fun h => by rw [Lib.toList_data, e5, h]; rfl
  have Hf5 := Lib.hid f5
  have Hbang := Lib.hid hbang
  clear c1 c2 c3 c4 c5 e1 e2 e3 e4 e5 f2 f3 f4 f5 f6 hs hx hO f0 f1 hbang
  generalize hn1 : operN (x.take 1) = n1 at *
  clear hn1
  rcases Hf5.out with h5 | h5
  · subst h5
    clear Hf5 Hbang
    go_enter Tryd.func6, Tryd.ntmps6
    go_wp2_with (first
      | (go_at_call 21; with_reducible refine (C1.out _).mono ?_; rintro e w' ⟨rfl, hb⟩; have hB := (HA.out _).trans (hb.mono (by simp)); replace hT := hT.below hB; clear hb hcell)
      | (go_at_call 22; refine (known_calls _ hT).mono ?_; rintro e w' ⟨rfl, hb⟩; replace hB := hB.trans (hb.mono hB.size); clear hb hT)
      | (go_at_call 21; first | with_reducible refine (C2.out _).mono ?_ | with_reducible refine (C3.out _).mono ?_ | with_reducible refine (C4.out _).mono ?_ | with_reducible refine (C5.out _).mono ?_
         rintro e w' ⟨rfl, hb⟩; replace hB := hB.trans (hb.mono hB.size); clear hb))
    go_ret
    exact ⟨rfl, hB⟩
  · have hbe := Hbang.out h5
    clear Hf5 Hbang h5
    go_enter Tryd.func6, Tryd.ntmps6
    go_wp2_with (first
      | (go_at_call 21; with_reducible refine (C1.out _).mono ?_; rintro e w' ⟨rfl, hb⟩; have hB := (HA.out _).trans (hb.mono (by simp)); replace hT := hT.below hB; clear hb hcell)
      | (go_at_call 22; refine (known_calls _ hT).mono ?_; rintro e w' ⟨rfl, hb⟩; replace hB := hB.trans (hb.mono hB.size); clear hb hT)
      | (go_at_call 21; first | with_reducible refine (C2.out _).mono ?_ | with_reducible refine (C3.out _).mono ?_ | with_reducible refine (C4.out _).mono ?_ | with_reducible refine (C5.out _).mono ?_
         rintro e w' ⟨rfl, hb⟩; replace hB := hB.trans (hb.mono hB.size); clear hb))
    all_goals
      go_ret
      exact ⟨rfl, hB⟩
end Go.Proofs.YtpdkfofoeoakmaaDoor
