/- What escapes the program reads. No condition. -/
import Derived.Test.YtiinhkfbgecbjaaGreatDoorSg4
namespace Go.Proofs.YtiinhkfbgecbjaaGreatDoor
set_option linter.unusedSimpArgs false
set_option linter.unusedVariables false
open Go.RowKit

def escPlain (c : UInt8) : Bool := c == 34 || c == 92 || c == 47 || c == 98 || c == 102 || c == 110 || c == 114 || c == 116
def escN (l : List UInt8) : Nat := match l with
  | a :: c :: r => if a == 92 then (if escPlain c then 2 else if c == 117 && runOf isHex (r.take 4) == 4 then 6 else 0) else 0
  | _ => 0
theorem escPlain_spec (b : UInt8) : escPlain b = decide (0 ≤ Lib.indexByte [34, 92, 47, 98, 102, 110, 114, 116] b) :=
  beq_iff_eq.1 (u8_all (p := fun b => escPlain b == decide (0 ≤ Lib.indexByte [34, 92, 47, 98, 102, 110, 114, 116] b)) (by decide +kernel) b)
theorem byte_ne {b : UInt8} (c : UInt8) (h : (b == c) = false) : ((b.toNat : Int) = (c.toNat : Int)) = False := by
  apply eq_false; intro e
  have : b = c := UInt8.toNat_inj.1 (by omega)
  subst this; simp at h
theorem byte_beq {b : UInt8} (c : UInt8) (h : (b == c) = false) : ((b.toNat : Int) == (c.toNat : Int)) = false := by
  rw [beq_eq_false_iff_ne, ne_eq, byte_ne c h]; simp
theorem byte_bne {b : UInt8} (c : UInt8) (h : (b == c) = false) : ((b.toNat : Int) != (c.toNat : Int)) = true := by rw [bne, byte_beq c h]; rfl
theorem byte_eq {b : UInt8} (c : UInt8) (h : (b == c) = true) : (b.toNat : Int) = (c.toNat : Int) := by rw [eq_of_beq h]
theorem idx_calls (c : Int) (b : UInt8) (hc : c = (b.toNat : Int)) (w : World) :
    Calls Tryz.prog 92 #[.string ⟨#[34, 92, 47, 98, 102, 110, 114, 116]⟩, .int .u8 c] w fun e w' => ∃ v : Int, e = .returned (.int .i64 v) ∧ w' = w ∧ (escPlain b = true → 0 ≤ v) ∧ (escPlain b = false → v < 0) := by
  refine (Tryz.strings_IndexByte _ _ _).mono ?_
  rw [hc, u8_back]
  rintro e w' ⟨rfl, rfl⟩
  refine ⟨_, rfl, rfl, fun h => ?_, fun h => ?_⟩
  · rw [escPlain_spec] at h; exact of_decide_eq_true h
  · rw [escPlain_spec] at h; exact Int.not_le.1 (of_decide_eq_false h)
theorem cons2_of (s : ByteArray) (h : 2 ≤ s.size) : s.data.toList = s[0] :: s[1] :: s.data.toList.drop 2 := by
  have hsz := Lib.size_eq s
  have h1 : s.data.toList[0]? = some s[0] := by rw [List.getElem?_eq_getElem (by omega)]; rfl
  have h2 : s.data.toList[1]? = some s[1] := by rw [List.getElem?_eq_getElem (by omega)]; rfl
  match hl : s.data.toList with
  | [] => rw [hl] at h1; simp at h1
  | [b] => rw [hl] at h2; simp at h2
  | b :: c :: r => rw [hl] at h1 h2; simp at h1 h2; simp [h1, h2]
theorem escN_le (l : List UInt8) : escN l ≤ l.length := by
  match l with
  | [] => simp [escN]
  | [_] => simp [escN]
  | a :: c :: r =>
    show (if a == 92 then (if escPlain c then 2 else if c == 117 && runOf isHex (r.take 4) == 4 then 6 else 0) else 0) ≤ r.length + 2
    split
    · split
      · omega
      · split
        · rename_i h
          have h1 := runOf_le isHex (r.take 4)
          rw [Bool.and_eq_true, beq_iff_eq, beq_iff_eq] at h
          rw [h.2, List.length_take] at h1
          omega
        · omega
    · omega

set_option maxHeartbeats 1000000 in
set_option maxRecDepth 20000 in
theorem escape_calls (s : ByteArray) (w : World) (hs : s.size < 4611686018427387904) :
    Calls Tryz.prog 105 #[.string s] w fun e w' => e = .returned (.int .i64 (escN s.data.toList : Nat)) ∧ w' = w := by
  by_cases hlt : 2 ≤ s.size
  · have hl := cons2_of s hlt
    have Hsz := Lib.hid (Lib.size_eq s)
    have hE : escN s.data.toList = if s[0] == 92 then (if escPlain s[1] then 2 else if s[1] == 117 && runOf isHex ((s.data.toList.drop 2).take 4) == 4 then 6 else 0) else 0 := by
      have : escN s.data.toList = escN (s[0] :: s[1] :: s.data.toList.drop 2) := by rw [← hl]
      rw [this]; rfl
    have HE := Lib.hid hE
    clear hl hE
    have hdl : decide ((s.size : Int) < 2) = false := by rw [decide_eq_false_iff_not]; omega
    cases h0 : (s[0] == 92)
    · have e1 : ((s[0].toNat : Int) = 92) = False := byte_ne 92 h0
      have e3 : ((s[0].toNat : Int) != 92) = true := byte_bne 92 h0
      have e2 : ((s[0].toNat : Int) == 92) = false := byte_beq 92 h0
      rw [h0] at HE
      clear h0
      go_enter Tryz.func105, Tryz.ntmps105
      go_wp2
      go_ret
      exact ⟨by rw [HE.out]; rfl, rfl⟩
    · have e1 : (s[0].toNat : Int) = 92 := byte_eq 92 h0
      rw [h0] at HE
      clear h0
      cases hp : escPlain s[1]
      · rw [hp] at HE
        have Hp := Lib.hid hp
        clear hp
        cases h1 : (s[1] == 117)
        · have e2 : ((s[1].toNat : Int) = 117) = False := byte_ne 117 h1
          have e3 : ((s[1].toNat : Int) == 117) = false := byte_beq 117 h1
          rw [h1] at HE
          clear h1
          go_enter Tryz.func105, Tryz.ntmps105
          go_wp2_with (go_at_call 92; refine (idx_calls _ s[1] (by first | rfl | exact e2.symm) _).mono ?_; rintro e w' ⟨v, rfl, rfl, h1, h2⟩; first | (replace h1 := h1 Hp.out; clear h2) | (replace h2 := h2 Hp.out; clear h1))
          go_ret
          exact ⟨by rw [HE.out]; rfl, rfl⟩
        · have e2 : (s[1].toNat : Int) = 117 := byte_eq 117 h1
          rw [h1] at HE
          clear h1
          have e4 : (s.extract 2 (min (s.size : Int) 6).toNat).data.toList = (s.data.toList.drop 2).take 4 := by
            rw [Lib.extract_data]
            by_cases h6 : 6 ≤ s.size
            · rw [show (min (s.size : Int) 6).toNat - 2 = 4 by omega]
            · rw [List.take_of_length_le (by rw [List.length_drop, ← Hsz.out]; omega), List.take_of_length_le (by rw [List.length_drop, ← Hsz.out]; omega)]
          have hrun := run_calls 119 (fun _ _ => rfl) isHex hex_calls (s.extract 2 (min (s.size : Int) 6).toNat) w (ext_lt _ _ _ hs)
          rw [e4] at hrun
          clear e4
          generalize runOf isHex ((s.data.toList.drop 2).take 4) = k at *
          go_enter Tryz.func105, Tryz.ntmps105
          go_wp2_with (first
            | (go_at_call 92; refine (idx_calls _ s[1] (by first | rfl | exact e2.symm) _).mono ?_; rintro e w' ⟨v, rfl, rfl, h1, h2⟩; first | (replace h1 := h1 Hp.out; clear h2) | (replace h2 := h2 Hp.out; clear h1))
            | (go_at_call 100; with_reducible refine hrun.mono ?_; rintro e w' ⟨rfl, rfl⟩))
          · have g : ((k : Int) == 4) = true := by assumption
            have g2 : (k == 4) = true := by have := eq_of_beq g; rw [beq_iff_eq]; omega
            go_ret
            refine ⟨?_, rfl⟩
            rw [HE.out, g2]; rfl
          · have g : ((k : Int) == 4) = false := by assumption
            have g2 : (k == 4) = false := by have := beq_eq_false_iff_ne.1 g; rw [beq_eq_false_iff_ne]; omega
            go_ret
            refine ⟨?_, rfl⟩
            rw [HE.out, g2]; rfl
      · rw [hp] at HE
        have Hp := Lib.hid hp
        clear hp
        go_enter Tryz.func105, Tryz.ntmps105
        go_wp2_with (go_at_call 92; refine (idx_calls _ s[1] (by first | rfl | exact e2.symm) _).mono ?_; rintro e w' ⟨v, rfl, rfl, h1, h2⟩; first | (replace h1 := h1 Hp.out; clear h2) | (replace h2 := h2 Hp.out; clear h1))
        go_ret
        exact ⟨by rw [HE.out]; rfl, rfl⟩
  · have hE : escN s.data.toList = 0 := by
      have := Lib.size_eq s
      match hl : s.data.toList with
      | [] => rfl
      | [b] => rfl
      | b :: c :: r => rw [hl] at this; simp at this; omega
    have HE := Lib.hid hE
    have hdl : decide ((s.size : Int) < 2) = true := by rw [decide_eq_true_iff]; omega
    clear hE
    go_enter Tryz.func105, Tryz.ntmps105
    go_wp2
    go_ret
    exact ⟨by rw [HE.out]; rfl, rfl⟩
end Go.Proofs.YtiinhkfbgecbjaaGreatDoor
