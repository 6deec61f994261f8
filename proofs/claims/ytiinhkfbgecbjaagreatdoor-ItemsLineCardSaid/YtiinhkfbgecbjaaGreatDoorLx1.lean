/- What runs, notes and tokens behind a sign the lexer reads. No condition but on a text's length. -/
import Derived.Test.YtiinhkfbgecbjaaGreatDoorSg7
import Derived.Test.YtiinhkfbgecbjaaGreatDoorShelf2
import Derived.Outline
namespace Go.Proofs.YtiinhkfbgecbjaaGreatDoor
set_option linter.unusedSimpArgs false
set_option linter.unusedVariables false
open Go.RowKit Go.Sub

theorem ret_n {a b : Nat} (h : a = b) : Ending.returned (.int .i64 (a : Int)) = .returned (.int .i64 (b : Int)) := by rw [h]
theorem ret_b {a b : Bool} (h : a = b) : Ending.returned (.bool a) = .returned (.bool b) := by rw [h]

set_option maxRecDepth 100000 in
set_option maxHeartbeats 400000 in
theorem lpart_calls (b : UInt8) (w : World) :
    Calls Tryz.prog 98 #[.int .u8 b.toNat] w fun e w' => e = .returned (.bool (isPart b)) ∧ w' = w := by
  cases hl : isLetter b
  all_goals
    have Hl := Lib.hid hl
    clear hl
    go_enter Tryz.func98, Tryz.ntmps98
    go_wp2_with (first | (go_at_call 81; refine (letter_calls b _).mono ?_; rw [Hl.out]; rintro e w' ⟨rfl, rfl⟩) | (go_at_call 99; refine (digit_calls b _).mono ?_; rintro e w' ⟨rfl, rfl⟩))
    go_ret
    exact ⟨by unfold isPart; rw [Hl.out]; rfl, rfl⟩

set_option maxRecDepth 100000 in
set_option maxHeartbeats 1000000 in
theorem lrun_calls (g : Nat) (eg : ∀ args w, (callFunc g args).run Tryz.prog w = .ok (.enter g args) w) (p : UInt8 → Bool)
    (hp : ∀ (b : UInt8) w, Calls Tryz.prog g #[.int .u8 b.toNat] w fun e w' => e = .returned (.bool (p b)) ∧ w' = w) (s : ByteArray) (w : World) (hs : s.size < 4611686018427387904) :
    Calls Tryz.prog 74 #[.string s, .func (.func g) #[] #[]] w fun e w' => e = .returned (.int .i64 (runOf p s.data.toList : Nat)) ∧ w' = w := by
  have Hp := Lib.hid hp
  have Eg := Lib.hid eg
  clear hp eg
  have hsz := Lib.size_eq s
  go_enter Tryz.func74, Tryz.ntmps74
  go_wp2
  go_loopw [5] (fun i wr => ∃ n : Nat, n ≤ s.size ∧ i = .int .i64 n ∧ n + runOf p (s.data.toList.drop n) = runOf p s.data.toList ∧ wr = w) (fun i _ => s.size - (intOf i).toNat)
  case atStart => exact ⟨0, by omega, rfl, by simp, rfl⟩
  case round =>
    obtain ⟨n, hn, rfl, hrun, rfl⟩ := hrel
    by_cases hlt : n < s.size
    · have hb : s.data.toList[n]? = some s[n] := by rw [List.getElem?_eq_getElem (by omega)]; rfl
      have Hrun := Lib.hid hrun
      have Hsz := Lib.hid hsz
      have Hb := Lib.hid hb
      clear hrun hsz hb
      cases hpb : p s[n]
      all_goals
        have Hpb := Lib.hid hpb
        clear hpb
        go_wp2
        rw [Eg.out, Oper.upon_enter]
        refine (Hp.out _ _).mono ?_
        rw [Hpb.out]
        rintro e w' ⟨rfl, rfl⟩
        go_wp2
      · go_ret
        refine ⟨ret_n ?_, rfl⟩
        have h1 := Hrun.out
        rw [runOf_drop_miss p _ n _ Hb.out Hpb.out] at h1
        exact h1
      · go_roundw
        case rel =>
          have h1 := Hrun.out
          rw [runOf_drop_hit p _ n _ Hb.out Hpb.out] at h1
          exact ⟨n + 1, by omega, by go_num, by omega, trivial⟩
        case measure => simp [intOf]; omega
    · obtain rfl : n = s.size := by omega
      have Hrun := Lib.hid hrun
      have Hsz := Lib.hid hsz
      clear hrun hsz
      go_wp2
      go_ret
      refine ⟨ret_n ?_, rfl⟩
      have h1 := Hrun.out
      rw [runOf_drop_end p _ _ (Nat.le_of_eq Hsz.out.symm)] at h1
      exact h1

/-- a function that tells how many bytes of a text's front are such a one -/
def Tells (g : Nat) (f : List UInt8 → Nat) : Prop := ∀ (s : ByteArray) w, s.size < 4611686018427387904 → Calls Tryz.prog g #[.string s] w fun e w' => e = .returned (.int .i64 (f s.data.toList : Nat)) ∧ w' = w
set_option maxRecDepth 100000 in
theorem parts_tells : Tells 82 (runOf isPart) := by
  intro s w hs
  go_enter Tryz.func82, Tryz.ntmps82
  go_wp2_with (go_at_call 74; refine (lrun_calls 98 (fun _ _ => rfl) isPart lpart_calls s _ hs).mono ?_; rintro e w' ⟨rfl, rfl⟩)
  go_ret
  exact ⟨rfl, rfl⟩
set_option maxRecDepth 100000 in
theorem space_tells : Tells 73 (runOf isBlank) := by
  intro s w hs
  go_enter Tryz.func73, Tryz.ntmps73
  go_wp2_with (go_at_call 74; refine (lrun_calls 75 (fun _ _ => rfl) isBlank blank_calls s _ hs).mono ?_; rintro e w' ⟨rfl, rfl⟩)
  go_ret
  exact ⟨rfl, rfl⟩
set_option maxRecDepth 100000 in
theorem field1_tells : Tells 80 simpleN := by
  intro s w hs
  by_cases h0 : s.size = 0
  · obtain rfl : s = ByteArray.empty := ByteArray.size_eq_zero_iff.1 h0
    go_enter Tryz.func80, Tryz.ntmps80
    go_wp2
    go_ret
    exact ⟨rfl, rfl⟩
  · have hlt : 0 < s.size := by omega
    have hl := cons_of s hlt
    have hsp : simpleN s.data.toList = if isLetter s[0] then runOf isPart s.data.toList else 0 := by rw [hl]; rfl
    obtain ⟨he, he2⟩ := not_empty s hlt
    have Hsp := Lib.hid hsp
    clear hsp hl
    cases hL : isLetter s[0]
    all_goals
      have HL := Lib.hid hL
      rw [hL] at Hsp
      clear hL
      go_enter Tryz.func80, Tryz.ntmps80
      go_wp2_with (first
        | (go_at_call 81; refine (letter_calls _ _).mono ?_; rw [HL.out]; rintro e w' ⟨rfl, rfl⟩)
        | (go_at_call 82; refine (parts_tells s _ hs).mono ?_; rintro e w' ⟨rfl, rfl⟩))
      go_ret
      exact ⟨by rw [Hsp.out]; rfl, rfl⟩
/-- what stands behind a sign -/
def behindN (c : UInt8) (f : List UInt8 → Nat) (l : List UInt8) : Nat := match l with
  | [] => 0
  | b :: r => if b == c then (if f r = 0 then 0 else f r + 1) else 0
set_option maxRecDepth 100000 in
set_option maxHeartbeats 1000000 in
theorem behind_calls (g : Nat) (eg : ∀ args w, (callFunc g args).run Tryz.prog w = .ok (.enter g args) w) (f : List UInt8 → Nat) (hf : Tells g f) (c : UInt8) (s : ByteArray) (w : World) (hs : s.size < 4611686018427387904) (h0 : 0 < s.size) (hle : f (s.data.toList.drop 1) ≤ s.size) :
    Calls Tryz.prog 79 #[.string s, .int .u8 (c.toNat : Int), .func (.func g) #[] #[]] w fun e w' => e = .returned (.int .i64 (behindN c f s.data.toList : Nat)) ∧ w' = w := by
  have hb : behindN c f s.data.toList = if s[0] == c then (if f (s.data.toList.drop 1) = 0 then 0 else f (s.data.toList.drop 1) + 1) else 0 := by rw [cons_of s h0]; rfl
  have hc := fun w => hf (s.extract 1 s.size) w (ext_lt _ _ _ hs)
  rw [ext_data] at hc
  have Hb := Lib.hid hb
  have Hc := Lib.hid hc
  have Eg := Lib.hid eg
  clear hb hc eg hf
  generalize f (s.data.toList.drop 1) = n at *
  generalize behindN c f s.data.toList = r at *
  cases h : (s[0] == c)
  · have y1 := byte_bne c h
    have y2 := byte_ne c h
    rw [h] at Hb
    clear h
    go_enter Tryz.func79, Tryz.ntmps79
    go_wp2
    go_ret
    exact ⟨by rw [Hb.out]; rfl, rfl⟩
  · rw [h] at Hb
    have e0 : s[0] = c := eq_of_beq h
    have y1 : ((s[0].toNat : Int) != (c.toNat : Int)) = false := by rw [e0]; simp
    clear e0 h
    by_cases hn : n = 0
    · subst hn
      go_enter Tryz.func79, Tryz.ntmps79
      go_wp2
      rw [Eg.out, Oper.upon_enter]
      refine (Hc.out _).mono ?_
      rintro e w' ⟨rfl, rfl⟩
      go_wp2
      go_ret
      exact ⟨by rw [Hb.out]; rfl, rfl⟩
    · have hpos : 0 < n := by omega
      go_enter Tryz.func79, Tryz.ntmps79
      go_wp2
      rw [Eg.out, Oper.upon_enter]
      refine (Hc.out _).mono ?_
      rintro e w' ⟨rfl, rfl⟩
      go_wp2
      go_ret
      refine ⟨?_, rfl⟩
      have e := Hb.out
      simp only [if_true, if_neg hn] at e
      rw [e]
      rfl
end Go.Proofs.YtiinhkfbgecbjaaGreatDoor
