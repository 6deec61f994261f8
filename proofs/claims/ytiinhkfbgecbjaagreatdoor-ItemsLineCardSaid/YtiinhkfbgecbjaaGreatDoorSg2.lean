/- What runs of a class, and simple names, the program reads. No condition. -/
import Derived.Test.YtiinhkfbgecbjaaGreatDoorSg1
import Derived.Test.YtiinhkfbgecbjaaGreatDoorShelf
import Derived.Deep.QuietTactic
import Derived.BigQuiet
namespace Go.Proofs.YtiinhkfbgecbjaaGreatDoor
set_option linter.unusedSimpArgs false
set_option linter.unusedVariables false
open Go.RowKit

def runOf (p : UInt8 → Bool) (l : List UInt8) : Nat := (l.takeWhile p).length
def simpleN (l : List UInt8) : Nat := match l with | [] => 0 | b :: r => if isLetter b then runOf isPart (b :: r) else 0

theorem runOf_le (p : UInt8 → Bool) (l : List UInt8) : runOf p l ≤ l.length := by
  unfold runOf
  induction l with
  | nil => simp
  | cons b r ih => rw [List.takeWhile_cons]; split <;> simp; omega
theorem runOf_drop_hit (p : UInt8 → Bool) (l : List UInt8) (n : Nat) (b : UInt8) (h : l[n]? = some b) (hp : p b = true) : runOf p (l.drop n) = runOf p (l.drop (n + 1)) + 1 := by
  obtain ⟨hn, rfl⟩ := List.getElem?_eq_some_iff.1 h
  rw [List.drop_eq_getElem_cons hn]
  unfold runOf
  rw [List.takeWhile_cons, if_pos hp]; rfl
theorem runOf_drop_miss (p : UInt8 → Bool) (l : List UInt8) (n : Nat) (b : UInt8) (h : l[n]? = some b) (hp : p b = false) : runOf p (l.drop n) = 0 := by
  obtain ⟨hn, rfl⟩ := List.getElem?_eq_some_iff.1 h
  rw [List.drop_eq_getElem_cons hn]
  unfold runOf
  rw [List.takeWhile_cons, if_neg (by simp [hp])]; rfl
theorem runOf_drop_end (p : UInt8 → Bool) (l : List UInt8) (n : Nat) (h : l.length ≤ n) : runOf p (l.drop n) = 0 := by
  rw [List.drop_eq_nil_of_le h]; rfl

theorem blank_spec (b : UInt8) : isBlank b = decide (0 ≤ Lib.indexByte [32, 9, 10, 13] b) :=
  beq_iff_eq.1 (u8_all (p := fun b => isBlank b == decide (0 ≤ Lib.indexByte [32, 9, 10, 13] b)) (by decide +kernel) b)
theorem u8_back (b : UInt8) : ((b.toNat : Int)).toNat.toUInt8 = b := by simp

set_option maxHeartbeats 400000 in
theorem blank_calls (b : UInt8) (w : World) :
    Calls Tryz.prog 75 #[.int .u8 b.toNat] w fun e w' => e = .returned (.bool (isBlank b)) ∧ w' = w := by
  have Hs := Lib.hid (blank_spec b)
  go_enter Tryz.func75, Tryz.ntmps75
  go_wp2_with (go_at_call 92; refine (Tryz.strings_IndexByte _ _ _).mono ?_; rw [u8_back]; rintro e w' ⟨rfl, rfl⟩)
  go_ret
  exact ⟨by rw [Hs.out]; rfl, rfl⟩

set_option maxHeartbeats 1000000 in
set_option maxRecDepth 20000 in
theorem run_calls (g : Nat) (eg : ∀ args w, (callFunc g args).run Tryz.prog w = .ok (.enter g args) w) (p : UInt8 → Bool)
    (hp : ∀ (b : UInt8) w, Calls Tryz.prog g #[.int .u8 b.toNat] w fun e w' => e = .returned (.bool (p b)) ∧ w' = w) (s : ByteArray) (w : World) (hs : s.size < 4611686018427387904) :
    Calls Tryz.prog 100 #[.func (.func g) #[] #[], .string s] w fun e w' => e = .returned (.int .i64 (runOf p s.data.toList : Nat)) ∧ w' = w := by
  have Hp := Lib.hid hp
  have Eg := Lib.hid eg
  clear hp eg
  have hsz := Lib.size_eq s
  go_enter Tryz.func100, Tryz.ntmps100
  go_wp2
  go_loopw [5] (fun i wr => ∃ n : Nat, n ≤ s.size ∧ i = .int .i64 n ∧ n + runOf p (s.data.toList.drop n) = runOf p s.data.toList ∧ wr = w) (fun i _ => s.size - (intOf i).toNat)
  case atStart => exact ⟨0, by omega, rfl, by simp, rfl⟩
  case round =>
    obtain ⟨n, hn, rfl, hrun, rfl⟩ := hrel
    by_cases hlt : n < s.size
    · have hb : s.data.toList[n]? = some s[n] := by rw [List.getElem?_eq_getElem (by omega)]; rfl
      have Hrun := Lib.hid hrun
      have Hsz := Lib.hid hsz
      have Hb := Lib.hid hb
      clear hrun hsz hb
      cases hpb : p s[n]
      · have Hpb := Lib.hid hpb
        clear hpb
        go_wp2
        rw [Eg.out, Oper.upon_enter]
        refine (Hp.out _ _).mono ?_
        rw [Hpb.out]
        rintro e w' ⟨rfl, rfl⟩
        go_wp2
        go_ret
        refine ⟨?_, rfl⟩
        have h1 := Hrun.out
        rw [runOf_drop_miss p _ n _ Hb.out Hpb.out] at h1
        rw [← h1]; rfl
      · have Hpb := Lib.hid hpb
        clear hpb
        go_wp2
        rw [Eg.out, Oper.upon_enter]
        refine (Hp.out _ _).mono ?_
        rw [Hpb.out]
        rintro e w' ⟨rfl, rfl⟩
        go_wp2
        go_roundw
        case rel =>
          have h1 := Hrun.out
          rw [runOf_drop_hit p _ n _ Hb.out Hpb.out] at h1
          exact ⟨n + 1, by omega, by go_num, by omega, trivial⟩
        case measure => simp [intOf]; omega
    · obtain rfl : n = s.size := by omega
      have Hrun := Lib.hid hrun
      have Hsz := Lib.hid hsz
      clear hrun hsz
      go_wp2
      go_ret
      refine ⟨?_, rfl⟩
      have h1 := Hrun.out
      rw [runOf_drop_end p _ _ (Nat.le_of_eq Hsz.out.symm)] at h1
      rw [← h1]; rfl

set_option maxHeartbeats 400000 in
set_option maxRecDepth 20000 in
theorem simple_calls (s : ByteArray) (w : World) (hs : s.size < 4611686018427387904) :
    Calls Tryz.prog 96 #[.string s] w fun e w' => e = .returned (.int .i64 (simpleN s.data.toList : Nat)) ∧ w' = w := by
  by_cases h0 : s.size = 0
  · obtain rfl : s = ByteArray.empty := ByteArray.size_eq_zero_iff.1 h0
    go_enter Tryz.func96, Tryz.ntmps96
    go_wp2
    go_ret
    exact ⟨rfl, rfl⟩
  · have hlt : 0 < s.size := by omega
    have hsz := Lib.size_eq s
    obtain ⟨b, r, hl⟩ : ∃ b r, s.data.toList = b :: r := by
      match h : s.data.toList with
      | [] => rw [h] at hsz; exact absurd hsz h0
      | b :: r => exact ⟨b, r, rfl⟩
    have hb : s[0] = b := by
      have : s.data.toList[0]? = some s[0] := by rw [List.getElem?_eq_getElem (by omega)]; rfl
      rw [hl] at this; simpa using this.symm
    have hsp : simpleN s.data.toList = if isLetter s[0] then runOf isPart s.data.toList else 0 := by rw [hb, hl]; rfl
    have he : s.toList.isEmpty = false := by rw [Lib.toList_data, hl]; rfl
    have he2 : (s.toList = []) = False := by rw [Lib.toList_data, hl]; simp
    have Hsp := Lib.hid hsp
    clear hsp hb hsz
    cases hL : isLetter s[0]
    all_goals
      have HL := Lib.hid hL
      rw [hL] at Hsp
      clear hL hl
      go_enter Tryz.func96, Tryz.ntmps96
      go_wp2_with (first
        | (go_at_call 81; refine (letter_calls _ _).mono ?_; rw [HL.out]; rintro e w' ⟨rfl, rfl⟩)
        | (go_at_call 100; refine (run_calls 113 (fun _ _ => rfl) isPart part_calls s _ hs).mono ?_; rintro e w' ⟨rfl, rfl⟩))
      go_ret
      exact ⟨by rw [Hsp.out]; rfl, rfl⟩
end Go.Proofs.YtiinhkfbgecbjaaGreatDoor
