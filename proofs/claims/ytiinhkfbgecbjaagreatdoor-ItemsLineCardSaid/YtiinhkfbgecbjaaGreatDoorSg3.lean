/- What numbers and words the program reads. No condition. -/
import Derived.Test.YtiinhkfbgecbjaaGreatDoorSg2
namespace Go.Proofs.YtiinhkfbgecbjaaGreatDoor
set_option linter.unusedSimpArgs false
set_option linter.unusedVariables false
open Go.RowKit

def signOff (r : List UInt8) : List UInt8 := match r with | [] => [] | b :: t => if b == 43 || b == 45 then t else b :: t
def powerN (l : List UInt8) : Nat := match l with
  | [] => 0
  | b :: r => if b == 101 || b == 69 then (if runOf isDigit (signOff r) = 0 then 0 else l.length - (signOff r).length + runOf isDigit (signOff r)) else 0
def mantN (l : List UInt8) : Nat :=
  if l[runOf isDigit l]? = some 46 then (if runOf isDigit l + runOf isDigit (l.drop (runOf isDigit l + 1)) = 0 then 0 else runOf isDigit l + (1 + runOf isDigit (l.drop (runOf isDigit l + 1)))) else runOf isDigit l
def numberN (l : List UInt8) : Nat := if mantN l = 0 then 0 else mantN l + powerN (l.drop (mantN l))

theorem signOff_le (r : List UInt8) : (signOff r).length ≤ r.length := by
  match r with
  | [] => simp [signOff]
  | b :: t =>
    show (if b == 43 || b == 45 then t else b :: t).length ≤ (b :: t).length
    split <;> simp
theorem powerN_le (l : List UInt8) : powerN l ≤ l.length := by
  match l with
  | [] => simp [powerN]
  | b :: r =>
    have h1 := signOff_le r
    have h2 := runOf_le isDigit (signOff r)
    show (if b == 101 || b == 69 then (if runOf isDigit (signOff r) = 0 then 0 else (b :: r).length - (signOff r).length + runOf isDigit (signOff r)) else 0) ≤ (b :: r).length
    have h3 : (b :: r).length = r.length + 1 := rfl
    split
    · split <;> omega
    · omega
theorem mantN_le (l : List UInt8) : mantN l ≤ l.length := by
  have h1 := runOf_le isDigit l
  have h2 := runOf_le isDigit (l.drop (runOf isDigit l + 1))
  rw [List.length_drop] at h2
  unfold mantN
  split
  · rename_i h
    obtain ⟨h3, _⟩ := List.getElem?_eq_some_iff.1 h
    split <;> omega
  · omega
theorem numberN_le (l : List UInt8) : numberN l ≤ l.length := by
  have h1 := mantN_le l
  have h2 := powerN_le (l.drop (mantN l))
  rw [List.length_drop] at h2
  unfold numberN; split <;> omega

theorem e_spec (b : UInt8) : (b == 101 || b == 69) = (bits .or .u8 (b.toNat : Int) 32 == 101) :=
  beq_iff_eq.1 (u8_all (p := fun b => (b == 101 || b == 69) == (bits .or .u8 (b.toNat : Int) 32 == 101)) (by decide +kernel) b)
theorem ext_data (s : ByteArray) (n : Nat) : (s.extract n s.size).data.toList = s.data.toList.drop n := by
  rw [Lib.extract_data, Lib.size_eq, List.take_of_length_le (by rw [List.length_drop]; exact Nat.le_refl _)]
theorem ext_size (s : ByteArray) (n : Nat) : (s.extract n s.size).size = s.size - n := by
  rw [Lib.size_eq, ext_data, List.length_drop, ← Lib.size_eq]
theorem ext_lt (s : ByteArray) (a b : Nat) {n : Nat} (hs : s.size < n) : (s.extract a b).size < n := by
  rw [Lib.size_eq, Lib.extract_data]
  have := Lib.size_eq s
  simp only [List.length_take, List.length_drop]
  omega
theorem mk_size (l : List UInt8) : (⟨l.toArray⟩ : ByteArray).size = l.length := rfl
theorem cons_of (s : ByteArray) (h : 0 < s.size) : s.data.toList = s[0] :: s.data.toList.drop 1 := by
  have hsz := Lib.size_eq s
  have h1 : s.data.toList[0]? = some s[0] := by rw [List.getElem?_eq_getElem (by omega)]; rfl
  match hl : s.data.toList with
  | [] => rw [hl] at h1; simp at h1
  | b :: r => rw [hl] at h1; simp at h1; simp [h1]
theorem not_empty (s : ByteArray) (h : 0 < s.size) : s.toList.isEmpty = false ∧ ((s.toList = []) = False) := by
  rw [Lib.toList_data, cons_of s h]; simp
theorem tp_cons (c b : UInt8) (r : List UInt8) : Lib.trimPrefix (b :: r) [c] = if c == b then r else b :: r := by
  unfold Lib.trimPrefix Lib.hasPrefix
  simp [List.isPrefixOf]
theorem signOff_hit (r : List UInt8) (h : (Lib.trimPrefix r [43]).length ≠ r.length) : signOff r = Lib.trimPrefix r [43] := by
  match r with
  | [] => rfl
  | b :: t =>
    rw [tp_cons] at h ⊢
    by_cases hc : (43 : UInt8) = b
    · subst hc; rfl
    · rw [if_neg (by simpa using hc)] at h; exact absurd rfl h
theorem signOff_miss (r : List UInt8) (h : (Lib.trimPrefix r [43]).length = r.length) : signOff r = Lib.trimPrefix (Lib.trimPrefix r [43]) [45] := by
  match r with
  | [] => rfl
  | b :: t =>
    rw [tp_cons] at h ⊢
    by_cases hc : (43 : UInt8) = b
    · subst hc; simp at h
    · rw [if_neg (by simpa using hc), tp_cons]
      show (if b == 43 || b == 45 then t else b :: t) = _
      by_cases h5 : (45 : UInt8) = b
      · subst h5; rfl
      · rw [if_neg (by simpa using And.intro (fun h => hc (Eq.symm h)) (fun h => h5 (Eq.symm h))), if_neg (by simpa using h5)]

theorem trim_calls (s p : ByteArray) (c : UInt8) (hp : p.data.toList = [c]) (w : World) :
    Calls Tryz.prog 87 #[.string s, .string p] w fun e w' => ∃ R : ByteArray, e = .returned (.string R) ∧ w' = w ∧ R.data.toList = Lib.trimPrefix s.data.toList [c] ∧ R.size ≤ s.size := by
  refine (Tryz.strings_TrimPrefix _ _ _).mono ?_
  rintro e w' ⟨rfl, rfl⟩
  exact ⟨_, rfl, rfl, by rw [hp], by rw [Lib.size_eq, Lib.size_eq s]; exact Lib.trimPrefix_le _ _⟩

set_option maxHeartbeats 1000000 in
set_option maxRecDepth 20000 in
theorem power_calls (s : ByteArray) (w : World) (hs : s.size < 4611686018427387904) :
    Calls Tryz.prog 101 #[.string s] w fun e w' => e = .returned (.int .i64 (powerN s.data.toList : Nat)) ∧ w' = w := by
  by_cases h0 : s.size = 0
  · obtain rfl : s = ByteArray.empty := ByteArray.size_eq_zero_iff.1 h0
    go_enter Tryz.func101, Tryz.ntmps101
    go_wp2
    go_ret
    exact ⟨rfl, rfl⟩
  · have hlt : 0 < s.size := by omega
    have hl := cons_of s hlt
    obtain ⟨he, he2⟩ := not_empty s hlt
    have hE := e_spec s[0]
    have hk : powerN s.data.toList = if s[0] == 101 || s[0] == 69 then (if runOf isDigit (signOff (s.data.toList.drop 1)) = 0 then 0 else s.size - (signOff (s.data.toList.drop 1)).length + runOf isDigit (signOff (s.data.toList.drop 1))) else 0 := by
      rw [Lib.size_eq s]
      have : powerN s.data.toList = powerN (s[0] :: s.data.toList.drop 1) := by rw [← hl]
      rw [this, powerN, ← hl]
    cases hb : (s[0] == 101 || s[0] == 69)
    · rw [hb] at hE hk
      have Hk := Lib.hid hk
      have hE1 : (bits .or .u8 (s[0].toNat : Int) 32 = 101) = False := by simpa using hE.symm
      have hE2 := hE.symm
      clear hb hk hl hE
      go_enter Tryz.func101, Tryz.ntmps101
      go_wp2
      go_ret
      exact ⟨by rw [Hk.out]; rfl, rfl⟩
    · rw [hb] at hE hk
      have hE1 : bits .or .u8 (s[0].toNat : Int) 32 = 101 := by simpa using hE.symm
      rw [if_pos rfl] at hk
      have Hk := Lib.hid hk
      have Hl := Lib.hid hl
      clear hb hk hl hE
      have hsR := Lib.size_eq s
      have HsR := Lib.hid hsR
      clear hsR
      go_enter Tryz.func101, Tryz.ntmps101
      go_wp2_with (first
        | (go_at_call 87; refine (trim_calls _ _ 43 (by decide +kernel) _).mono ?_; rintro e w' ⟨R, rfl, rfl, hR, hle⟩; have hsR : R.size < 4611686018427387904 := Nat.lt_of_le_of_lt hle (ext_lt _ _ _ hs); clear hle; have HR := Lib.hid hR; clear hR; have HRs := Lib.hid (Lib.size_eq R))
        | (go_at_call 87; refine (trim_calls _ _ 45 (by decide +kernel) _).mono ?_; rintro e w' ⟨R2, rfl, rfl, hR, hle⟩; have hsR2 : R2.size < 4611686018427387904 := Nat.lt_of_le_of_lt hle hsR; clear hle; have HR2 := Lib.hid hR; clear hR; have HRs2 := Lib.hid (Lib.size_eq R2))
        | (go_at_call 100; refine (run_calls 99 (fun _ _ => rfl) isDigit digit_calls _ _ (by assumption)).mono ?_; rintro e w' ⟨rfl, rfl⟩))
      · have h1 : ((R.size : Int) == (s.size : Int) - 1) = true := by assumption
        have h2 : (((runOf isDigit R2.data.toList : Nat) : Int) == 0) = true := by assumption
        go_ret
        refine ⟨?_, rfl⟩
        have e1 : (Lib.trimPrefix (s.data.toList.drop 1) [43]).length = (s.data.toList.drop 1).length := by
          rw [← ext_data, ← HR.out, ← HRs.out, ext_data, List.length_drop, ← HsR.out]
          have := eq_of_beq h1; omega
        have e2 := signOff_miss _ e1
        rw [← ext_data, ← HR.out, ← HR2.out] at e2
        have e3 : runOf isDigit R2.data.toList = 0 := by have := eq_of_beq h2; omega
        rw [Hk.out, ← ext_data, e2, e3]; rfl
      · have h1 : ((R.size : Int) == (s.size : Int) - 1) = true := by assumption
        have h2 : (((runOf isDigit R2.data.toList : Nat) : Int) == 0) = false := by assumption
        go_ret
        refine ⟨?_, rfl⟩
        have e1 : (Lib.trimPrefix (s.data.toList.drop 1) [43]).length = (s.data.toList.drop 1).length := by
          rw [← ext_data, ← HR.out, ← HRs.out, ext_data, List.length_drop, ← HsR.out]
          have := eq_of_beq h1; omega
        have e2 := signOff_miss _ e1
        rw [← ext_data, ← HR.out, ← HR2.out] at e2
        have e3 : ¬ runOf isDigit R2.data.toList = 0 := fun h => by rw [h] at h2; simp at h2
        have e4 := signOff_le (s.extract 1 s.size).data.toList
        rw [e2, ← HRs2.out, ← Lib.size_eq, ext_size] at e4
        have e5 := runOf_le isDigit R2.data.toList
        rw [← HRs2.out] at e5
        rw [Hk.out, ← ext_data, e2, if_neg e3, ← HRs2.out]
        show Ending.returned (.int .i64 (wrap64 _)) = _
        rw [IntWalk.wrap64_in _ (by omega)]
        congr 2; omega
      · have h1 : ((R.size : Int) == (s.size : Int) - 1) = false := by assumption
        have h2 : (((runOf isDigit R.data.toList : Nat) : Int) == 0) = true := by assumption
        go_ret
        refine ⟨?_, rfl⟩
        have e1 : (Lib.trimPrefix (s.data.toList.drop 1) [43]).length ≠ (s.data.toList.drop 1).length := by
          rw [← ext_data, ← HR.out, ← HRs.out, ext_data, List.length_drop, ← HsR.out]
          intro h
          have := (beq_eq_false_iff_ne.1 h1); omega
        have e2 := signOff_hit _ e1
        rw [← ext_data, ← HR.out] at e2
        have e3 : runOf isDigit R.data.toList = 0 := by have := eq_of_beq h2; omega
        rw [Hk.out, ← ext_data, e2, e3]; rfl
      · have h1 : ((R.size : Int) == (s.size : Int) - 1) = false := by assumption
        have h2 : (((runOf isDigit R.data.toList : Nat) : Int) == 0) = false := by assumption
        go_ret
        refine ⟨?_, rfl⟩
        have e1 : (Lib.trimPrefix (s.data.toList.drop 1) [43]).length ≠ (s.data.toList.drop 1).length := by
          rw [← ext_data, ← HR.out, ← HRs.out, ext_data, List.length_drop, ← HsR.out]
          intro h
          have := (beq_eq_false_iff_ne.1 h1); omega
        have e2 := signOff_hit _ e1
        rw [← ext_data, ← HR.out] at e2
        have e3 : ¬ runOf isDigit R.data.toList = 0 := fun h => by rw [h] at h2; simp at h2
        have e4 := signOff_le (s.extract 1 s.size).data.toList
        rw [e2, ← HRs.out, ← Lib.size_eq, ext_size] at e4
        have e5 := runOf_le isDigit R.data.toList
        rw [← HRs.out] at e5
        rw [Hk.out, ← ext_data, e2, if_neg e3, ← HRs.out]
        show Ending.returned (.int .i64 (wrap64 _)) = _
        rw [IntWalk.wrap64_in _ (by omega)]
        congr 2; omega

theorem dig_dot (l : List UInt8) (h : l[runOf isDigit l]? = some 46) : mantN l = if runOf isDigit l + runOf isDigit (l.drop (runOf isDigit l + 1)) = 0 then 0 else runOf isDigit l + (1 + runOf isDigit (l.drop (runOf isDigit l + 1))) := by
  unfold mantN; rw [if_pos h]

set_option maxHeartbeats 1000000 in
set_option maxRecDepth 20000 in
theorem number_calls (s : ByteArray) (w : World) (hs : s.size < 4611686018427387904) :
    Calls Tryz.prog 85 #[.string s] w fun e w' => e = .returned (.int .i64 (numberN s.data.toList : Nat)) ∧ w' = w := by
  obtain ⟨n, hn⟩ : ∃ n, runOf isDigit s.data.toList = n := ⟨_, rfl⟩
  have hle := runOf_le isDigit s.data.toList
  rw [hn, ← Lib.size_eq] at hle
  have Hn := Lib.hid hn
  have Hsz := Lib.hid (Lib.size_eq s)
  have hrun := run_calls 99 (fun _ _ => rfl) isDigit digit_calls s w hs
  rw [hn] at hrun
  clear hn
  have tailNone : mantN s.data.toList = n → n = 0 → numberN s.data.toList = 0 := fun h h0 => by unfold numberN; rw [if_pos (by omega)]
  have tailSome : ∀ m, mantN s.data.toList = m → m ≠ 0 → m ≤ s.size → numberN s.data.toList = m + powerN ((s.data.toList.drop m).take (s.size - m)) ∧ powerN ((s.data.toList.drop m).take (s.size - m)) ≤ s.size - m := fun m h h0 _ => by
    have e : (s.data.toList.drop m).take (s.size - m) = s.data.toList.drop m := by rw [← Lib.extract_data, ext_data]
    have h2 := powerN_le (s.data.toList.drop m)
    rw [List.length_drop, ← Hsz.out] at h2
    rw [e]
    exact ⟨by unfold numberN; rw [if_neg (by omega), h], h2⟩
  have T1 := Lib.hid tailNone
  have T2 := Lib.hid tailSome
  clear tailNone tailSome
  by_cases hlt : n < s.size
  · by_cases hd : s[n] = 46
    · have hat : s.data.toList[n]? = some 46 := by rw [List.getElem?_eq_getElem (by rw [← Hsz.out]; exact hlt), ← hd]; rfl
      have hm := dig_dot s.data.toList (by rw [Hn.out]; exact hat)
      rw [Hn.out, ← ext_data] at hm
      have hrun2 := run_calls 99 (fun _ _ => rfl) isDigit digit_calls (s.extract (n + 1) s.size) w (ext_lt _ _ _ hs)
      obtain ⟨k, hk⟩ : ∃ k, runOf isDigit (s.extract (n + 1) s.size).data.toList = k := ⟨_, rfl⟩
      have hk2 := runOf_le isDigit (s.extract (n + 1) s.size).data.toList
      rw [hk, ← Lib.size_eq, ext_size] at hk2
      rw [hk] at hm hrun2
      have Hm := Lib.hid hm
      have hd2 : (s[n].toNat : Int) = 46 := by rw [hd]; rfl
      have hw1 : IntKind.i64.wrap ((n : Int) + 1) = (n : Int) + 1 := IntWalk.i64_in _ (by omega)
      clear hm hk hat hd
      go_enter Tryz.func85, Tryz.ntmps85
      go_wp2_with (first
        | (go_at_call 100; with_reducible refine hrun.mono ?_; rintro e w' ⟨rfl, rfl⟩)
        | (go_at_call 100; with_reducible refine hrun2.mono ?_; rintro e w' ⟨rfl, rfl⟩)
        | (go_at_call 101; refine (power_calls _ _ (ext_lt _ _ _ hs)).mono ?_; rintro e w' ⟨rfl, rfl⟩))
      · have h1 : (((n : Nat) : Int) + (k : Int) == 0) = true := by assumption
        go_ret
        refine ⟨?_, rfl⟩
        have h2 := eq_of_beq h1
        have h3 := Hm.out
        rw [if_pos (by omega)] at h3
        have h4 : numberN s.data.toList = 0 := by unfold numberN; rw [if_pos h3]
        rw [h4]; rfl
      · have h1 : (((n : Nat) : Int) + (k : Int) == 0) = false := by assumption
        go_ret
        refine ⟨?_, rfl⟩
        have h2 := beq_eq_false_iff_ne.1 h1
        have h3 := Hm.out
        rw [if_neg (by omega)] at h3
        obtain ⟨h4, h5⟩ := T2.out _ h3 (by omega) (by omega)
        rw [h4]
        show Ending.returned (.int .i64 (wrap64 _)) = _
        rw [IntWalk.wrap64_in _ (by omega)]
        congr 2
    · have hat : ¬ s.data.toList[runOf isDigit s.data.toList]? = some 46 := by
        rw [Hn.out, List.getElem?_eq_getElem (by rw [← Hsz.out]; exact hlt)]
        intro h; exact hd (Option.some.inj h)
      have hm : mantN s.data.toList = n := by unfold mantN; rw [if_neg hat, Hn.out]
      have Hm := Lib.hid hm
      have hd2 : ((s[n].toNat : Int) = 46) = False := by
        apply eq_false; intro h; apply hd
        have : s[n].toNat = 46 := by omega
        exact UInt8.toNat_inj.1 this
      have hd3 : ((s[n].toNat : Int) == 46) = false := by rw [beq_eq_false_iff_ne]; intro h; rw [h] at hd2; simp at hd2
      clear hm hat hd
      go_enter Tryz.func85, Tryz.ntmps85
      go_wp2_with (first
        | (go_at_call 100; with_reducible refine hrun.mono ?_; rintro e w' ⟨rfl, rfl⟩)
        | (go_at_call 101; refine (power_calls _ _ (ext_lt _ _ _ hs)).mono ?_; rintro e w' ⟨rfl, rfl⟩))
      · have h1 : ((n : Int) == 0) = true := by assumption
        go_ret
        refine ⟨?_, rfl⟩
        have h2 := eq_of_beq h1
        rw [T1.out Hm.out (by omega)]; rfl
      · have h1 : ((n : Int) == 0) = false := by assumption
        go_ret
        refine ⟨?_, rfl⟩
        have h2 := beq_eq_false_iff_ne.1 h1
        obtain ⟨h4, h5⟩ := T2.out _ Hm.out (by omega) (by omega)
        rw [h4]
        show Ending.returned (.int .i64 (wrap64 _)) = _
        rw [IntWalk.wrap64_in _ (by omega)]
        congr 2
  · have hat : ¬ s.data.toList[runOf isDigit s.data.toList]? = some 46 := by
      rw [Hn.out, List.getElem?_eq_none (by rw [← Hsz.out]; omega)]; simp
    have hm : mantN s.data.toList = n := by unfold mantN; rw [if_neg hat, Hn.out]
    have Hm := Lib.hid hm
    have hdl : decide ((n : Int) < (s.size : Int)) = false := by rw [decide_eq_false_iff_not]; omega
    clear hm hat
    go_enter Tryz.func85, Tryz.ntmps85
    go_wp2_with (first
      | (go_at_call 100; with_reducible refine hrun.mono ?_; rintro e w' ⟨rfl, rfl⟩)
      | (go_at_call 101; refine (power_calls _ _ (ext_lt _ _ _ hs)).mono ?_; rintro e w' ⟨rfl, rfl⟩))
    · have h1 : ((n : Int) == 0) = true := by assumption
      go_ret
      refine ⟨?_, rfl⟩
      have h2 := eq_of_beq h1
      rw [T1.out Hm.out (by omega)]; rfl
    · have h1 : ((n : Int) == 0) = false := by assumption
      go_ret
      refine ⟨?_, rfl⟩
      have h2 := beq_eq_false_iff_ne.1 h1
      obtain ⟨h4, h5⟩ := T2.out _ Hm.out (by omega) (by omega)
      rw [h4]
      show Ending.returned (.int .i64 (wrap64 _)) = _
      rw [IntWalk.wrap64_in _ (by omega)]
      congr 2
end Go.Proofs.YtiinhkfbgecbjaaGreatDoor
