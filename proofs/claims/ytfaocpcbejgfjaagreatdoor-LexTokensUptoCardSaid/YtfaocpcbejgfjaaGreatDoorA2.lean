/- What runs, notes and tokens behind a sign the lexer reads. No condition but on a text's length. · What a note, and a string's piece, the lexer reads. No condition but on a text's length. · Where a quote or a slash stands first: strings.IndexAny at these two signs, over bytes of every kind; and a string's piece. No condition but on a text's length. · strings.IndexAny at a quote and a slash, over bytes of every kind. No condition but on a text's length. · A string's piece, as the lexer reads it; and the kinds of tokens outside of strings. Its condition: a text of at most 65536 bytes. · The kinds of tokens outside of strings, and how many bytes of each the lexer reads. Its condition: a text of 1 to 65536 bytes. · The lexer's stack of brackets that are open: what lies on top, and what is laid there and taken off. Its condition: how the lexer lies in memory. · What the lexer lays on its stack and takes off. Its condition: how the lexer lies in memory. · How the lexer counts brackets. Its condition: how the lexer and the token lie in memory. -/
import Derived.Test.YtfaocpcbejgfjaaGreatDoorA1
import Derived.Test.YtfaocpcbejgfjaaGreatDoorShelf2
import Derived.Outline
import Derived.Lib.TrimByte
import Derived.Lib.IndexLaws
import Derived.Laws.RangeAny
import Derived.Lib.IndexAny
import Derived.Laws.Runes
import Derived.Deep.QuietTactic
import Derived.BigQuiet
import Derived.Deep.WholeRow
import Derived.OneCell
import Derived.Laws.Rows
import Derived.RegionTactic
import Derived.BigRegion
namespace Go.Proofs.YtfaocpcbejgfjaaGreatDoor
open Go.RowKit Go.Sub

theorem ret_n {a b : Nat} (h : a = b) : Ending.returned (.int .i64 (a : Int)) = .returned (.int .i64 (b : Int)) := by rw [h]
theorem ret_b {a b : Bool} (h : a = b) : Ending.returned (.bool a) = .returned (.bool b) := by rw [h]

set_option maxRecDepth 100000 in
set_option maxHeartbeats 400000 in
theorem lpart_calls (b : UInt8) (w : World) :
    Calls Tryz.prog 81 #[.int .u8 b.toNat] w fun e w' => e = .returned (.bool (isPart b)) ∧ w' = w := by
  cases hl : isLetter b
  all_goals
    have Hl := Lib.hid hl
    clear hl
    go_enter Tryz.func81, Tryz.ntmps81
    go_wp2_with (first | (go_at_call 58; refine (letter_calls b _).mono ?_; rw [Hl.out]; rintro e w' ⟨rfl, rfl⟩) | (go_at_call 82; refine (digit_calls b _).mono ?_; rintro e w' ⟨rfl, rfl⟩))
    go_ret
    exact ⟨by unfold isPart; rw [Hl.out]; rfl, rfl⟩

set_option maxRecDepth 100000 in
set_option maxHeartbeats 1000000 in
theorem lrun_calls (g : Nat) (eg : ∀ args w, (callFunc g args).run Tryz.prog w = .ok (.enter g args) w) (p : UInt8 → Bool)
    (hp : ∀ (b : UInt8) w, Calls Tryz.prog g #[.int .u8 b.toNat] w fun e w' => e = .returned (.bool (p b)) ∧ w' = w) (s : ByteArray) (w : World) (hs : s.size < 4611686018427387904) :
    Calls Tryz.prog 51 #[.string s, .func (.func g) #[] #[]] w fun e w' => e = .returned (.int .i64 (runOf p s.data.toList : Nat)) ∧ w' = w := by
  have Hp := Lib.hid hp
  have Eg := Lib.hid eg
  clear hp eg
  have hsz := Lib.size_eq s
  go_enter Tryz.func51, Tryz.ntmps51
  go_wp2
  go_loopw [5] (fun i wr => ∃ n : Nat, n ≤ s.size ∧ i = .int .i64 n ∧ n + runOf p (s.data.toList.drop n) = runOf p s.data.toList ∧ wr = w) (fun i _ => s.size - (intOf i).toNat)
  case atStart => exact ⟨0, by omega, rfl, by simp, rfl⟩
  case round =>
    obtain ⟨n, hn, rfl, hrun, rfl⟩ := hrel
    by_cases hlt : n < s.size
    · have hb : s.data.toList[n]? = some s[n] := by rw [List.getElem?_eq_getElem (by omega)]; rfl
      have Hrun := Lib.hid hrun
      have Hsz := Lib.hid hsz
      have Hb := Lib.hid hb
      clear hrun hsz hb
      cases hpb : p s[n]
      all_goals
        have Hpb := Lib.hid hpb
        clear hpb
        go_wp2
        rw [Eg.out, Oper.upon_enter]
        refine (Hp.out _ _).mono ?_
        rw [Hpb.out]
        rintro e w' ⟨rfl, rfl⟩
        go_wp2
      · go_ret
        refine ⟨ret_n ?_, rfl⟩
        have h1 := Hrun.out
        rw [runOf_drop_miss p _ n _ Hb.out Hpb.out] at h1
        exact h1
      · go_roundw
        case rel =>
          have h1 := Hrun.out
          rw [runOf_drop_hit p _ n _ Hb.out Hpb.out] at h1
          exact ⟨n + 1, by omega, by go_num, by omega, trivial⟩
        case measure => simp [intOf]; omega
    · obtain rfl : n = s.size := by omega
      have Hrun := Lib.hid hrun
      have Hsz := Lib.hid hsz
      clear hrun hsz
      go_wp2
      go_ret
      refine ⟨ret_n ?_, rfl⟩
      have h1 := Hrun.out
      rw [runOf_drop_end p _ _ (Nat.le_of_eq Hsz.out.symm)] at h1
      exact h1

/-- a function that tells how many bytes of a text's front are such a one -/
def Tells (g : Nat) (f : List UInt8 → Nat) : Prop := ∀ (s : ByteArray) w, s.size < 4611686018427387904 → Calls Tryz.prog g #[.string s] w fun e w' => e = .returned (.int .i64 (f s.data.toList : Nat)) ∧ w' = w
set_option maxRecDepth 100000 in
theorem parts_tells : Tells 59 (runOf isPart) := by
  intro s w hs
  go_enter Tryz.func59, Tryz.ntmps59
  go_wp2_with (go_at_call 51; refine (lrun_calls 81 (fun _ _ => rfl) isPart lpart_calls s _ hs).mono ?_; rintro e w' ⟨rfl, rfl⟩)
  go_ret
  exact ⟨rfl, rfl⟩
set_option maxRecDepth 100000 in
theorem space_tells : Tells 50 (runOf isBlank) := by
  intro s w hs
  go_enter Tryz.func50, Tryz.ntmps50
  go_wp2_with (go_at_call 51; refine (lrun_calls 52 (fun _ _ => rfl) isBlank blank_calls s _ hs).mono ?_; rintro e w' ⟨rfl, rfl⟩)
  go_ret
  exact ⟨rfl, rfl⟩
set_option maxRecDepth 100000 in
theorem field1_tells : Tells 57 simpleN := by
  intro s w hs
  by_cases h0 : s.size = 0
  · obtain rfl : s = ByteArray.empty := ByteArray.size_eq_zero_iff.1 h0
    go_enter Tryz.func57, Tryz.ntmps57
    go_wp2
    go_ret
    exact ⟨rfl, rfl⟩
  · have hlt : 0 < s.size := by omega
    have hl := cons_of s hlt
    have hsp : simpleN s.data.toList = if isLetter s[0] then runOf isPart s.data.toList else 0 := by rw [hl]; rfl
    obtain ⟨he, he2⟩ := not_empty s hlt
    have Hsp := Lib.hid hsp
    clear hsp hl
    cases hL : isLetter s[0]
    all_goals
      have HL := Lib.hid hL
      rw [hL] at Hsp
      clear hL
      go_enter Tryz.func57, Tryz.ntmps57
      go_wp2_with (first
        | (go_at_call 58; refine (letter_calls _ _).mono ?_; rw [HL.out]; rintro e w' ⟨rfl, rfl⟩)
        | (go_at_call 59; refine (parts_tells s _ hs).mono ?_; rintro e w' ⟨rfl, rfl⟩))
      go_ret
      exact ⟨by rw [Hsp.out]; rfl, rfl⟩
/-- what stands behind a sign -/
def behindN (c : UInt8) (f : List UInt8 → Nat) (l : List UInt8) : Nat := match l with
  | [] => 0
  | b :: r => if b == c then (if f r = 0 then 0 else f r + 1) else 0
set_option maxRecDepth 100000 in
set_option maxHeartbeats 1000000 in
theorem behind_calls (g : Nat) (eg : ∀ args w, (callFunc g args).run Tryz.prog w = .ok (.enter g args) w) (f : List UInt8 → Nat) (hf : Tells g f) (c : UInt8) (s : ByteArray) (w : World) (hs : s.size < 4611686018427387904) (h0 : 0 < s.size) (hle : f (s.data.toList.drop 1) ≤ s.size) :
    Calls Tryz.prog 56 #[.string s, .int .u8 (c.toNat : Int), .func (.func g) #[] #[]] w fun e w' => e = .returned (.int .i64 (behindN c f s.data.toList : Nat)) ∧ w' = w := by
  have hb : behindN c f s.data.toList = if s[0] == c then (if f (s.data.toList.drop 1) = 0 then 0 else f (s.data.toList.drop 1) + 1) else 0 := by rw [cons_of s h0]; rfl
  have hc := fun w => hf (s.extract 1 s.size) w (ext_lt _ _ _ hs)
  rw [ext_data] at hc
  have Hb := Lib.hid hb
  have Hc := Lib.hid hc
  have Eg := Lib.hid eg
  clear hb hc eg hf
  generalize f (s.data.toList.drop 1) = n at *
  generalize behindN c f s.data.toList = r at *
  cases h : (s[0] == c)
  · have y1 := byte_bne c h
    have y2 := byte_ne c h
    rw [h] at Hb
    clear h
    go_enter Tryz.func56, Tryz.ntmps56
    go_wp2
    go_ret
    exact ⟨by rw [Hb.out]; rfl, rfl⟩
  · rw [h] at Hb
    have e0 : s[0] = c := eq_of_beq h
    have y1 : ((s[0].toNat : Int) != (c.toNat : Int)) = false := by rw [e0]; simp
    clear e0 h
    by_cases hn : n = 0
    · subst hn
      go_enter Tryz.func56, Tryz.ntmps56
      go_wp2
      rw [Eg.out, Oper.upon_enter]
      refine (Hc.out _).mono ?_
      rintro e w' ⟨rfl, rfl⟩
      go_wp2
      go_ret
      exact ⟨by rw [Hb.out]; rfl, rfl⟩
    · have hpos : 0 < n := by omega
      go_enter Tryz.func56, Tryz.ntmps56
      go_wp2
      rw [Eg.out, Oper.upon_enter]
      refine (Hc.out _).mono ?_
      rintro e w' ⟨rfl, rfl⟩
      go_wp2
      go_ret
      refine ⟨?_, rfl⟩
      have e := Hb.out
      simp only [if_true, if_neg hn] at e
      rw [e]
      rfl
end Go.Proofs.YtfaocpcbejgfjaaGreatDoor
namespace Go.Proofs.YtfaocpcbejgfjaaGreatDoor
open Go.RowKit Go.Sub

/-- how many slashes a text ends with -/
def backsN (l : List UInt8) : Nat := (l.reverse.takeWhile (· == 92)).length
def oddB (l : List UInt8) : Bool := backsN l % 2 == 1
theorem trimR_len (l : List UInt8) : (Lib.trimRightB l 92).length + backsN l = l.length := by
  unfold Lib.trimRightB backsN
  have h := congrArg List.length (List.takeWhile_append_dropWhile (p := fun x : UInt8 => x == 92) (l := l.reverse))
  rw [List.length_append, List.length_reverse] at h
  rw [List.length_reverse]; omega
set_option maxRecDepth 100000 in
set_option maxHeartbeats 400000 in
theorem odd_calls (s : ByteArray) (w : World) (hs : s.size < 4611686018427387904) :
    Calls Tryz.prog 76 #[.string s] w fun e w' => e = .returned (.bool (oddB s.data.toList)) ∧ w' = w := by
  have hl := trimR_len s.data.toList
  have hc := fun w => Tryz.strings_TrimRight_one s 92 (by decide) w (by omega)
  have hsz := Lib.size_eq s
  have hR : (⟨(Lib.trimRightB s.data.toList 92).toArray⟩ : ByteArray).size = (Lib.trimRightB s.data.toList 92).length := rfl
  generalize (⟨(Lib.trimRightB s.data.toList 92).toArray⟩ : ByteArray) = R at *
  have ho : oddB s.data.toList = decide (((s.size : Int) - (R.size : Int)) % 2 = 1) := by
    unfold oddB
    rw [Bool.eq_iff_iff, beq_iff_eq, decide_eq_true_eq]
    omega
  have Ho := Lib.hid ho
  have Hc := Lib.hid hc
  have hle : R.size ≤ s.size := by omega
  clear ho hc hl hsz hR
  go_enter Tryz.func76, Tryz.ntmps76
  go_wp2_with (go_at_call 77; with_reducible refine (Hc.out _).mono ?_; rintro e w' ⟨rfl, rfl⟩)
  go_ret
  refine ⟨ret_b ?_, rfl⟩
  rw [Ho.out, Bool.eq_iff_iff]
  simp

/-- how many bytes a note has, from a line's begin on -/
def linesN (l : List UInt8) : Nat :=
  if h : Lib.indexByte l 10 < 0 then l.length
  else if !oddB (l.take (Lib.indexByte l 10).toNat) && !oddB (Lib.trimSuffix (l.take (Lib.indexByte l 10).toNat) [13]) then (Lib.indexByte l 10).toNat
  else (Lib.indexByte l 10).toNat + 1 + linesN (l.drop ((Lib.indexByte l 10).toNat + 1))
termination_by l.length
decreasing_by
  simp only [List.length_drop]
  match l, h with
  | [], h => simp [Lib.indexByte] at h
  | _ :: _, _ => simp only [List.length_cons]; omega
def noteN (l : List UInt8) : Nat := match l with
  | [] => 0
  | b :: _ => if b == 35 then linesN l else 0

theorem linesN_none (l : List UInt8) (h : Lib.indexByte l 10 < 0) : linesN l = l.length := by rw [linesN, dif_pos h]
theorem linesN_end (l : List UInt8) (k : Nat) (h : Lib.indexByte l 10 = k) (h2 : (!oddB (l.take k) && !oddB (Lib.trimSuffix (l.take k) [13])) = true) : linesN l = k := by
  rw [linesN, dif_neg (by omega)]
  have e : (Lib.indexByte l 10).toNat = k := by omega
  rw [e, if_pos h2]
theorem linesN_more (l : List UInt8) (k : Nat) (h : Lib.indexByte l 10 = k) (h2 : (!oddB (l.take k) && !oddB (Lib.trimSuffix (l.take k) [13])) = false) : linesN l = k + 1 + linesN (l.drop (k + 1)) := by
  rw [linesN, dif_neg (by omega)]
  have e : (Lib.indexByte l 10).toNat = k := by omega
  rw [e, if_neg (by rw [h2]; simp)]
theorem nl_cases (l : List UInt8) : Lib.indexByte l 10 < 0 ∨ ∃ k : Nat, Lib.indexByte l 10 = k ∧ k < l.length := by
  have h := Lib.indexByte_ge l 10
  by_cases h0 : Lib.indexByte l 10 < 0
  · exact .inl h0
  · refine .inr ⟨(Lib.indexByte l 10).toNat, by omega, ?_⟩
    have := (Lib.indexByte_some (l := l) (c := 10) (o := (Lib.indexByte l 10).toNat) (by omega)).1
    exact (List.getElem?_eq_some_iff.1 this).1
theorem linesN_le : ∀ k (l : List UInt8), l.length ≤ k → linesN l ≤ l.length := by
  intro k
  induction k with
  | zero => intro l h; obtain rfl := List.length_eq_zero_iff.1 (show l.length = 0 by omega); rw [linesN_none _ (by decide)]; omega
  | succ k ih =>
    intro l h
    rcases nl_cases l with h0 | ⟨j, hj, hjl⟩
    · rw [linesN_none l h0]; omega
    · cases h2 : (!oddB (l.take j) && !oddB (Lib.trimSuffix (l.take j) [13]))
      · rw [linesN_more l j hj h2]
        have := ih (l.drop (j + 1)) (by rw [List.length_drop]; omega)
        rw [List.length_drop] at this; omega
      · rw [linesN_end l j hj h2]; omega
theorem noteN_le (l : List UInt8) : noteN l ≤ l.length := by
  match l with
  | [] => simp [noteN]
  | b :: r =>
    show (if b == 35 then linesN (b :: r) else 0) ≤ _
    split
    · exact linesN_le _ _ (Nat.le_refl _)
    · omega
theorem nl_calls (s : ByteArray) (n : Nat) (w : World) :
    Calls Tryz.prog 75 #[.string (s.extract n s.size), .int .u8 10] w fun e w' => e = .returned (.int .i64 (Lib.indexByte (s.data.toList.drop n) 10)) ∧ w' = w := by
  have h := Tryz.strings_IndexByte (s.extract n s.size) 10 w
  rw [ext_data] at h
  exact h
theorem trimcr_calls (s : ByteArray) (w : World) (hs : s.size ≤ 9223372036854775807) :
    Calls Tryz.prog 78 #[.string s, .string ⟨#[13]⟩] w fun e w' => ∃ R : ByteArray, e = .returned (.string R) ∧ w' = w ∧ R.data.toList = Lib.trimSuffix s.data.toList [13] ∧ R.size ≤ s.size := by
  refine (Tryz.strings_TrimSuffix s ⟨#[13]⟩ w hs).mono ?_
  rintro e w' ⟨rfl, rfl⟩
  refine ⟨_, rfl, rfl, rfl, ?_⟩
  rw [Lib.size_eq, Lib.size_eq s]
  exact Lib.trimSuffix_le _ _
theorem line_data (s : ByteArray) (n k : Nat) : (s.extract n (n + k)).data.toList = (s.data.toList.drop n).take k := by
  rw [Lib.extract_data, Nat.add_sub_cancel_left]

set_option maxRecDepth 100000 in
set_option maxHeartbeats 2000000 in
theorem note_calls (s : ByteArray) (w : World) (hs : s.size < 4611686018427387904) (h0 : 0 < s.size) :
    Calls Tryz.prog 53 #[.string s] w fun e w' => e = .returned (.int .i64 (noteN s.data.toList : Nat)) ∧ w' = w := by
  have hn : noteN s.data.toList = if s[0] == 35 then linesN s.data.toList else 0 := by rw [cons_of s h0]; rfl
  cases h35 : (s[0] == 35)
  · rw [h35] at hn
    have Hn := Lib.hid hn
    have y1 : ((s[0].toNat : Int) != 35) = true := byte_bne 35 h35
    have y2 : ((s[0].toNat : Int) = 35) = False := byte_ne 35 h35
    clear hn h35
    go_enter Tryz.func53, Tryz.ntmps53
    go_wp2
    go_ret
    exact ⟨by rw [Hn.out]; rfl, rfl⟩
  · rw [h35, if_pos rfl] at hn
    have Hn := Lib.hid hn
    have y1 : ((s[0].toNat : Int) != 35) = false := by rw [eq_of_beq h35]; rfl
    have Hsz := Lib.hid (Lib.size_eq s)
    clear hn h35
    go_enter Tryz.func53, Tryz.ntmps53
    go_wp2
    clear y1
    go_loopw [3] (fun i wr => ∃ n : Nat, n ≤ s.size ∧ i = .int .i64 n ∧ Hid (n + linesN (s.data.toList.drop n) = linesN s.data.toList) ∧ wr = w) (fun i _ => s.size - (intOf i).toNat)
    case atStart => exact ⟨0, by omega, rfl, Lib.hid (by simp), rfl⟩
    case round =>
      obtain ⟨n, hns, rfl, Hrun, rfl⟩ := hrel
      have hc := nl_calls s n
      rcases nl_cases (s.data.toList.drop n) with hneg | ⟨k, hk, hkl⟩
      · have hl := linesN_none _ hneg
        rw [List.length_drop, ← Hsz.out] at hl
        have Hl := Lib.hid hl
        generalize Lib.indexByte (s.data.toList.drop n) 10 = z at *
        have Hc := Lib.hid hc
        clear hc hl
        go_wp2_with (go_at_call 75; with_reducible refine (Hc.out _).mono ?_; rintro e w' ⟨rfl, rfl⟩)
        go_ret
        refine ⟨ret_n ?_, rfl⟩
        rw [Hn.out, ← Hrun.out, Hl.out]; omega
      · rw [hk] at hc
        rw [List.length_drop, ← Hsz.out] at hkl
        have hle : n + k < s.size := by omega
        have hd := line_data s n k
        have hend := linesN_end (s.data.toList.drop n) k hk
        have hmore := linesN_more (s.data.toList.drop n) k hk
        rw [← hd] at hend hmore
        have ho := odd_calls (s.extract n (n + k))
        have ht := fun w => trimcr_calls (s.extract n (n + k)) w (by have := ext_lt s n (n + k) hs; omega)
        have hsl : (s.extract n (n + k)).size < 4611686018427387904 := ext_lt _ _ _ hs
        generalize hL : s.extract n (n + k) = L at *
        clear hd hk
        cases o1 : oddB L.data.toList
        · rw [o1] at ho
          have ho2 : ∀ R : ByteArray, R.data.toList = Lib.trimSuffix L.data.toList [13] → R.size ≤ L.size → ∀ w, Calls Tryz.prog 76 #[.string R] w fun e w' => e = .returned (.bool (oddB (Lib.trimSuffix L.data.toList [13]))) ∧ w' = w := fun R hR hRs w => by
            have := odd_calls R w (by omega)
            rwa [hR] at this
          cases o2 : oddB (Lib.trimSuffix L.data.toList [13])
          all_goals
            rw [o2] at ho2
            have He := Lib.hid (hend)
            have Hm := Lib.hid (hmore)
            have Hc := Lib.hid hc
            have Ho := Lib.hid ho
            have Ho2 := Lib.hid ho2
            have Ht := Lib.hid ht
            have O1 := Lib.hid o1
            have O2 := Lib.hid o2
            clear hc ho ho2 ht hend hmore o1 o2
            subst hL
          · go_wp2_with (first 
              | (go_at_call 75; with_reducible refine (Hc.out _).mono ?_; rintro e w' ⟨rfl, rfl⟩) 
              | (go_at_call 78; with_reducible refine (Ht.out _).mono ?_; rintro e w' ⟨R, rfl, rfl, hR, hRs⟩; have HR := Lib.hid hR; clear hR) 
              | (go_at_call 76; (first | with_reducible refine (Ho.out _ hsl).mono ?_ | with_reducible refine (Ho2.out R HR.out hRs _).mono ?_); rintro e w' ⟨rfl, rfl⟩))
            go_ret
            refine ⟨ret_n ?_, rfl⟩
            rw [Hn.out, ← Hrun.out, He.out (by rw [O1.out, O2.out]; rfl)]
          · go_wp2_with (first 
              | (go_at_call 75; with_reducible refine (Hc.out _).mono ?_; rintro e w' ⟨rfl, rfl⟩) 
              | (go_at_call 78; with_reducible refine (Ht.out _).mono ?_; rintro e w' ⟨R, rfl, rfl, hR, hRs⟩; have HR := Lib.hid hR; clear hR) 
              | (go_at_call 76; (first | with_reducible refine (Ho.out _ hsl).mono ?_ | with_reducible refine (Ho2.out R HR.out hRs _).mono ?_); rintro e w' ⟨rfl, rfl⟩))
            go_roundw
            case rel => exact ⟨n + (k + 1), by omega, by go_num, Lib.hid (by have := Hrun.out; rw [Hm.out (by rw [O1.out, O2.out]; rfl), List.drop_drop] at this; omega), trivial⟩
            case measure => simp [intOf]; omega
        · rw [o1] at ho
          have Hm := Lib.hid (hmore)
          have Hc := Lib.hid hc
          have Ho := Lib.hid ho
          have O1 := Lib.hid o1
          clear hc ho ht hend hmore o1
          subst hL
          go_wp2_with (first 
            | (go_at_call 75; with_reducible refine (Hc.out _).mono ?_; rintro e w' ⟨rfl, rfl⟩) 
            | (go_at_call 78; with_reducible refine (Ht.out _).mono ?_; rintro e w' ⟨R, rfl, rfl, hR, hRs⟩; have HR := Lib.hid hR; clear hR) 
            | (go_at_call 76; (first | with_reducible refine (Ho.out _ hsl).mono ?_ | with_reducible refine (Ho2.out R HR.out hRs _).mono ?_); rintro e w' ⟨rfl, rfl⟩))
          go_roundw
          case rel => exact ⟨n + (k + 1), by omega, by go_num, Lib.hid (by have := Hrun.out; rw [Hm.out (by rw [O1.out]; rfl), List.drop_drop] at this; omega), trivial⟩
          case measure => simp [intOf]; omega
end Go.Proofs.YtfaocpcbejgfjaaGreatDoor
namespace Go.Proofs.YtfaocpcbejgfjaaGreatDoor
open Go.RowKit Go.Sub

def isQS (b : UInt8) : Bool := b == 34 || b == 92
def qsChars : List UInt8 := [34, 92]
theorem qs_contains (b : UInt8) : qsChars.contains b = isQS b :=
  beq_iff_eq.1 (u8_all (p := fun b => qsChars.contains b == isQS b) (by decide +kernel) b)
/-- how many bytes of a string's piece stand at the front -/
def pieceN (l : List UInt8) : Nat := match l with
  | [] => 0
  | b :: r => if b == 34 then 0 else if b == 92 then (if h : escN (b :: r) = 0 then 0 else escN (b :: r) + pieceN ((b :: r).drop (escN (b :: r)))) else 1 + pieceN r
termination_by l.length
decreasing_by
  · simp only [List.length_drop, List.length_cons]; omega
  · simp only [List.length_cons]; omega
theorem piece_nil : pieceN [] = 0 := by rw [pieceN]
theorem piece_plain (b : UInt8) (r : List UInt8) (h : isQS b = false) : pieceN (b :: r) = 1 + pieceN r := by
  unfold isQS at h
  rw [Bool.or_eq_false_iff] at h
  rw [pieceN, if_neg (by rw [h.1]; simp), if_neg (by rw [h.2]; simp)]
theorem piece_esc (l : List UInt8) (h : escN l ≠ 0) : pieceN l = escN l + pieceN (l.drop (escN l)) := by
  match l, h with
  | [], h => exact absurd rfl h
  | b :: r, h =>
    have hb : b = 92 := Classical.byContradiction fun hb => h (by
      match r with
      | [] => rfl
      | c :: t =>
        show (if b == 92 then _ else 0) = 0
        rw [if_neg (by simpa using hb)])
    subst hb
    rw [pieceN, if_neg (by decide), if_pos (by decide), dif_neg h]
theorem piece_stop (b : UInt8) (r : List UInt8) (hb : isQS b = true) (h : escN (b :: r) = 0) : pieceN (b :: r) = 0 := by
  rw [pieceN]
  unfold isQS at hb
  rcases Bool.or_eq_true _ _ ▸ hb with h1 | h1
  · rw [if_pos h1]
  · by_cases h34 : (b == 34) = true
    · rw [if_pos h34]
    · rw [if_neg h34, if_pos h1, dif_pos h]
/-- a piece goes on up to the first of the two signs -/
theorem piece_to : ∀ (l : List UInt8), (Lib.indexAny l qsChars = -1 → pieceN l = l.length) ∧ ∀ k : Nat, Lib.indexAny l qsChars = k → k < l.length ∧ pieceN l = k + pieceN (l.drop k) ∧ ∃ b r, l.drop k = b :: r ∧ isQS b = true
  | [] => ⟨fun _ => piece_nil, fun k h => by simp [Lib.indexAny] at h⟩
  | b :: r => by
    obtain ⟨i1, i2⟩ := piece_to r
    have hge := Lib.indexAny_ge qsChars r
    have e : Lib.indexAny (b :: r) qsChars = if isQS b then 0 else if Lib.indexAny r qsChars == -1 then -1 else Lib.indexAny r qsChars + 1 := by
      rw [← qs_contains]; rfl
    cases hb : isQS b
    · rw [hb, if_neg (by simp)] at e
      constructor
      · intro h
        have : Lib.indexAny r qsChars = -1 := by
          rw [e] at h
          split at h
          · rename_i h1; exact eq_of_beq h1
          · omega
        rw [piece_plain b r hb, i1 this, List.length_cons]; omega
      · intro k h
        rw [e] at h
        split at h
        · omega
        · obtain ⟨j, hj⟩ : ∃ j : Nat, Lib.indexAny r qsChars = j := ⟨(Lib.indexAny r qsChars).toNat, by rename_i h1; have : Lib.indexAny r qsChars ≠ -1 := fun e => h1 (by rw [e]; rfl); omega⟩
          obtain ⟨a1, a2, a3⟩ := i2 j hj
          have hk : k = j + 1 := by omega
          subst hk
          exact ⟨by simp only [List.length_cons]; omega, by rw [piece_plain b r hb, a2, List.drop_succ_cons]; omega, by rw [List.drop_succ_cons]; exact a3⟩
    · rw [hb, if_pos rfl] at e
      constructor
      · intro h; omega
      · intro k h
        have hk : k = 0 := by omega
        subst hk
        exact ⟨by simp, by simp, b, r, rfl, hb⟩
theorem pieceN_le : ∀ k (l : List UInt8), l.length ≤ k → pieceN l ≤ l.length := by
  intro k
  induction k with
  | zero => intro l h; obtain rfl := List.length_eq_zero_iff.1 (show l.length = 0 by omega); rw [piece_nil]; omega
  | succ k ih =>
    intro l h
    match l, h with
    | [], _ => rw [piece_nil]; omega
    | b :: r, h =>
      rw [List.length_cons] at h
      cases hb : isQS b
      · rw [piece_plain b r hb]; have := ih r (by omega); simp only [List.length_cons]; omega
      · by_cases he : escN (b :: r) = 0
        · rw [piece_stop b r hb he]; omega
        · rw [piece_esc _ he]
          have h1 := escN_le (b :: r)
          have := ih ((b :: r).drop (escN (b :: r))) (by rw [List.length_drop, List.length_cons]; omega)
          rw [List.length_drop] at this; omega

/- where a rune's bytes lie -/
def Far (s : ByteArray) (pos w : Nat) : Prop := pos + w ≤ s.size ∧ ∀ j, pos ≤ j → j < pos + w → ∀ hj : j < s.size, 128 ≤ s[j].toNat
theorem far_cont {s : ByteArray} {pos k : Nat} (hf : Far s pos k) (h : (decide (pos + k < s.size) && (s.get! (pos + k)).toNat / 64 == 2) = true) : Far s pos (k + 1) := by
  rw [Bool.and_eq_true, decide_eq_true_eq, beq_iff_eq] at h
  obtain ⟨h1, h2⟩ := h
  have e := Go.get_at s (pos + k) h1
  rw [Nat.add_zero] at e
  rw [e] at h2
  refine ⟨by omega, fun j a b hj => ?_⟩
  by_cases hk : j = pos + k
  · subst hk; omega
  · exact hf.2 j a (by omega) hj
theorem decode_far (s : ByteArray) (pos : Nat) (h : pos < s.size) (hb : 128 ≤ s[pos].toNat) : Far s pos (Utf8.decode s pos).2 := by
  have f1 : Far s pos 1 := ⟨by omega, fun j a b hj => by
    have e : j = pos := by omega
    subst e
    exact hb⟩
  have hn : ¬ (s.get! (pos + 0)).toNat < 128 := by rw [Go.get_at s pos h]; omega
  unfold Utf8.decode
  dsimp only
  rw [if_neg hn]
  split
  · rename_i h2
    rw [Bool.and_eq_true] at h2
    split
    · exact far_cont f1 h2.2
    · exact f1
  · split
    · rename_i h2
      rw [Bool.and_eq_true, Bool.and_eq_true] at h2
      split
      · exact far_cont (far_cont f1 h2.1.2) h2.2
      · exact f1
    · split
      · rename_i h2
        rw [Bool.and_eq_true, Bool.and_eq_true, Bool.and_eq_true] at h2
        split
        · exact far_cont (far_cont (far_cont f1 h2.1.1.2) h2.1.2) h2.2
        · exact f1
      · exact f1
/-- none of the two signs stands among the first bytes -/
def NoQS (s : ByteArray) (pos : Nat) : Prop := ∀ j, j < pos → ∀ hj : j < s.size, isQS s[j] = false
theorem noQS_far {s : ByteArray} {pos w : Nat} (h : NoQS s pos) (hf : Far s pos w) : NoQS s (pos + w) := by
  intro j hj hs
  by_cases hp : j < pos
  · exact h j hp hs
  · have := hf.2 j (by omega) hj hs
    unfold isQS
    cases h1 : s[j] == 34
    · cases h2 : s[j] == 92
      · rfl
      · rw [eq_of_beq h2] at this; exact absurd this (by decide)
    · rw [eq_of_beq h1] at this; exact absurd this (by decide)
theorem noAny_of {s : ByteArray} {pos : Nat} (h : NoQS s pos) (hp : pos ≤ s.size) : Lib.NoAny s.data.toList qsChars pos := by
  intro j b hj hb
  obtain ⟨hl, rfl⟩ := List.getElem?_eq_some_iff.1 hb
  rw [qs_contains]
  exact h j hj (by rw [Lib.size_eq]; exact hl)
end Go.Proofs.YtfaocpcbejgfjaaGreatDoor
namespace Go.Proofs.YtfaocpcbejgfjaaGreatDoor
open Go.RowKit Go.Sub

theorem quiet_more {P : Program} {f : FuncId} {args : Array Value} {w : World} {a n : Nat} {v : Value}
    (h : Calls P f args (w.drewN (a + n)) fun e w' => e = .returned v ∧ w' = w.drewN (a + n)) :
    Calls P f args (w.drewN (a + n)) fun e w'' => e = .returned v ∧ ∃ m, w'' = w.drewN (a + m) :=
  h.mono fun _ _ ⟨he, hm⟩ => ⟨he, n, hm⟩
def qsS : ByteArray := ⟨#[34, 92]⟩
set_option maxRecDepth 100000 in
set_option maxHeartbeats 2000000 in
theorem irune_high (r : Int) (h : 128 ≤ r) (w : World) :
    Calls Tryz.prog 99 #[.string ⟨#[34, 92]⟩, .int .i32 r] w fun e w' => e = .returned (.int .i64 (-1)) ∧ Below w.heap.size w w' := by
  have hv := Tryz.utf8_ValidRune r
  by_cases h65 : r = 65533
  · subst h65
    go_enter Tryz.func99, Tryz.ntmps99
    go_wp2
    go_loopw [] (fun wr => ∃ pos : Nat, pos ≤ 2 ∧ wr = w.iter ⟨#[34, 92]⟩ pos) (fun wr => 2 - wr.iterPos w.heap.size)
    case atStart => exact ⟨0, by omega, rfl⟩
    case round =>
      obtain ⟨pos, hp, rfl⟩ := hrel
      have hps : pos = 0 ∨ pos = 1 ∨ pos = 2 := by omega
      rcases hps with rfl | rfl | rfl
      · have n0 := fun ty => (show (Instr.next (.pointer (some ⟨w.heap.size, 0, none⟩)) true ty).run Tryz.prog (w.iter ⟨#[34, 92]⟩ 0) = .ok (.tuple #[.bool true, .int .i64 0, .int .i32 34]) (w.iter ⟨#[34, 92]⟩ 1) from run_next_ascii w ⟨#[34, 92]⟩ 0 ty (by decide) (by decide))
        go_wp2
        go_roundw
        case rel => exact ⟨1, by omega, rfl⟩
        case measure => simp
      · have n1 := fun ty => (show (Instr.next (.pointer (some ⟨w.heap.size, 0, none⟩)) true ty).run Tryz.prog (w.iter ⟨#[34, 92]⟩ 1) = .ok (.tuple #[.bool true, .int .i64 1, .int .i32 92]) (w.iter ⟨#[34, 92]⟩ 2) from run_next_ascii w ⟨#[34, 92]⟩ 1 ty (by decide) (by decide))
        go_wp2
        go_roundw
        case rel => exact ⟨2, by omega, rfl⟩
        case measure => simp
      · have n2 := fun ty => run_next_end (P := Tryz.prog) w ⟨#[34, 92]⟩ 2 ty (by decide)
        go_wp2
        go_ret
        exact ⟨rfl, (Below.refl _ _).alloc (Nat.le_refl _) _⟩
  · have y1 : (r == 65533) = false := by simpa using h65
    have hnlt : ¬ r < 128 := by omega
    cases hval : Lib.validRune r
    · rw [hval] at hv
      have Hv := Lib.hid hv
      clear hv hval
      go_enter Tryz.func99, Tryz.ntmps99
      go_wp2_with (go_at_call 110; refine (Hv.out _).mono ?_; rintro e w' ⟨rfl, rfl⟩)
      go_ret
      exact ⟨rfl, Below.refl _ _⟩
    · rw [hval] at hv
      have hval2 : Utf8.valid r = true := by
        unfold Lib.validRune at hval
        rw [decide_eq_true_eq] at hval
        unfold Utf8.valid
        simp
        omega
      obtain ⟨e1, e2, e3⟩ := encode_facts r hval2 h
      have Hv := Lib.hid hv
      clear hv hval
      have hcv : ∀ w, (convert 21 9 (.int .i32 r)).run Tryz.prog w = .ok (.string (Utf8.encode r)) w := fun w => run_convert_int_string w 21 9 .i32 r (by rw [Tryz.underlying21]; rfl) Tryz.underlying9
      generalize Utf8.encode r = E at *
      by_cases hE : E.size = 2
      · have e4 : 128 ≤ E[1].toNat := by
          have := e3 (by omega)
          simp only [hE] at this
          exact this
        have y2 : ((92 : Int) != (E[1].toNat : Int)) = true := by rw [bne_iff_ne]; omega
        have y3 : ((92 : Int) = (E[1].toNat : Int)) = False := by apply eq_false; omega
        have y4 : (((({ data := #[34, 92] } : ByteArray)[1]'(by decide)).toNat : Int) != (E[1].toNat : Int)) = true := y2
        have hib : ∀ w, Calls Tryz.prog 75 #[.string ⟨#[]⟩, .int .u8 (E[1].toNat : Int)] w fun e w' => e = .returned (.int .i64 (-1)) ∧ w' = w := fun w => Tryz.strings_IndexByte ⟨#[]⟩ (E[1].toNat : Int) w
        have l1 : 1 < E.size := by omega
        have Hib := Lib.hid hib
        clear e2 e3 hib
        go_enter Tryz.func99, Tryz.ntmps99
        go_wp2_with (go_at_call 110; refine (Hv.out _).mono ?_; rintro e w' ⟨rfl, rfl⟩)
        go_step3
        go_wp2
        clear hcv
        go_loopw [9, 10] (fun i f wr => i = .int .i64 1 ∧ f = .int .i64 0 ∧ wr = w') (fun _ _ _ => 0)
        case atStart => exact ⟨rfl, rfl, rfl⟩
        case round =>
          obtain ⟨rfl, rfl, rfl⟩ := hrel
          go_wp2
          go_step3
          go_wp2
          go_quiet (fail)
          go_wp2
          go_quiet ((go_at_call 75; (first | exact Calls.quiet_of_same (Hib.out _) | exact quiet_more (Hib.out _))))
          go_wp2
          rw [Exit.noGoto_ret]
          go_wp2
          rw [Exit.noGoto_ret]
          go_ret
          exact ⟨rfl, below_drewN (Below.refl _ _) _⟩
      · have l1 : 2 < E.size := by omega
        clear e1 e3
        go_enter Tryz.func99, Tryz.ntmps99
        go_wp2_with (go_at_call 110; refine (Hv.out _).mono ?_; rintro e w' ⟨rfl, rfl⟩)
        go_step3
        go_wp2
        clear hcv
        go_loopw [9, 10] (fun i f wr => i = .int .i64 ((E.size : Int) - 1) ∧ f = .int .i64 0 ∧ wr = w') (fun _ _ _ => 0)
        case atStart => exact ⟨rfl, rfl, rfl⟩
        case round =>
          obtain ⟨rfl, rfl, rfl⟩ := hrel
          go_wp2
          rw [Exit.noGoto_ret]
          go_ret
          exact ⟨rfl, Below.refl _ _⟩

theorem run_next_at {P : Program} (w : World) (k : Nat) (s : ByteArray) (pos : Nat) (ty : TypeId) (hk : w.heap[k]? = some (.stringIter s pos)) (h : pos < s.size) :
    (Instr.next (.pointer (some ⟨k, 0, none⟩)) true ty).run P w = .ok (.tuple #[.bool true, .int .i64 pos, .int .i32 (Utf8.decode s pos).1]) (w.putObj k (.stringIter s (pos + (Utf8.decode s pos).2))) := by
  simp only [Instr.next, getObj, setObj, Sem.run_bind, Sem.run, hk, Result.andThen, h, if_true]
  simp [goInt, World.putObj]
theorem run_next_done {P : Program} (w : World) (k : Nat) (s : ByteArray) (pos : Nat) (ty : TypeId) (hk : w.heap[k]? = some (.stringIter s pos)) (h : ¬ pos < s.size) :
    (Instr.next (.pointer (some ⟨k, 0, none⟩)) true ty).run P w = .ok (.tuple #[.bool false]) w := by
  simp only [Instr.next, getObj, setObj, Sem.run_bind, Sem.run, hk, Result.andThen, h, if_false]
  simp
theorem pos_at {w : World} {k : Nat} {s : ByteArray} {p : Nat} (h : w.heap[k]? = some (.stringIter s p)) : w.iterPos k = p := by
  unfold World.iterPos; rw [h]
theorem qs_byte (b : UInt8) : (isQS b = true → 0 ≤ Lib.indexByte [34, 92] b) ∧ (isQS b = false → Lib.indexByte [34, 92] b = -1) := by
  have := u8_all (p := fun b => (!isQS b || decide (0 ≤ Lib.indexByte [34, 92] b)) && (isQS b || Lib.indexByte [34, 92] b == -1)) (by decide +kernel) b
  cases h : isQS b
  · rw [h] at this; simp at this; exact ⟨fun h => by simp at h, fun _ => this⟩
  · rw [h] at this; simp at this; exact ⟨fun _ => this, fun h => by simp at h⟩
theorem irune_low (b : UInt8) (hb : b.toNat < 128) (w : World) :
    Calls Tryz.prog 99 #[.string ⟨#[34, 92]⟩, .int .i32 (b.toNat : Int)] w fun e w' => e = .returned (.int .i64 (Lib.indexByte [34, 92] b)) ∧ w' = w := by
  have := Tryz.strings_IndexRune_ascii ⟨#[34, 92]⟩ (b.toNat : Int) w (by omega) (by omega)
  rw [u8_back] at this
  exact this
set_option maxRecDepth 100000 in
set_option maxHeartbeats 2000000 in
theorem iany_short (s : ByteArray) (h8 : s.size ≤ 8) (w : World) :
    Calls Tryz.prog 87 #[.string s, .string ⟨#[34, 92]⟩] w fun e w' => e = .returned (.int .i64 (Lib.indexAny s.data.toList qsChars)) ∧ Below w.heap.size w w' := by
  have hsh := Tryz.strings_shouldUseASCIISet (s.size : Int)
  rw [decide_eq_false (by omega)] at hsh
  have Hsh := Lib.hid hsh
  have Hsz := Lib.hid (Lib.size_eq s)
  clear hsh
  go_enter Tryz.func87, Tryz.ntmps87
  go_wp2_with (go_at_call 100; refine (Hsh.out _).mono ?_; rintro e w' ⟨rfl, rfl⟩)
  have hk0 := World.iter_heap w' s 0
  have hB0 : Below w'.heap.size w' (w'.iter s 0) := (Below.refl _ _).alloc (Nat.le_refl _) _
  generalize w'.iter s 0 = W0 at *
  go_loopw [] (fun wr => ∃ pos : Nat, pos ≤ s.size ∧ Hid (NoQS s pos) ∧ Hid (wr.heap[w'.heap.size]? = some (.stringIter s pos)) ∧ Below w'.heap.size w' wr) (fun wr => s.size - wr.iterPos w'.heap.size)
  case atStart => exact ⟨0, by omega, Lib.hid (fun j hj => by omega), Lib.hid hk0, hB0⟩
  case round =>
    clear hk0 hB0
    obtain ⟨pos, hp, Hno, Hk, hB⟩ := hrel
    have hany := noAny_of Hno.out hp
    have hlt0 := heap_lt Hk.out
    by_cases hlt : pos < s.size
    · have hn := fun ty => run_next_at (P := Tryz.prog) wr w'.heap.size s pos ty Hk.out hlt
      have hat : s.data.toList[pos]? = some s[pos] := by rw [List.getElem?_eq_getElem (by rw [← Hsz.out]; exact hlt)]; rfl
      have hk2 : ∀ o, (wr.putObj w'.heap.size o).heap[w'.heap.size]? = some o := fun o => World.putObj_heap_same hlt0
      have hB2 : ∀ o, Below w'.heap.size w' (wr.putObj w'.heap.size o) := fun o => hB.trans ((Keeps.putObj (O := fun b => b = w'.heap.size) wr _ o rfl).below hB.size fun b h => by omega)
      by_cases hb : s[pos].toNat < 128
      · rw [decode_ascii s pos hlt hb] at hn
        have hk3 := hk2 (.stringIter s (pos + 1))
        have hB3 := hB2 (.stringIter s (pos + 1))
        generalize wr.putObj w'.heap.size (.stringIter s (pos + 1)) = W2 at *
        cases hq : isQS s[pos]
        · have hi := (qs_byte s[pos]).2 hq
          have hno : NoQS s (pos + 1) := fun j hj hs => by
            by_cases e : j = pos
            · subst e; exact hq
            · exact Hno.out j (by omega) hs
          have Hno2 := Lib.hid hno
          have Hk3 := Lib.hid hk3
          have HP := pos_at Hk.out
          have HP3 := pos_at hk3
          have Hir := Lib.hid (irune_low s[pos] hb)
          rw [hi] at Hir
          clear hk2 hB2 hno hk3 hany hi hq hat hB
          have HQ := Lib.hid (And.intro HP HP3)
          clear HP HP3
          go_wp2_with (go_at_call 99; refine (Hir.out _).mono ?_; rintro e w4 ⟨rfl, rfl⟩)
          go_roundw
          case rel => exact ⟨pos + 1, by omega, Hno2, Hk3, hB3⟩
          case measure => rw [HQ.out.1, HQ.out.2]; omega
        · have hi := (qs_byte s[pos]).1 hq
          have hr := Lib.indexAny_hit hany hat (by rw [qs_contains]; exact hq)
          have Hr := Lib.hid hr
          have Hir := Lib.hid (irune_low s[pos] hb)
          generalize Lib.indexByte [34, 92] s[pos] = z at *
          clear hk2 hB2 hk3 hany hq hat hB hr
          go_wp2_with (go_at_call 99; refine (Hir.out _).mono ?_; rintro e w4 ⟨rfl, rfl⟩)
          go_ret
          exact ⟨by rw [Hr.out]; rfl, hB3⟩
      · have hd := Go.decode_high s pos hlt (by omega)
        have hf := decode_far s pos hlt (by omega)
        have hk3 := hk2 (.stringIter s (pos + (Utf8.decode s pos).2))
        have hB3 := hB2 (.stringIter s (pos + (Utf8.decode s pos).2))
        have hno := noQS_far Hno.out hf
        have hfl := hf.1
        clear hk2 hB2 hf
        generalize Utf8.decode s pos = D at *
        obtain ⟨r, k⟩ := D
        dsimp only at *
        generalize wr.putObj w'.heap.size (.stringIter s (pos + k)) = W2 at *
        have Hno2 := Lib.hid hno
        have Hk3 := Lib.hid hk3
        have HQ := Lib.hid (And.intro (pos_at Hk.out) (pos_at hk3))
        have Hir := Lib.hid (irune_high (r : Int) (by omega))
        obtain ⟨hd1, hd2⟩ := hd
        clear hno hk3 hany hat hB hb
        go_wp2_with (go_at_call 99; refine (Hir.out _).mono ?_; rintro e w4 ⟨rfl, hb4⟩)
        have hk4 := hb4.block w'.heap.size (heap_lt Hk3.out)
        rw [Hk3.out] at hk4
        go_roundw
        case rel => exact ⟨pos + k, by omega, Hno2, Lib.hid hk4, hB3.trans (hb4.mono hB3.size)⟩
        case measure => rw [HQ.out.1, pos_at hk4]; omega
    · have hn := fun ty => run_next_done (P := Tryz.prog) wr w'.heap.size s pos ty Hk.out hlt
      have e : pos = s.data.toList.length := by rw [← Hsz.out]; omega
      rw [e] at hany
      have Hr := Lib.hid (Lib.indexAny_none hany)
      clear hany e
      go_wp2
      go_ret
      exact ⟨by rw [Hr.out]; rfl, hB⟩
end Go.Proofs.YtfaocpcbejgfjaaGreatDoor
namespace Go.Proofs.YtfaocpcbejgfjaaGreatDoor
open Go.RowKit Go.Sub

theorem set_info : (Tryz.prog.info? 99).map (fun i => (i.zero, i.size)) = some (some (.agg (Array.replicate 256 (.bool false))), 256) := by kernel_rfl
theorem qs_ascii : ∀ (j : Nat) b, (⟨#[34, 92]⟩ : ByteArray).data.toList[j]? = some b → b.toNat < 128 := by
  have key : ∀ b ∈ ([34, 92] : List UInt8), b.toNat < 128 := by decide
  exact fun j b hb => key b (List.mem_of_getElem? hb)
theorem iany_calls (s : ByteArray) (hs : s.size < 4294967281) (w : World) :
    Calls Tryz.prog 87 #[.string s, .string ⟨#[34, 92]⟩] w fun e w' => e = .returned (.int .i64 (Lib.indexAny s.data.toList qsChars)) ∧ Below w.heap.size w w' := by
  by_cases h8 : s.size ≤ 8
  · exact iany_short s h8 w
  · refine (Tryz.strings_IndexAny_long (Go.zero_of_info set_info).1 s ⟨#[34, 92]⟩ w (by decide) (by omega) hs (by decide) qs_ascii).mono ?_
    rintro e w' ⟨rfl, rfl⟩
    exact ⟨rfl, ((Below.refl _ _).alloc (Nat.le_refl _) _).alloc (by simp) _⟩
theorem iany_ext (s : ByteArray) (n : Nat) (hs : s.size ≤ 65536) (w : World) :
    Calls Tryz.prog 87 #[.string (s.extract n s.size), .string ⟨#[34, 92]⟩] w fun e w' => e = .returned (.int .i64 (Lib.indexAny (s.data.toList.drop n) qsChars)) ∧ Below w.heap.size w w' := by
  have := iany_calls (s.extract n s.size) (ext_lt _ _ _ (by omega)) w
  rwa [ext_data] at this
theorem esc_ext (s : ByteArray) (n : Nat) (hs : s.size ≤ 65536) (w : World) :
    Calls Tryz.prog 88 #[.string (s.extract n s.size)] w fun e w' => e = .returned (.int .i64 (escN (s.data.toList.drop n) : Nat)) ∧ w' = w := by
  have := escape_calls (s.extract n s.size) w (ext_lt _ _ _ (by omega))
  rwa [ext_data] at this

set_option maxRecDepth 100000 in
set_option maxHeartbeats 2000000 in
theorem piece_calls (s : ByteArray) (hs : s.size ≤ 65536) (w : World) :
    Calls Tryz.prog 66 #[.string s] w fun e w' => e = .returned (.int .i64 (pieceN s.data.toList : Nat)) ∧ Below w.heap.size w w' := by
  have Hsz := Lib.hid (Lib.size_eq s)
  go_enter Tryz.func66, Tryz.ntmps66
  go_wp2
  go_loopw [3] (fun i wr => ∃ n : Nat, n ≤ s.size ∧ i = .int .i64 n ∧ Hid (n + pieceN (s.data.toList.drop n) = pieceN s.data.toList) ∧ Below w.heap.size w wr) (fun i _ => s.size - (intOf i).toNat)
  case atStart => exact ⟨0, by omega, rfl, Lib.hid (by simp), Below.refl _ _⟩
  case round =>
    obtain ⟨n, hn, rfl, Hrun, hB⟩ := hrel
    by_cases hlt : n < s.size
    · have hi := iany_ext s n hs
      obtain ⟨p1, p2⟩ := piece_to (s.data.toList.drop n)
      have hge := Lib.indexAny_ge qsChars (s.data.toList.drop n)
      generalize Lib.indexAny (s.data.toList.drop n) qsChars = z at *
      by_cases hz : z = -1
      · subst hz
        have hp := p1 rfl
        rw [List.length_drop, ← Hsz.out] at hp
        have Hp := Lib.hid hp
        have Hi := Lib.hid hi
        clear hi p1 p2 hp
        go_wp2_with (go_at_call 87; refine (Hi.out _).mono ?_; rintro e w' ⟨rfl, hb⟩; replace hB := hB.trans (hb.mono hB.size); clear hb)
        go_ret
        refine ⟨ret_n ?_, hB⟩
        rw [← Hrun.out, Hp.out]; omega
      · obtain ⟨k, rfl⟩ : ∃ k : Nat, z = (k : Int) := ⟨z.toNat, by omega⟩
        obtain ⟨q1, q2, b, r, q3, q4⟩ := p2 k rfl
        rw [List.length_drop, ← Hsz.out] at q1
        rw [List.drop_drop] at q2 q3
        have he := esc_ext s (n + k) hs
        have hle := escN_le (s.data.toList.drop (n + k))
        rw [List.length_drop, ← Hsz.out] at hle
        have hmore := piece_esc (s.data.toList.drop (n + k))
        rw [List.drop_drop] at hmore
        have hstop : escN (s.data.toList.drop (n + k)) = 0 → pieceN (s.data.toList.drop (n + k)) = 0 := fun h => by
          rw [q3] at h ⊢
          exact piece_stop b r q4 h
        generalize escN (s.data.toList.drop (n + k)) = x at *
        have Hi := Lib.hid hi
        have He := Lib.hid he
        have Q2 := Lib.hid q2
        have Hmore := Lib.hid hmore
        have Hstop := Lib.hid hstop
        clear hi he q2 q3 q4 p1 p2 hmore hstop hz
        have hnk : n + k < s.size := by omega
        by_cases hx : x = 0
        · subst hx
          go_wp2_with (first | (go_at_call 87; refine (Hi.out _).mono ?_; rintro e w' ⟨rfl, hb⟩; replace hB := hB.trans (hb.mono hB.size); clear hb) | (go_at_call 88; refine (He.out _).mono ?_; rintro e w' ⟨rfl, rfl⟩))
          go_ret
          refine ⟨?_, hB⟩
          have e : pieceN s.data.toList = n + k := by rw [← Hrun.out, Q2.out, Hstop.out trivial]; omega
          rw [e]; rfl
        · have hxp : 0 < x := by omega
          go_wp2_with (first | (go_at_call 87; refine (Hi.out _).mono ?_; rintro e w' ⟨rfl, hb⟩; replace hB := hB.trans (hb.mono hB.size); clear hb) | (go_at_call 88; refine (He.out _).mono ?_; rintro e w' ⟨rfl, rfl⟩))
          go_roundw
          case rel => exact ⟨n + k + x, by omega, by go_num, Lib.hid (by rw [← Hrun.out, Q2.out, Hmore.out hx]; omega), hB⟩
          case measure => simp [intOf]; omega
    · obtain rfl : n = s.size := by omega
      go_wp2
      go_ret
      refine ⟨ret_n ?_, hB⟩
      have := Hrun.out
      rw [List.drop_eq_nil_of_le (by rw [← Hsz.out]; exact Nat.le_refl _), piece_nil] at this
      exact this
end Go.Proofs.YtfaocpcbejgfjaaGreatDoor
namespace Go.Proofs.YtfaocpcbejgfjaaGreatDoor
open Go.RowKit Go.Sub

/-- a function that tells how many bytes of a text's front are such a one; it may take memory -/
def Tells1 (g : Nat) (f : List UInt8 → Nat) : Prop := ∀ (s : ByteArray) w, 0 < s.size → s.size ≤ 65536 → Calls Tryz.prog g #[.string s] w fun e w' => e = .returned (.int .i64 (f s.data.toList : Nat)) ∧ Below w.heap.size w w'
theorem tells1_of {g : Nat} {f : List UInt8 → Nat} (h : Tells g f) : Tells1 g f := fun s w _ hs => (h s w (by omega)).mono fun e w' ⟨he, hw⟩ => ⟨he, by rw [hw]; exact Below.refl _ _⟩
theorem word_tells : Tells 54 wordN := fun s w hs => word_calls s w hs
theorem number_tells : Tells 62 numberN := fun s w hs => number_calls s w hs
theorem oper_tells1 : Tells1 65 operN := fun s w _ _ => oper_calls s w
theorem note_tells1 : Tells1 53 noteN := fun s w h0 hs => (note_calls s w (by omega) h0).mono fun e w' ⟨he, hw⟩ => ⟨he, by rw [hw]; exact Below.refl _ _⟩
theorem drop_le {f : List UInt8 → Nat} (hf : ∀ l, f l ≤ l.length) (s : ByteArray) : f (s.data.toList.drop 1) ≤ s.size := by
  have := hf (s.data.toList.drop 1)
  rw [List.length_drop, ← Lib.size_eq] at this; omega
set_option maxRecDepth 100000 in
theorem field_tells1 : Tells1 55 (behindN 46 simpleN) := by
  intro s w h0 hs
  go_enter Tryz.func55, Tryz.ntmps55
  go_wp2_with (go_at_call 56; refine (behind_calls 57 (fun _ _ => rfl) simpleN field1_tells 46 s _ (by omega) h0 (drop_le simpleN_le s)).mono ?_; rintro e w' ⟨rfl, rfl⟩)
  go_ret
  exact ⟨rfl, Below.refl _ _⟩
set_option maxRecDepth 100000 in
theorem var_tells1 : Tells1 60 (behindN 36 wordN) := by
  intro s w h0 hs
  go_enter Tryz.func60, Tryz.ntmps60
  go_wp2_with (go_at_call 56; refine (behind_calls 54 (fun _ _ => rfl) wordN word_tells 36 s _ (by omega) h0 (drop_le wordN_le s)).mono ?_; rintro e w' ⟨rfl, rfl⟩)
  go_ret
  exact ⟨rfl, Below.refl _ _⟩
set_option maxRecDepth 100000 in
theorem fmt_tells1 : Tells1 61 (behindN 64 (runOf isPart)) := by
  intro s w h0 hs
  go_enter Tryz.func61, Tryz.ntmps61
  go_wp2_with (go_at_call 56; refine (behind_calls 59 (fun _ _ => rfl) (runOf isPart) parts_tells 64 s _ (by omega) h0 (drop_le (runOf_le isPart) s)).mono ?_; rintro e w' ⟨rfl, rfl⟩)
  go_ret
  exact ⟨rfl, Below.refl _ _⟩
def quoteN (l : List UInt8) : Nat := match l with
  | [] => 0
  | b :: _ => if b == 34 then 1 else 0
theorem quote_len (l : List UInt8) : (Lib.trimPrefix l [34]).length + quoteN l = l.length := by
  match l with
  | [] => rfl
  | b :: r =>
    rw [tp_cons]
    show _ + (if b == 34 then 1 else 0) = _
    by_cases h : b = 34
    · subst h; rfl
    · rw [if_neg (by simpa using fun e => h (Eq.symm e)), if_neg (by simpa using h)]; rfl
set_option maxRecDepth 100000 in
theorem quote_tells1 : Tells1 63 quoteN := by
  intro s w h0 hs
  have hq := quote_len s.data.toList
  have ht := trim_calls s ⟨#[34]⟩ 34 rfl
  have Hq := Lib.hid hq
  have Ht := Lib.hid ht
  have Hsz := Lib.hid (Lib.size_eq s)
  clear hq ht
  go_enter Tryz.func63, Tryz.ntmps63
  go_wp2_with (go_at_call 64; refine (Ht.out _).mono ?_; rintro e w' ⟨R, rfl, rfl, hR, hRs⟩; have HR := Lib.hid hR; clear hR)
  go_ret
  refine ⟨?_, Below.refl _ _⟩
  have h1 := Hq.out
  rw [← HR.out, ← Lib.size_eq, ← Lib.size_eq] at h1
  have h2 : (s.size : Int) - (R.size : Int) = (quoteN s.data.toList : Nat) := by omega
  show Ending.returned (.int .i64 ((s.size : Int) - (R.size : Int))) = _
  rw [h2]
/-- the kinds, in order, and what tells each -/
def triesL : List (Nat × Nat × (List UInt8 → Nat)) := [(1, 50, runOf isBlank), (2, 53, noteN), (3, 54, wordN), (4, 55, behindN 46 simpleN), (5, 60, behindN 36 wordN), (12, 61, behindN 64 (runOf isPart)), (6, 62, numberN), (7, 63, quoteN), (13, 65, operN)]
theorem tries_tell : ∀ x ∈ triesL, Tells1 x.2.1 x.2.2 := by
  intro x hx
  simp only [triesL, List.mem_cons, List.not_mem_nil, or_false] at hx
  rcases hx with rfl | rfl | rfl | rfl | rfl | rfl | rfl | rfl | rfl
  · exact tells1_of space_tells
  · exact note_tells1
  · exact tells1_of word_tells
  · exact field_tells1
  · exact var_tells1
  · exact fmt_tells1
  · exact tells1_of number_tells
  · exact quote_tells1
  · exact oper_tells1
def triesC : List Value := triesL.flatMap fun x => [.int .i64 x.1, .func (.func x.2.1) #[] #[]]
set_option maxRecDepth 100000 in
theorem tries_calls (w : World) :
    Calls Tryz.prog 33 #[] w fun e w' => e = .returned (.slice (some ⟨w.heap.size, 0, none⟩) 9 9) ∧ w' = w.alloc (.cells triesC.toArray 79) := by
  go_enter Tryz.func33, Tryz.ntmps33
  go_wp2
  go_ret
  exact ⟨rfl, rfl⟩
end Go.Proofs.YtfaocpcbejgfjaaGreatDoor
namespace Go.Proofs.YtfaocpcbejgfjaaGreatDoor
open Go.RowKit Go.Sub

def stackC (st : List Nat) : List Value := st.reverse.map fun n : Nat => Value.int .i64 (n : Int)
/-- how a lexer lies: its block, and the row of its stack -/
structure LexSt (w : World) (X : Nat) (s : ByteArray) (at' : Nat) (v : Value) (st : List Nat) (inn : Bool) (er : Int) : Prop where
  blk : w.heap[X]? = some (.cells #[.string s, .int .i64 at', v, .bool inn, .int .u16 er] 49 (0, 0))
  own : w.ownsRow (X + 1) 3 1 v st.length (stackC st)
variable {w : World} {X : Nat} {s : ByteArray} {at' : Nat} {v : Value} {st : List Nat} {inn : Bool} {er : Int}
theorem LexSt.c0 (h : LexSt w X s at' v st inn er) : w.cell? ⟨X, 0, none⟩ = some (.string s) := cell_of_block h.blk rfl
theorem LexSt.c1 (h : LexSt w X s at' v st inn er) : w.cell? ⟨X, 1, none⟩ = some (.int .i64 at') := cell_of_block h.blk rfl
theorem LexSt.c2 (h : LexSt w X s at' v st inn er) : w.cell? ⟨X, 2, none⟩ = some v := cell_of_block h.blk rfl
theorem LexSt.c3 (h : LexSt w X s at' v st inn er) : w.cell? ⟨X, 3, none⟩ = some (.bool inn) := cell_of_block h.blk rfl
theorem LexSt.c4 (h : LexSt w X s at' v st inn er) : w.cell? ⟨X, 4, none⟩ = some (.int .u16 er) := cell_of_block h.blk rfl
theorem LexSt.free (h : LexSt w X s at' v st inn er) (o : Nat) : w.frozen? ⟨X, o, none⟩ = false := frozen_of_row w X o _ _ h.blk
theorem LexSt.apart (h : LexSt w X s at' v st inn er) : v.ownBlock ≠ some X := by
  intro e
  have := h.own.lt X e
  omega
/-- the stack is empty, or a row whose last cell is on top -/
theorem LexSt.nil_or (h : LexSt w X s at' v st inn er) : st = [] ∧ (∃ p cap, v = .slice p 0 cap) ∨ ∃ t rest g cap cur, st = t :: rest ∧ v = .slice (some ⟨g, 0, none⟩) (rest.length + 1) cap ∧ X + 1 ≤ g ∧ w.heap[g]? = some (.cells cur 3 (0, 0)) ∧ rest.length + 1 ≤ cap ∧ cap ≤ maxLen ∧ cur.size = cap ∧ cur.toList.take (rest.length + 1) = stackC (t :: rest) := by
  obtain ⟨_, h2⟩ := h.own
  match st, h2 with
  | [], .inl ⟨h, _⟩ => exact .inl ⟨rfl, none, 0, h⟩
  | [], .inr ⟨g, cap, cur, h, _⟩ => exact .inl ⟨rfl, some ⟨g, 0, none⟩, cap, h⟩
  | t :: rest, .inl ⟨_, h⟩ => simp at h
  | t :: rest, .inr ⟨g, cap, cur, h1, h2, h3, h4, h5, h6, h7⟩ =>
    exact .inr ⟨t, rest, g, cap, cur, rfl, h1, h2, h3, h4, h5, by rw [h6]; omega, by rw [← h7, Nat.mul_one]; rfl⟩
theorem stack_top (t : Nat) (rest : List Nat) : (stackC (t :: rest))[rest.length]? = some (.int .i64 (t : Int)) := by
  unfold stackC
  simp

set_option maxRecDepth 100000 in
theorem top_nil (h : LexSt w X s at' v [] inn er) :
    Calls Tryz.prog 37 #[.pointer (some ⟨X, 2, none⟩)] w fun e w' => e = .returned (.pointer none) ∧ w' = w := by
  rcases h.nil_or with ⟨_, p, cap, rfl⟩ | ⟨t, rest, g, cap, cur, h1, _⟩
  · have c2 := h.c2
    go_enter Tryz.func37, Tryz.ntmps37
    go_wp2
    go_ret
    exact ⟨rfl, rfl⟩
  · simp at h1
set_option maxRecDepth 100000 in
set_option maxHeartbeats 1000000 in
theorem top_some {t : Nat} {rest : List Nat} {g cap : Nat} (h : LexSt w X s at' (.slice (some ⟨g, 0, none⟩) (rest.length + 1) cap) (t :: rest) inn er) :
    Calls Tryz.prog 37 #[.pointer (some ⟨X, 2, none⟩)] w fun e w' => e = .returned (.pointer (some ⟨g, rest.length, none⟩)) ∧ ∃ n, w' = w.drewN n := by
  have c2 := h.c2
  have hl : rest.length + 1 ≤ 9223372036854775807 := by
    rcases h.nil_or with ⟨h1, _⟩ | ⟨t', rest', g', cap', cur, h1, h2, h3, h4, h5, h6, h7, h8⟩
    · simp at h1
    · cases h1
      simp only [maxLen] at h6; omega
  generalize rest.length = n at *
  clear h
  have w1 : IntKind.i64.wrap (((n : Int) + 1) - 1) = (n : Int) := by rw [IntWalk.i64_in _ (by omega)]; omega
  have w2 : ((n : Int) + 1) - 1 = (n : Int) := by omega
  go_enter Tryz.func37, Tryz.ntmps37
  go_wp2
  go_quiet (fail)
  go_wp2
  go_ret
  exact ⟨rfl, _, rfl⟩
end Go.Proofs.YtfaocpcbejgfjaaGreatDoor
namespace Go.Proofs.YtfaocpcbejgfjaaGreatDoor
open Go.RowKit Go.Sub

theorem hi3 : (Tryz.prog.info? 3).map (fun i => (i.zero, i.size, i.bytes)) = some (some (.int .i64 0), 1, 8) := by kernel_rfl
theorem stack_und : Tryz.prog.underlying 39 = some (.slice 3) := by kernel_rfl
variable {w : World} {X : Nat} {s : ByteArray} {at' : Nat} {v : Value} {st : List Nat} {inn : Bool} {er : Int}
/-- what of a world a step of the lexer may turn -/
def lexO (X : Nat) (v : Value) (b : Nat) : Prop := b = X ∨ some b = v.ownBlock
theorem LexSt.keeps {w' : World} {O : Nat → Prop} (h : LexSt w X s at' v st inn er) (k : Keeps O w w') (hX : ¬ O X) (hv : ∀ g, some g = v.ownBlock → ¬ O g) : LexSt w' X s at' v st inn er :=
  ⟨k.heap h.blk hX, ownsRow_keeps h.own k hv⟩
theorem LexSt.below {w' : World} (h : LexSt w X s at' v st inn er) (k : Below w.heap.size w w') : LexSt w' X s at' v st inn er :=
  h.keeps (O := fun _ => False) (Keeps.of_below' k) (fun h => h) (fun _ _ h => h)
/-- a cell of the lexer's block is set -/
theorem LexSt.set {cs : Array Value} {o : Nat} {u : Value} (h : LexSt w X s at' v st inn er) (hcs : cs = (#[.string s, .int .i64 at', v, .bool inn, .int .u16 er] : Array Value).setIfInBounds o u) : (w.setCell ⟨X, o, none⟩ u).heap[X]? = some (.cells cs 49 (0, 0)) := by
  rw [hcs]; exact heap_setCell_same w X o _ _ u h.blk
theorem keeps_setCell (w : World) (X o : Nat) (u : Value) {O : Nat → Prop} (hO : O X) : Keeps O w (w.setCell ⟨X, o, none⟩ u) :=
  ⟨rfl, rfl, rfl, by simp, fun b _ hb => heap_setCell_other w _ b u fun e => hb (by rw [e]; exact hO)⟩
theorem own_succ {w : World} {b e sz n : Nat} {v : Value} {xs : List Value} (h : w.ownsRow b e sz v (n + 1) xs) : ∃ g cap, v = .slice (some ⟨g, 0, none⟩) (n + 1) cap := by
  rcases h.2 with ⟨_, h⟩ | ⟨g, cap, cur, h, _⟩
  · omega
  · exact ⟨g, cap, h⟩
theorem stack_push (k : Nat) (st : List Nat) : stackC st ++ [.int .i64 (k : Int)] = stackC (k :: st) := by unfold stackC; simp

set_option maxRecDepth 100000 in
set_option maxHeartbeats 1000000 in
theorem push_calls (h : LexSt w X s at' v st inn er) (k : Nat) (hst : st.length ≤ 300) (hX : X < w.heap.size) :
    Calls Tryz.prog 67 #[.pointer (some ⟨X, 2, none⟩), .int .i64 (k : Int)] w fun e w' => ∃ v', e = .returned (.tuple #[]) ∧ LexSt w' X s at' v' (k :: st) inn er ∧ Keeps (lexO X v) w w' ∧ (v'.ownBlock = v.ownBlock ∨ ∃ g, v'.ownBlock = some g ∧ w.heap.size ≤ g) := by
  obtain ⟨i0, hi, hz0, hz1, hz2⟩ := info_parts hi3
  have hB1 : Below w.heap.size w (w.alloc (.cells #[.int .i64 (k : Int)] 3)) := (Below.refl _ _).alloc (Nat.le_refl _) _
  have h1 := h.below hB1
  have hnew : ∀ (j : Nat) u, ([.int .i64 (k : Int)] : List Value)[j]? = some u → (w.alloc (.cells #[.int .i64 (k : Int)] 3)).cell? ((⟨w.heap.size, 0, none⟩ : Addr).add j) = some u := by
    intro j u hu
    match j, hu with
    | 0, hu =>
      have e : (⟨w.heap.size, 0, none⟩ : Addr).add 0 = ⟨w.heap.size, 0, none⟩ := by unfold Addr.add; split <;> simp_all
      rw [e]
      simp at hu
      rw [← hu]
      exact (Boxed.new w 3 (.int .i64 (k : Int))).cell
    | j + 1, hu => simp at hu
  have c2 := h.c2
  go_enter Tryz.func67, Tryz.ntmps67
  go_wp2_with (at_builtin; refine wpList_append_O _ rfl _ _ 39 rfl (X + 1) 3 i0 (.int .i64 0) 1 8 stack_und hi hz0 hz1 hz2 rfl (by decide) v st.length (stackC st) rfl h1.own ⟨w.heap.size, 0, none⟩ 1 1 [.int .i64 (k : Int)] rfl rfl hnew (by intro u hu; simp at hu; subst hu; rfl) (by simp only [maxLen]; omega) (by omega) (by simp; omega) ?_; intro v' w1 hown hkeep hblk _; rw [stack_push] at hown; obtain ⟨g', cap', rfl⟩ := own_succ hown; have hblk' := hkeep.heap h1.blk (fun e => h.apart e.symm); have c2' : w1.cell? ⟨X, 2, none⟩ = some v := cell_of_block hblk' rfl; have f2' : w1.frozen? ⟨X, 2, none⟩ = false := frozen_of_row w1 X 2 _ _ hblk'; have Hown := Lib.hid hown; have Hblk := Lib.hid hblk; have Hblk' := Lib.hid hblk'; have Hkeep := Lib.hid hkeep; clear hown hblk hblk' hkeep)
  go_end0
  have hnX : (Value.slice (some ⟨g', 0, none⟩) (st.length + 1) cap').ownBlock ≠ some X := by
    intro e
    have := Hown.out.lt X e
    omega
  refine ⟨_, rfl, ⟨heap_setCell_same w1 X 2 _ _ _ Hblk'.out, ownsRow_setCell_other Hown.out hnX _⟩, ?_, ?_⟩
  · exact ((Keeps.of_below' hB1).trans' (Hkeep.out.mono (O' := lexO X v) fun b _ hb => .inr hb) fun _ _ hb => hb).trans (keeps_setCell w1 X 2 _ (.inl rfl))
  · rcases Hblk.out with e | e
    · exact .inl e
    · exact .inr ⟨_, e, by simp⟩

theorem stack_len (st : List Nat) : (stackC st).length = st.length := by unfold stackC; simp
theorem own_pop {w : World} {B t : Nat} {rest : List Nat} {g cap : Nat} (h : w.ownsRow B 3 1 (.slice (some ⟨g, 0, none⟩) (rest.length + 1) cap) (rest.length + 1) (stackC (t :: rest))) : w.ownsRow B 3 1 (.slice (some ⟨g, 0, none⟩) rest.length cap) rest.length (stackC rest) := by
  refine ⟨by rw [stack_len]; omega, ?_⟩
  rcases h.2 with ⟨h1, _⟩ | ⟨g', cap', cur, h1, h2, h3, h4, h5, h6, h7⟩
  · cases h1
  · cases h1
    refine .inr ⟨g, cap, cur, rfl, h2, h3, by omega, h5, h6, ?_⟩
    rw [← stack_push] at h7
    have h8 := congrArg (List.take rest.length) h7
    rw [List.take_take, List.take_left' (stack_len rest)] at h8
    rw [← h8]
    congr 1; omega
theorem LexSt.drewN (h : LexSt w X s at' v st inn er) (n : Nat) : LexSt (w.drewN n) X s at' v st inn er := ⟨h.blk, h.own⟩

set_option maxRecDepth 100000 in
set_option maxHeartbeats 1000000 in
theorem pop_calls {t : Nat} {rest : List Nat} {g cap : Nat} (h : LexSt w X s at' (.slice (some ⟨g, 0, none⟩) (rest.length + 1) cap) (t :: rest) inn er) :
    Calls Tryz.prog 89 #[.pointer (some ⟨X, 2, none⟩)] w fun e w' => e = .returned (.tuple #[]) ∧ LexSt w' X s at' (.slice (some ⟨g, 0, none⟩) rest.length cap) rest inn er ∧ Keeps (fun b => b = X) w w' := by
  have c2 := h.c2
  have f2 := h.free 2
  have hown := own_pop h.own
  have hgX : (Value.slice (some ⟨g, 0, none⟩) rest.length cap).ownBlock ≠ some X := h.apart
  have hcap : rest.length ≤ cap ∧ cap ≤ 9223372036854775807 := by
    rcases h.nil_or with ⟨h1, _⟩ | ⟨t', rest', g', cap', cur, h1, h2, h3, h4, h5, h6, h7, h8⟩
    · simp at h1
    · cases h1; cases h2
      simp only [maxLen] at h6; omega
  obtain ⟨hc1, hc2⟩ := hcap
  have Hown := Lib.hid hown
  have Hblk := Lib.hid h.blk
  have HgX := Lib.hid hgX
  clear hown hgX h
  generalize hn : rest.length = n at *
  have Hn := Lib.hid hn
  clear hn
  have w1 : IntKind.i64.wrap (((n : Int) + 1) - 1) = (n : Int) := by rw [IntWalk.i64_in _ (by omega)]; omega
  have w2 : ((n : Int) + 1) - 1 = (n : Int) := by omega
  go_enter Tryz.func89, Tryz.ntmps89
  go_wp2
  go_region
  all_goals
    go_end0
    refine ⟨rfl, ⟨heap_setCell_same w X 2 _ _ _ Hblk.out, ?_⟩, (keeps_setCell (O := fun b => b = X) w X 2 _ rfl).trans (Keeps.drew _)⟩
    rw [Hn.out]
    exact ownsRow_setCell_other Hown.out HgX.out _
end Go.Proofs.YtfaocpcbejgfjaaGreatDoor
namespace Go.Proofs.YtfaocpcbejgfjaaGreatDoor
open Go.RowKit Go.Sub

/-- what a token makes of the stack, of its own kind, and whether a string goes on -/
def brkN (st : List Nat) (kind : Nat) (text : List UInt8) : List Nat × Nat × Bool := match st with
  | [] => ([], kind, false)
  | t :: rest => if kind == 13 then (if text == [40] then ((t + 1) :: rest, kind, false) else if text == [41] then (if t = 0 then (rest, 10, true) else ((t - 1) :: rest, kind, false)) else (t :: rest, kind, false)) else (t :: rest, kind, false)
theorem own_set {w : World} {B t u : Nat} {rest : List Nat} {g cap : Nat} (h : w.ownsRow B 3 1 (.slice (some ⟨g, 0, none⟩) (rest.length + 1) cap) (rest.length + 1) (stackC (t :: rest))) :
    w.cell? ⟨g, rest.length, none⟩ = some (.int .i64 (t : Int)) ∧ w.frozen? ⟨g, rest.length, none⟩ = false ∧ (w.setCell ⟨g, rest.length, none⟩ (.int .i64 (u : Int))).ownsRow B 3 1 (.slice (some ⟨g, 0, none⟩) (rest.length + 1) cap) (rest.length + 1) (stackC (u :: rest)) := by
  rcases h.2 with ⟨h1, _⟩ | ⟨g', cap', cur, h1, h2, h3, h4, h5, h6, h7⟩
  · cases h1
  · cases h1
    have hat : cur[rest.length]? = some (.int .i64 (t : Int)) := by
      have := stack_top t rest
      rw [← h7, List.getElem?_take] at this
      rw [if_pos (by omega)] at this
      simpa using this
    refine ⟨cell_of_block h3 hat, frozen_of_row w g _ _ _ h3, by rw [stack_len]; simp, .inr ⟨g, cap, cur.setIfInBounds rest.length (.int .i64 (u : Int)), rfl, h2, heap_setCell_same w g _ _ _ _ h3, h4, h5, by rw [Array.size_setIfInBounds]; exact h6, ?_⟩⟩
    rw [← stack_push] at h7 ⊢
    have hr : cur.toList.take rest.length = stackC rest := by
      have h8 := congrArg (List.take rest.length) h7
      rw [List.take_take, List.take_left' (stack_len rest)] at h8
      rw [← h8]; congr 1; omega
    have hlt : rest.length < cur.size := (Array.getElem?_eq_some_iff.1 hat).1
    rw [Nat.mul_one, List.take_add_one, Array.toList_setIfInBounds, List.take_set_of_le (Nat.le_refl _), hr]
    simp [hlt]
/-- how a token lies -/
def TokAt (w : World) (T : Nat) (kind : Nat) (text : ByteArray) : Prop := w.heap[T]? = some (.cells #[.int .i64 (kind : Int), .string text] 32 (0, 0))

theorem TokAt.k {w : World} {T kind : Nat} {text : ByteArray} (h : TokAt w T kind text) : w.cell? ⟨T, 0, none⟩ = some (.int .i64 (kind : Int)) := cell_of_block h rfl
theorem TokAt.t {w : World} {T kind : Nat} {text : ByteArray} (h : TokAt w T kind text) : w.cell? ⟨T, 1, none⟩ = some (.string text) := cell_of_block h rfl
theorem TokAt.free {w : World} {T kind : Nat} {text : ByteArray} (h : TokAt w T kind text) (o : Nat) : w.frozen? ⟨T, o, none⟩ = false := frozen_of_row w T o _ _ h
theorem TokAt.keeps {w w' : World} {T kind : Nat} {text : ByteArray} {O : Nat → Prop} (h : TokAt w T kind text) (k : Keeps O w w') (hT : ¬ O T) : TokAt w' T kind text := k.heap h hT
/-- what a step may turn: the lexer, the token, the row -/
def brkO (X T : Nat) (v : Value) (b : Nat) : Prop := b = X ∨ b = T ∨ some b = v.ownBlock
def Brk (w : World) (X T : Nat) (s : ByteArray) (at' : Nat) (v : Value) (inn : Bool) (er : Int) (text : ByteArray) (r : List Nat × Nat × Bool) (e : Ending) (w' : World) : Prop :=
  ∃ v', e = .returned (.tuple #[]) ∧ LexSt w' X s at' v' r.1 (r.2.2 || inn) er ∧ TokAt w' T r.2.1 text ∧ Keeps (brkO X T v) w w' ∧ v'.ownBlock = v.ownBlock
variable {w : World} {X T : Nat} {s : ByteArray} {at' : Nat} {v : Value} {st : List Nat} {inn : Bool} {er : Int} {kind : Nat} {text : ByteArray}
theorem brk_same (h : LexSt w X s at' v st inn er) (hT : TokAt w T kind text) (n : Nat) : Brk w X T s at' v inn er text (st, kind, false) (.returned (.tuple #[])) (w.drewN n) :=
  ⟨v, rfl, h.drewN n, hT, (Keeps.of_below' (below_drewN (Below.refl _ _) n)), rfl⟩

theorem brk_row {t u : Nat} {rest : List Nat} {g cap : Nat} (h : LexSt w X s at' (.slice (some ⟨g, 0, none⟩) (rest.length + 1) cap) (t :: rest) inn er) (hT : TokAt w T kind text) (hgX : g ≠ X) (hgT : T ≠ g) (n : Nat) :
    Brk w X T s at' (.slice (some ⟨g, 0, none⟩) (rest.length + 1) cap) inn er text (u :: rest, kind, false) (.returned (.tuple #[])) ((w.setCell ⟨g, rest.length, none⟩ (.int .i64 (u : Int))).drewN n) := by
  have hk := keeps_setCell (O := fun b => b = g) w g rest.length (.int .i64 (u : Int)) rfl
  exact ⟨_, rfl, ⟨hk.heap h.blk (fun e => hgX e.symm), (own_set (u := u) h.own).2.2⟩, hk.heap hT hgT, (hk.mono fun b _ e => .inr (.inr (by rw [e]; rfl))).trans (Keeps.of_below' (below_drewN (Below.refl _ _) n)), rfl⟩
theorem brk_popped {w2 : World} {v2 : Value} {rest : List Nat} {n : Nat} (h : LexSt w2 X s at' v2 rest inn er) (hT : TokAt w2 T kind text) (hk : Keeps (fun b => b = X) (w.drewN n) w2) (hTX : T ≠ X) (hTv : v2.ownBlock ≠ some T) (hv : v2.ownBlock = v.ownBlock) :
    Brk w X T s at' v inn er text (rest, 10, true) (.returned (.tuple #[])) ((w2.setCell ⟨T, 0, none⟩ (.int .i64 10)).setCell ⟨X, 3, none⟩ (.bool true)) := by
  have k1 := keeps_setCell (O := fun b => b = T) w2 T 0 (.int .i64 10) rfl
  have k2 := keeps_setCell (O := fun b => b = X) (w2.setCell ⟨T, 0, none⟩ (.int .i64 10)) X 3 (.bool true) rfl
  have b1 := k1.heap h.blk (fun e => hTX e.symm)
  have t1 := heap_setCell_same w2 T 0 _ _ (.int .i64 10) hT
  refine ⟨v2, rfl, ⟨heap_setCell_same _ X 3 _ _ _ b1, ?_⟩, k2.heap t1 hTX, ?_, hv⟩
  · exact ownsRow_setCell_other (ownsRow_setCell_other h.own hTv _) h.apart _
  · exact (((Keeps.of_below' (below_drewN (Below.refl _ _) n)).trans' (hk.mono fun b _ e => .inl e) fun _ _ e => e).trans (k1.mono fun b _ e => .inr (.inl e))).trans (k2.mono fun b _ e => .inl e)
theorem brk_other {t : Nat} {rest : List Nat} {l : List UInt8} (h40 : (l == [40]) = false) (h41 : (l == [41]) = false) : brkN (t :: rest) 13 l = (t :: rest, 13, false) := by
  simp only [brkN, beq_self_eq_true, if_true, h40, h41, Bool.false_eq_true, if_false]
theorem brk_open {t : Nat} {rest : List Nat} : brkN (t :: rest) 13 [40] = ((t + 1) :: rest, 13, false) := rfl
theorem brk_close {t : Nat} {rest : List Nat} (h : t ≠ 0) : brkN (t :: rest) 13 [41] = ((t - 1) :: rest, 13, false) := by
  show (if t = 0 then _ else _) = _
  rw [if_neg h]
theorem brk_end {rest : List Nat} : brkN (0 :: rest) 13 [41] = (rest, 10, true) := rfl
theorem brk_kind {t kind : Nat} {rest : List Nat} {l : List UInt8} (h : kind ≠ 13) : brkN (t :: rest) kind l = (t :: rest, kind, false) := by
  have : (kind == 13) = false := by simpa using h
  simp only [brkN, this, Bool.false_eq_true, if_false]

set_option maxRecDepth 100000 in
set_option maxHeartbeats 2000000 in
theorem bracket_calls (h : LexSt w X s at' v st inn er) (hT : TokAt w T kind text) (hTX : T ≠ X) (hTv : ¬ some T = v.ownBlock) (hb : ∀ x ∈ st, x ≤ 70000) (hk : kind ≤ 100) :
    Calls Tryz.prog 68 #[.pointer (some ⟨X, 0, none⟩), .pointer (some ⟨T, 0, none⟩)] w (Brk w X T s at' v inn er text (brkN st kind text.data.toList)) := by
  have k0 := hT.k
  have k1 := hT.t
  rcases h.nil_or with ⟨rfl, p, cap, rfl⟩ | ⟨t, rest, g, cap, cur, rfl, rfl, hg, hgb, hg1, hg2, hg3, hg4⟩
  · have Htop := Lib.hid (top_nil h)
    have Hend := Lib.hid (brk_same h hT 0)
    go_enter Tryz.func68, Tryz.ntmps68
    go_wp2_with (go_at_call 37; refine (Htop.out).mono ?_; rintro e w' ⟨rfl, rfl⟩)
    go_end0
    exact Hend.out
  · have Htop := Lib.hid (top_some h)
    have H := Lib.hid h
    have HT := Lib.hid hT
    have ht := hb t (by simp)
    have hgT : T ≠ g := fun e => hTv (by rw [e]; rfl)
    have hgX : g ≠ X := by omega
    by_cases hk13 : kind = 13
    · subst hk13
      cases h40 : (text.data.toList == [40])
      · cases h41 : (text.data.toList == [41])
        · rw [brk_other h40 h41]
          have b40 : (text.toList == [40]) = false := by rw [Lib.toList_data]; exact h40
          have b41 : (text.toList == [41]) = false := by rw [Lib.toList_data]; exact h41
          clear h40 h41 hgb hg4 h hT
          go_enter Tryz.func68, Tryz.ntmps68
          go_wp2_with (go_at_call 37; refine (Htop.out).mono ?_; rintro e w' ⟨rfl, nq, rfl⟩)
          go_end0
          exact brk_same H.out HT.out _
        · have e41 : text.data.toList = [41] := eq_of_beq h41
          have b40 : (text.toList == [40]) = false := by rw [Lib.toList_data]; exact h40
          have b41 : (text.toList == [41]) = true := by rw [Lib.toList_data]; exact h41
          by_cases ht0 : t = 0
          · subst ht0
            rw [e41, brk_end]
            obtain ⟨r1, r2, _⟩ := own_set (u := 0) h.own
            have Hpop := Lib.hid fun n => pop_calls (h.drewN n)
            clear h40 h41 e41 hgb hg4 h hT hb
            go_enter Tryz.func68, Tryz.ntmps68
            go_wp2_with (first | (go_at_call 37; refine (Htop.out).mono ?_; rintro e w' ⟨rfl, nq, rfl⟩) | (go_at_call 89; refine (Hpop.out _).mono ?_; rintro e w2 ⟨rfl, h2, hkp⟩; have hT2 : TokAt w2 T 13 text := hkp.heap HT.out hTX; have p0 := hT2.k; have p1 := hT2.free 0; have p2 := h2.c3; have p3 := h2.free 3; have H2 := Lib.hid h2; have HT2 := Lib.hid hT2; have Hkp := Lib.hid hkp; clear h2 hT2 hkp))
            go_end0
            exact brk_popped H2.out HT2.out Hkp.out hTX (fun e => hTv e.symm) rfl
          · rw [e41, brk_close ht0]
            obtain ⟨r1, r2, _⟩ := own_set (u := t - 1) h.own
            have htp : 0 < t := by omega
            have hw : (t : Int) - 1 = ((t - 1 : Nat) : Int) := by omega
            generalize t - 1 = u at *
            clear h40 h41 e41 hgb hg4 h hT hb
            go_enter Tryz.func68, Tryz.ntmps68
            go_wp2_with (go_at_call 37; refine (Htop.out).mono ?_; rintro e w' ⟨rfl, nq, rfl⟩)
            go_end0
            exact brk_row H.out HT.out hgX hgT _
      · have e40 : text.data.toList = [40] := eq_of_beq h40
        have b40 : (text.toList == [40]) = true := by rw [Lib.toList_data]; exact h40
        rw [e40, brk_open]
        obtain ⟨r1, r2, _⟩ := own_set (u := t + 1) h.own
        clear h40 e40 hgb hg4 h hT hb
        go_enter Tryz.func68, Tryz.ntmps68
        go_wp2_with (go_at_call 37; refine (Htop.out).mono ?_; rintro e w' ⟨rfl, nq, rfl⟩)
        go_end0
        exact brk_row H.out HT.out hgX hgT _
    · rw [brk_kind hk13]
      have y1 : ((kind : Int) != 13) = true := by rw [bne_iff_ne]; omega
      have y2 : ((kind : Int) = 13) = False := by apply eq_false; omega
      clear hgb hg4 h hT hk13
      go_enter Tryz.func68, Tryz.ntmps68
      go_wp2_with (go_at_call 37; refine (Htop.out).mono ?_; rintro e w' ⟨rfl, nq, rfl⟩)
      go_end0
      exact brk_same H.out HT.out _
end Go.Proofs.YtfaocpcbejgfjaaGreatDoor
