/- The document's own numbers, as the program reads them. No condition. -/
import Derived.Test.YtiinhkfbgecbjaaGreatDoorR2
import Derived.Deep.DeepCutAuto
namespace Go.Proofs.YtiinhkfbgecbjaaGreatDoor
set_option linter.unusedSimpArgs false
set_option linter.unusedVariables false
open Go.RowKit Go.Sub

theorem drop_get (l : List UInt8) (m : Nat) (b : UInt8) (h : l[m]? = some b) : l.drop m = b :: l.drop (m + 1) := by
  obtain ⟨hn, rfl⟩ := List.getElem?_eq_some_iff.1 h
  exact List.drop_eq_getElem_cons hn
theorem pow_tail (l : List UInt8) (m k q : Nat) (b : UInt8) (hb : l[m]? = some b) (he : (b == 101 || b == 69) = true) (hk : signOff (l.drop (m + 1)) = l.drop k) (hmk : m < k) (hkl : k ≤ l.length) (hq : runOf isDigit (l.drop k) = q) : m + powerN (l.drop m) = if q = 0 then m else k + q := by
  have hl := List.getElem?_eq_some_iff.1 hb
  obtain ⟨hl, _⟩ := hl
  have e : powerN (l.drop m) = if q = 0 then 0 else (l.length - m) - (l.length - k) + q := by
    have h1 : (b :: l.drop (m + 1)).length = l.length - m := by simp only [List.length_cons, List.length_drop]; omega
    rw [drop_get l m b hb]
    show (if b == 101 || b == 69 then (if runOf isDigit (signOff (l.drop (m + 1))) = 0 then 0 else (b :: l.drop (m + 1)).length - (signOff (l.drop (m + 1))).length + runOf isDigit (signOff (l.drop (m + 1)))) else 0) = _
    rw [if_pos he, hk, hq, h1, List.length_drop]
  rw [e]
  split <;> omega
theorem pow_no (l : List UInt8) (m : Nat) (b : UInt8) (hb : l[m]? = some b) (he : (b == 101 || b == 69) = false) : powerN (l.drop m) = 0 := by
  rw [drop_get l m b hb]
  show (if b == 101 || b == 69 then _ else 0) = 0
  rw [if_neg (by rw [he]; simp)]
theorem pow_end (l : List UInt8) (m : Nat) (h : l.length ≤ m) : powerN (l.drop m) = 0 := by rw [List.drop_eq_nil_of_le h]; rfl
theorem sign_hit (l : List UInt8) (m : Nat) (b : UInt8) (hb : l[m]? = some b) (he : (b == 43 || b == 45) = true) : signOff (l.drop m) = l.drop (m + 1) := by
  rw [drop_get l m b hb]
  show (if b == 43 || b == 45 then _ else _) = _
  rw [if_pos he]
theorem sign_no (l : List UInt8) (m : Nat) (b : UInt8) (hb : l[m]? = some b) (he : (b == 43 || b == 45) = false) : signOff (l.drop m) = l.drop m := by
  rw [drop_get l m b hb]
  show (if b == 43 || b == 45 then _ else _) = _
  rw [if_neg (by rw [he]; simp)]
theorem sign_end (l : List UInt8) (m : Nat) (h : l.length ≤ m) : signOff (l.drop m) = l.drop m := by rw [List.drop_eq_nil_of_le h]; rfl
theorem num_of {l : List UInt8} {m : Nat} (hm : mantN l = m) (h0 : m ≠ 0) : numberN l = m + powerN (l.drop m) := by
  unfold numberN; rw [hm, if_neg h0]
theorem num_zero {l : List UInt8} (hm : mantN l = 0) : numberN l = 0 := by unfold numberN; rw [if_pos hm]
theorem at_of (s : ByteArray) (n : Nat) (h : n < s.size) : s.data.toList[n]? = some s[n] := by
  rw [List.getElem?_eq_getElem (by rw [← Lib.size_eq]; exact h)]; rfl
def NumTail (s : ByteArray) (v : Value) : Prop := ∃ m : Nat, v = .int .i64 m ∧ m ≤ s.size ∧ Hid (numberN s.data.toList = m + powerN (s.data.toList.drop m))
/-- the mantissa, by the signs that stand there -/
theorem mant_dot {s : ByteArray} {d r : Nat} (hd : runOf isDigit s.data.toList = d) (h : d < s.size) (hb : s[d] = 46) (hr : runOf isDigit (s.data.toList.drop (d + 1)) = r) : mantN s.data.toList = if d + r = 0 then 0 else d + (1 + r) := by
  unfold mantN
  rw [hd, at_of s d h, hb, if_pos rfl, hr]
theorem mant_plain {s : ByteArray} {d : Nat} (hd : runOf isDigit s.data.toList = d) (h : ∀ h : d < s.size, s[d] ≠ 46) : mantN s.data.toList = d := by
  unfold mantN
  rw [hd, if_neg]
  intro e
  obtain ⟨h1, h2⟩ := List.getElem?_eq_some_iff.1 e
  rw [← Lib.size_eq] at h1
  have := at_of s d h1
  rw [e] at this
  exact h h1 (Option.some.inj this).symm

set_option maxHeartbeats 4000000 in
set_option maxRecDepth 100000 in
theorem rnumber_calls (s : ByteArray) (w : World) (hs : s.size < 4611686018427387904) :
    Calls Tryz.prog 56 #[.string s] w fun e w' => e = .returned (.int .i64 (numberN s.data.toList : Nat)) ∧ w' = w := by
  have hsz := Lib.size_eq s
  have hdl := runOf_le isDigit s.data.toList
  rw [← hsz] at hdl
  have Hsz := Lib.hid hsz
  have Hd := Lib.hid (rfl : runOf isDigit s.data.toList = runOf isDigit s.data.toList)
  have Hdig := Lib.hid fun w => rdigits_calls s w hs
  have Hdr := Lib.hid fun k w => rdigits_ext s k hs w
  have hrl : ∀ k, k ≤ s.size → k + runOf isDigit (s.data.toList.drop k) ≤ s.size := fun k hk => by
    have := runOf_le isDigit (s.data.toList.drop k)
    rw [List.length_drop] at this; omega
  have Hrl := Lib.hid hrl
  clear hsz hrl
  obtain ⟨d, hd⟩ : ∃ d, runOf isDigit s.data.toList = d := ⟨_, rfl⟩
  rw [hd] at hdl Hdig
  clear Hd
  have Hd := Lib.hid hd
  clear hd
  go_enter Tryz.func56, Tryz.ntmps56
  go_upto_region 2 with (go_at_call 70; refine (Hdig.out _).mono ?_; rintro e w' ⟨rfl, rfl⟩)
  rename_i K1 hK1 K2 hK2
  have hrest : ∀ (m : Nat) (u4 u5 u6 u7 u8 u9 u10 u11 u12 u13 u14 u15 u16 u17 u18 u19 u20 u21 u22 u23 u24 u25 u26 u27 u28 u29 u30 u31 u32 u33 u34 u35 u36 u37 u38 u39 u40 u41 u42 u43 u44 u45 u46 u47 u48 u49 u50 u51 u52 u53 u54 u55 u56 u57 u58 u59 u60 u61 u62 u63 u64 u65 u66 u67 u68 u69 u70 u71 u72 u73 u74 u75 u76 u77 u78 u79 u80 u81 u82 u83 u84 u85 u86 u87 u88 u89 u90 u91 u92 u93 u94 u95 : Value), m ≤ s.size → Hid (numberN s.data.toList = m + powerN (s.data.toList.drop m)) → K1 { tmps := #[.string s, undef, .int .i64 0, .int .i64 m, u4, u5, u6, u7, u8, u9, u10, u11, u12, u13, u14, u15, u16, u17, u18, u19, u20, u21, u22, u23, u24, u25, u26, u27, u28, u29, u30, u31, u32, u33, u34, u35, u36, u37, u38, u39, u40, u41, u42, u43, u44, u45, u46, u47, u48, u49, u50, u51, u52, u53, u54, u55, u56, u57, u58, u59, u60, u61, u62, u63, u64, u65, u66, u67, u68, u69, u70, u71, u72, u73, u74, u75, u76, u77, u78, u79, u80, u81, u82, u83, u84, u85, u86, u87, u88, u89, u90, u91, u92, u93, u94, u95], defers := [] } w' := by
    intro m u4 u5 u6 u7 u8 u9 u10 u11 u12 u13 u14 u15 u16 u17 u18 u19 u20 u21 u22 u23 u24 u25 u26 u27 u28 u29 u30 u31 u32 u33 u34 u35 u36 u37 u38 u39 u40 u41 u42 u43 u44 u45 u46 u47 u48 u49 u50 u51 u52 u53 u54 u55 u56 u57 u58 u59 u60 u61 u62 u63 u64 u65 u66 u67 u68 u69 u70 u71 u72 u73 u74 u75 u76 u77 u78 u79 u80 u81 u82 u83 u84 u85 u86 u87 u88 u89 u90 u91 u92 u93 u94 u95 hms Hnum
    refine hK1 _ _ ?_
    clear hK1 hK2 Hd Hdig
    by_cases hltm : m < s.size
    · cases h1 : (s[m] == 101) <;> cases h2 : (s[m] == 69)
      · have y1 : ((s[m].toNat : Int) == 101) = false := byte_beq 101 h1
        have y2 : ((s[m].toNat : Int) == 69) = false := byte_beq 69 h2
        have hp := pow_no s.data.toList m s[m] (at_of s m hltm) (by rw [h1, h2]; rfl)
        have Hp := Lib.hid hp
        clear h1 h2 hp
        go_wp2
        go_ret
        exact ⟨ret_nat (by rw [Hnum.out, Hp.out]; rfl), rfl⟩
      all_goals
        have he : (s[m] == 101 || s[m] == 69) = true := by rw [h1, h2]; rfl
        first 
          | (have y1 : ((s[m].toNat : Int) == 101) = true := by rw [eq_of_beq h1]; rfl) 
          | (have y1 : ((s[m].toNat : Int) == 101) = false := byte_beq 101 h1 
             have y2 : ((s[m].toNat : Int) == 69) = true := by rw [eq_of_beq h2]; rfl)
        clear h1 h2
        by_cases h3 : m + 1 < s.size
        · cases h4 : (s[m + 1] == 43) <;> cases h5 : (s[m + 1] == 45)
          · have y3 : ((s[m + 1].toNat : Int) == 43) = false := byte_beq 43 h4
            have y4 : ((s[m + 1].toNat : Int) == 45) = false := byte_beq 45 h5
            have hk := sign_no s.data.toList (m + 1) s[m + 1] (at_of s (m + 1) h3) (by rw [h4, h5]; rfl)
            clear h4 h5
            obtain ⟨q, hq⟩ : ∃ q, runOf isDigit (s.data.toList.drop (m + 1)) = q := ⟨_, rfl⟩ 
            have hp := pow_tail s.data.toList m (m + 1) q s[m] (at_of s m hltm) he hk (by omega) (by rw [← Hsz.out]; omega) hq 
            have hkl : m + 1 ≤ s.size := by omega 
            have hle := Hrl.out (m + 1) hkl 
            rw [hq] at hle 
            have Hr := Lib.hid (Hdr.out (m + 1)) 
            rw [hq] at Hr 
            clear hq hk he 
            by_cases hq0 : q = 0 
            · subst hq0 
              have Hp := Lib.hid hp 
              clear hp 
              go_wp2_with (go_at_call 70; with_reducible refine (Hr.out _).mono ?_; rintro e w' ⟨rfl, rfl⟩) 
              go_ret 
              exact ⟨ret_nat (by rw [Hnum.out, Hp.out]; rfl), rfl⟩ 
            · rw [if_neg hq0] at hp 
              have Hp := Lib.hid hp 
              have hqp : 0 < q := by omega 
              clear hp hq0 
              go_wp2_with (go_at_call 70; with_reducible refine (Hr.out _).mono ?_; rintro e w' ⟨rfl, rfl⟩) 
              all_goals (go_ret; refine ⟨?_, rfl⟩; rw [Hnum.out, Hp.out]; rfl)
          all_goals
            have hk := sign_hit s.data.toList (m + 1) s[m + 1] (at_of s (m + 1) h3) (by rw [h4, h5]; rfl)
            first
              | have y3 : ((s[m + 1].toNat : Int) == 43) = true := by rw [eq_of_beq h4]; rfl
              | (have y3 : ((s[m + 1].toNat : Int) == 43) = false := byte_beq 43 h4
                 have y4 : ((s[m + 1].toNat : Int) == 45) = true := by rw [eq_of_beq h5]; rfl)
            clear h4 h5
            obtain ⟨q, hq⟩ : ∃ q, runOf isDigit (s.data.toList.drop (m + 2)) = q := ⟨_, rfl⟩ 
            have hp := pow_tail s.data.toList m (m + 2) q s[m] (at_of s m hltm) he hk (by omega) (by rw [← Hsz.out]; omega) hq 
            have hkl : m + 2 ≤ s.size := by omega 
            have hle := Hrl.out (m + 2) hkl 
            rw [hq] at hle 
            have Hr := Lib.hid (Hdr.out (m + 2)) 
            rw [hq] at Hr 
            clear hq hk he 
            by_cases hq0 : q = 0 
            · subst hq0 
              have Hp := Lib.hid hp 
              clear hp 
              go_wp2_with (go_at_call 70; with_reducible refine (Hr.out _).mono ?_; rintro e w' ⟨rfl, rfl⟩) 
              go_ret 
              exact ⟨ret_nat (by rw [Hnum.out, Hp.out]; rfl), rfl⟩ 
            · rw [if_neg hq0] at hp 
              have Hp := Lib.hid hp 
              have hqp : 0 < q := by omega 
              clear hp hq0 
              go_wp2_with (go_at_call 70; with_reducible refine (Hr.out _).mono ?_; rintro e w' ⟨rfl, rfl⟩) 
              all_goals (go_ret; refine ⟨?_, rfl⟩; rw [Hnum.out, Hp.out]; rfl)
        · have hk := sign_end s.data.toList (m + 1) (by rw [← Hsz.out]; omega)
          obtain ⟨q, hq⟩ : ∃ q, runOf isDigit (s.data.toList.drop (m + 1)) = q := ⟨_, rfl⟩ 
          have hp := pow_tail s.data.toList m (m + 1) q s[m] (at_of s m hltm) he hk (by omega) (by rw [← Hsz.out]; omega) hq 
          have hkl : m + 1 ≤ s.size := by omega 
          have hle := Hrl.out (m + 1) hkl 
          rw [hq] at hle 
          have Hr := Lib.hid (Hdr.out (m + 1)) 
          rw [hq] at Hr 
          clear hq hk he 
          by_cases hq0 : q = 0 
          · subst hq0 
            have Hp := Lib.hid hp 
            clear hp 
            go_wp2_with (go_at_call 70; with_reducible refine (Hr.out _).mono ?_; rintro e w' ⟨rfl, rfl⟩) 
            go_ret 
            exact ⟨ret_nat (by rw [Hnum.out, Hp.out]; rfl), rfl⟩ 
          · rw [if_neg hq0] at hp 
            have Hp := Lib.hid hp 
            have hqp : 0 < q := by omega 
            clear hp hq0 
            go_wp2_with (go_at_call 70; with_reducible refine (Hr.out _).mono ?_; rintro e w' ⟨rfl, rfl⟩) 
            all_goals (go_ret; refine ⟨?_, rfl⟩; rw [Hnum.out, Hp.out]; rfl)
    · have hp := pow_end s.data.toList m (by rw [← Hsz.out]; omega)
      have Hp := Lib.hid hp
      clear hp
      go_wp2
      go_ret
      exact ⟨ret_nat (by rw [Hnum.out, Hp.out]; rfl), rfl⟩
  clear hK1
  by_cases hpos : 0 < d
  · by_cases hlt : d < s.size
    · cases h46 : (s[d] == 46)
      · have y1 : ((s[d].toNat : Int) == 46) = false := byte_beq 46 h46
        have Hm := Lib.hid (num_of (mant_plain Hd.out fun _ e => by rw [e] at h46; simp at h46) (by omega))
        clear h46
        go_wp2
        exact hrest d _ _ _ _ _ _ _ _ _ _ _ _ _ _ _ _ _ _ _ _ _ _ _ _ _ _ _ _ _ _ _ _ _ _ _ _ _ _ _ _ _ _ _ _ _ _ _ _ _ _ _ _ _ _ _ _ _ _ _ _ _ _ _ _ _ _ _ _ _ _ _ _ _ _ _ _ _ _ _ _ _ _ _ _ _ _ _ _ _ _ _ _ hdl Hm
      · have e46 : s[d] = 46 := eq_of_beq h46
        have y1 : ((s[d].toNat : Int) == 46) = true := by rw [e46]; rfl
        obtain ⟨r, hr⟩ : ∃ r, runOf isDigit (s.data.toList.drop (d + 1)) = r := ⟨_, rfl⟩
        have hm := mant_dot Hd.out hlt e46 hr
        rw [if_neg (by omega)] at hm
        have Hm := Lib.hid (num_of hm (by omega))
        have Hr := Lib.hid (Hdr.out (d + 1))
        have hle := Hrl.out (d + 1) (by omega)
        rw [hr] at Hr hle
        clear hr hm h46 e46
        go_wp2_with (first | (go_at_call 70; with_reducible refine (Hdig.out _).mono ?_; rintro e w' ⟨rfl, rfl⟩) | (go_at_call 70; with_reducible refine (Hr.out _).mono ?_; rintro e w' ⟨rfl, rfl⟩))
        exact hrest (d + (1 + r)) _ _ _ _ _ _ _ _ _ _ _ _ _ _ _ _ _ _ _ _ _ _ _ _ _ _ _ _ _ _ _ _ _ _ _ _ _ _ _ _ _ _ _ _ _ _ _ _ _ _ _ _ _ _ _ _ _ _ _ _ _ _ _ _ _ _ _ _ _ _ _ _ _ _ _ _ _ _ _ _ _ _ _ _ _ _ _ _ _ _ _ _ (by omega) Hm
    · obtain rfl : d = s.size := by omega
      have Hm := Lib.hid (num_of (mant_plain Hd.out fun h => by omega) (by omega))
      go_wp2
      exact hrest s.size _ _ _ _ _ _ _ _ _ _ _ _ _ _ _ _ _ _ _ _ _ _ _ _ _ _ _ _ _ _ _ _ _ _ _ _ _ _ _ _ _ _ _ _ _ _ _ _ _ _ _ _ _ _ _ _ _ _ _ _ _ _ _ _ _ _ _ _ _ _ _ _ _ _ _ _ _ _ _ _ _ _ _ _ _ _ _ _ _ _ _ _ hdl Hm
  · obtain rfl : d = 0 := by omega
    by_cases h0 : s.size = 0
    · obtain rfl : s = ByteArray.empty := ByteArray.size_eq_zero_iff.1 h0
      go_wp2
      go_ret
      exact ⟨rfl, rfl⟩
    · have hlt : 0 < s.size := by omega
      obtain ⟨he, he2⟩ := not_empty s hlt
      cases h46 : (s[0] == 46)
      · have y1 : ((s[0].toNat : Int) != 46) = true := byte_bne 46 h46
        have y2 : ((s[0].toNat : Int) = 46) = False := byte_ne 46 h46
        have He := Lib.hid (num_zero (mant_plain Hd.out fun _ e => by rw [e] at h46; simp at h46))
        clear h46
        go_wp2
        go_ret
        exact ⟨by rw [He.out]; rfl, rfl⟩
      · have e46 : s[0] = 46 := eq_of_beq h46
        have y1 : ((s[0].toNat : Int) != 46) = false := by rw [e46]; rfl
        obtain ⟨r, hr⟩ : ∃ r, runOf isDigit (s.data.toList.drop (0 + 1)) = r := ⟨_, rfl⟩
        have hm := mant_dot Hd.out hlt e46 hr
        have Hr := Lib.hid (Hdr.out (0 + 1))
        have hle := Hrl.out (0 + 1) (by omega)
        rw [hr] at Hr hle
        rw [Nat.zero_add] at Hr hle hm
        by_cases hr0 : r = 0
        · subst hr0
          have He := Lib.hid (num_zero (by rw [hm]; rfl))
          clear hr hm h46 e46
          go_wp2_with (first | (go_at_call 70; with_reducible refine (Hdig.out _).mono ?_; rintro e w' ⟨rfl, rfl⟩) | (go_at_call 70; with_reducible refine (Hr.out _).mono ?_; rintro e w' ⟨rfl, rfl⟩))
          go_ret
          exact ⟨by rw [He.out]; rfl, rfl⟩
        · have hrp : 0 < r := by omega
          rw [if_neg hr0, Nat.zero_add] at hm
          have Hm := Lib.hid (num_of hm (by omega))
          clear hr hm h46 e46 hr0
          go_wp2_with (first | (go_at_call 70; with_reducible refine (Hdig.out _).mono ?_; rintro e w' ⟨rfl, rfl⟩) | (go_at_call 70; with_reducible refine (Hr.out _).mono ?_; rintro e w' ⟨rfl, rfl⟩))
          exact hrest (1 + r) _ _ _ _ _ _ _ _ _ _ _ _ _ _ _ _ _ _ _ _ _ _ _ _ _ _ _ _ _ _ _ _ _ _ _ _ _ _ _ _ _ _ _ _ _ _ _ _ _ _ _ _ _ _ _ _ _ _ _ _ _ _ _ _ _ _ _ _ _ _ _ _ _ _ _ _ _ _ _ _ _ _ _ _ _ _ _ _ _ _ _ _ (by omega) Hm
end Go.Proofs.YtiinhkfbgecbjaaGreatDoor
