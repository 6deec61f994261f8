/- Texts of whole runes: cut at an edge of a rune, and laid one behind the other. No condition. -/
import Derived.Test.YtfaocpcbejgfjaaDoorLs1
import Derived.Lib.TrimUEq
namespace Go.Proofs.YtfaocpcbejgfjaaDoor
open Go.RowKit Go.Sub

set_option maxRecDepth 100000 in
set_option maxHeartbeats 4000000 in
theorem dec_same (n n' b0 b1 b2 b3 c1 c2 c3 : Nat) (hg : Lib.decodeN n b0 b1 b2 b3 ≠ (65533, 1)) (hn : (Lib.decodeN n b0 b1 b2 b3).2 ≤ n')
    (e1 : 1 < (Lib.decodeN n b0 b1 b2 b3).2 → c1 = b1) (e2 : 2 < (Lib.decodeN n b0 b1 b2 b3).2 → c2 = b2) (e3 : 3 < (Lib.decodeN n b0 b1 b2 b3).2 → c3 = b3) : Lib.decodeN n' b0 c1 c2 c3 = Lib.decodeN n b0 b1 b2 b3 := by
  by_cases h128 : b0 < 128
  · unfold Lib.decodeN; rw [if_pos h128, if_pos h128]
  by_cases g2 : b0 / 32 = 6 ∧ (1 < n ∧ b1 / 64 = 2)
  · have e : Lib.decodeN n b0 b1 b2 b3 = if b0 % 32 * 64 + b1 % 64 ≥ 128 then (b0 % 32 * 64 + b1 % 64, 2) else (65533, 1) := by unfold Lib.decodeN; rw [if_neg h128, if_pos g2]
    rw [e] at hg hn e1 e2 e3 ⊢
    by_cases h : b0 % 32 * 64 + b1 % 64 ≥ 128
    · rw [if_pos h] at hn e1 ⊢
      have E1 := e1 (by show 1 < 2; omega)
      have hn2 : 2 ≤ n' := hn
      subst E1
      unfold Lib.decodeN
      rw [if_neg h128, if_pos ⟨g2.1, by omega, g2.2.2⟩, if_pos h]
    · rw [if_neg h] at hg; exact absurd rfl hg
  by_cases g3 : b0 / 16 = 14 ∧ (1 < n ∧ b1 / 64 = 2) ∧ (2 < n ∧ b2 / 64 = 2)
  · have e : Lib.decodeN n b0 b1 b2 b3 = if b0 % 16 * 4096 + b1 % 64 * 64 + b2 % 64 ≥ 2048 ∧ (b0 % 16 * 4096 + b1 % 64 * 64 + b2 % 64 < 55296 ∨ (57344 ≤ b0 % 16 * 4096 + b1 % 64 * 64 + b2 % 64 ∧ b0 % 16 * 4096 + b1 % 64 * 64 + b2 % 64 ≤ 1114111))
     then (b0 % 16 * 4096 + b1 % 64 * 64 + b2 % 64, 3) else (65533, 1) := by unfold Lib.decodeN; rw [if_neg h128, if_neg g2, if_pos g3]
    rw [e] at hg hn e1 e2 e3 ⊢
    split at hg
    · rename_i h
      rw [if_pos h] at hn e1 e2 ⊢
      have E1 := e1 (by show 1 < 3; omega)
      have E2 := e2 (by show 2 < 3; omega)
      have hn2 : 3 ≤ n' := hn
      subst E1 E2
      unfold Lib.decodeN
      rw [if_neg h128, if_neg (by omega), if_pos ⟨g3.1, ⟨by omega, g3.2.1.2⟩, by omega, g3.2.2.2⟩, if_pos h]
    · exact absurd rfl hg
  by_cases g4 : b0 / 8 = 30 ∧ (1 < n ∧ b1 / 64 = 2) ∧ (2 < n ∧ b2 / 64 = 2) ∧ (3 < n ∧ b3 / 64 = 2)
  · have e : Lib.decodeN n b0 b1 b2 b3 = if b0 % 8 * 262144 + b1 % 64 * 4096 + b2 % 64 * 64 + b3 % 64 ≥ 65536 ∧ (b0 % 8 * 262144 + b1 % 64 * 4096 + b2 % 64 * 64 + b3 % 64 < 55296 ∨ (57344 ≤ b0 % 8 * 262144 + b1 % 64 * 4096 + b2 % 64 * 64 + b3 % 64 ∧ b0 % 8 * 262144 + b1 % 64 * 4096 + b2 % 64 * 64 + b3 % 64 ≤ 1114111))
     then (b0 % 8 * 262144 + b1 % 64 * 4096 + b2 % 64 * 64 + b3 % 64, 4) else (65533, 1) := by unfold Lib.decodeN; rw [if_neg h128, if_neg g2, if_neg g3, if_pos g4]
    rw [e] at hg hn e1 e2 e3 ⊢
    split at hg
    · rename_i h
      rw [if_pos h] at hn e1 e2 e3 ⊢
      have E1 := e1 (by show 1 < 4; omega)
      have E2 := e2 (by show 2 < 4; omega)
      have E3 := e3 (by show 3 < 4; omega)
      have hn2 : 4 ≤ n' := hn
      subst E1 E2 E3
      unfold Lib.decodeN
      rw [if_neg h128, if_neg (by omega), if_neg (by omega), if_pos ⟨g4.1, ⟨by omega, g4.2.1.2⟩, ⟨by omega, g4.2.2.1.2⟩, by omega, g4.2.2.2.2⟩, if_pos h]
    · exact absurd rfl hg
  · exfalso; apply hg; unfold Lib.decodeN; rw [if_neg h128, if_neg g2, if_neg g3, if_neg g4]
set_option maxRecDepth 100000 in
set_option maxHeartbeats 4000000 in
theorem dec_width (n b0 b1 b2 b3 : Nat) (h0 : 1 ≤ n) : 1 ≤ (Lib.decodeN n b0 b1 b2 b3).2 ∧ (Lib.decodeN n b0 b1 b2 b3).2 ≤ n ∧ (1 < (Lib.decodeN n b0 b1 b2 b3).2 → 128 ≤ b0 ∧ b1 / 64 = 2) ∧ (2 < (Lib.decodeN n b0 b1 b2 b3).2 → b2 / 64 = 2) ∧ (3 < (Lib.decodeN n b0 b1 b2 b3).2 → b3 / 64 = 2) ∧ (Lib.decodeN n b0 b1 b2 b3).2 ≤ 4 := by
  unfold Lib.decodeN
  repeat' split
  all_goals (refine ⟨?_, ?_, ?_, ?_, ?_, ?_⟩ <;> dsimp only <;> omega)
set_option maxRecDepth 100000 in
set_option maxHeartbeats 4000000 in
theorem dec_rune (n b0 b1 b2 b3 : Nat) (hb : b0 < 256 ∧ b1 < 256 ∧ b2 < 256) (h : (Lib.decodeN n b0 b1 b2 b3).1 = 65533) (hg : Lib.decodeN n b0 b1 b2 b3 ≠ (65533, 1)) : b0 = 239 ∧ b1 = 191 ∧ b2 = 189 ∧ 3 ≤ n := by
  unfold Lib.decodeN at h hg
  repeat' split at h
  all_goals (first | (exfalso; simp_all; done) | skip)
  all_goals (dsimp only at h; omega)
theorem dec_fffd (n b3 : Nat) (h : 3 ≤ n) : Lib.decodeN n 239 191 189 b3 = (65533, 3) := by
  unfold Lib.decodeN
  rw [if_neg (by omega), if_neg (by omega), if_pos (by omega), if_pos (by omega)]

def badL (l : List UInt8) : Bool := (Lib.decodeL l).1 == 65533 && !Lib.hasPrefix l [239, 191, 189]
theorem badAt_drop (s : ByteArray) (pos : Nat) : badAt s pos = badL (s.data.toList.drop pos) := by
  unfold badAt badL
  rw [Lib.decodeL_drop]
theorem byte_lt (l : List UInt8) (j : Nat) : (l.getD j 0).toNat < 256 := UInt8.toNat_lt _
/-- a good rune is one that is told by its own bytes -/
theorem good_iff (l : List UInt8) : badL l = false ↔ Lib.decodeL l ≠ (65533, 1) := by
  have hN := Lib.decodeL_N l
  constructor
  · intro h e
    unfold badL at h
    rw [e] at h
    have hp : Lib.hasPrefix l [239, 191, 189] = true := by simpa using h
    have hle := Lib.hasPrefix_le hp
    unfold Lib.hasPrefix at hp
    obtain ⟨r, rfl⟩ := List.isPrefixOf_iff_prefix.1 hp
    have h2 : Lib.decodeN ([239, 191, 189] ++ r).length 239 191 189 ((([239, 191, 189] ++ r : List UInt8)).getD 3 0).toNat = (65533, 1) := by rw [← e, hN]; rfl
    rw [dec_fffd _ _ hle] at h2
    simp at h2
  · intro h
    unfold badL
    by_cases h3 : (Lib.decodeL l).1 = 65533
    · obtain ⟨a, b, c, d⟩ := dec_rune _ _ _ _ _ ⟨byte_lt l 0, byte_lt l 1, byte_lt l 2⟩ (by rw [← hN]; exact h3) (by rw [← hN]; exact h)
      have hp : Lib.hasPrefix l [239, 191, 189] = true := by
        match l, d with
        | x :: y :: z :: r, _ =>
          have ex : x = 239 := UInt8.toNat_inj.1 a
          have ey : y = 191 := UInt8.toNat_inj.1 b
          have ez : z = 189 := UInt8.toNat_inj.1 c
          subst ex ey ez
          simp [Lib.hasPrefix]
      rw [hp]; simp
    · rw [beq_eq_false_iff_ne.2 h3]; rfl
theorem getD_same {a b : List UInt8} {j : Nat} (h : b[j]? = a[j]?) : (b.getD j 0).toNat = (a.getD j 0).toNat := by
  rw [List.getD_eq_getElem?_getD, List.getD_eq_getElem?_getD, h]
theorem dec_pre {a b : List UInt8} (hg : Lib.decodeL a ≠ (65533, 1)) (h0 : a ≠ []) (hb : (Lib.decodeL a).2 ≤ b.length) (he : ∀ j, j < (Lib.decodeL a).2 → b[j]? = a[j]?) : Lib.decodeL b = Lib.decodeL a := by
  have ha : 1 ≤ a.length := by
    cases a with
    | nil => exact absurd rfl h0
    | cons _ _ => simp
  rw [Lib.decodeL_N] at hg hb he ⊢
  rw [Lib.decodeL_N a]
  have hw := dec_width a.length (a.getD 0 0).toNat (a.getD 1 0).toNat (a.getD 2 0).toNat (a.getD 3 0).toNat ha
  have e0 : (b.getD 0 0).toNat = (a.getD 0 0).toNat := getD_same (he 0 (by omega))
  rw [e0]
  exact dec_same _ _ _ _ _ _ _ _ _ hg hb (fun h => getD_same (he 1 h)) (fun h => getD_same (he 2 h)) (fun h => getD_same (he 3 h))
theorem dec_le {l : List UInt8} (h0 : l ≠ []) : 1 ≤ (Lib.decodeL l).2 ∧ (Lib.decodeL l).2 ≤ l.length := by
  have ha : 1 ≤ l.length := by
    cases l with
    | nil => exact absurd rfl h0
    | cons _ _ => simp
  have hw := dec_width l.length (l.getD 0 0).toNat (l.getD 1 0).toNat (l.getD 2 0).toNat (l.getD 3 0).toNat ha
  rw [Lib.decodeL_N]
  exact ⟨hw.1, hw.2.1⟩
/-- all bytes of a rune of more than one byte are high -/
theorem dec_high {l : List UInt8} (h0 : l ≠ []) (h1 : 1 < (Lib.decodeL l).2) : ∀ j, j < (Lib.decodeL l).2 → ∀ b, l[j]? = some b → 128 ≤ b.toNat := by
  have ha : 1 ≤ l.length := by
    cases l with
    | nil => exact absurd rfl h0
    | cons _ _ => simp
  have hw := dec_width l.length (l.getD 0 0).toNat (l.getD 1 0).toNat (l.getD 2 0).toNat (l.getD 3 0).toNat ha
  rw [Lib.decodeL_N] at h1 ⊢
  intro j hj b hb
  have eg : (l.getD j 0).toNat = b.toNat := by rw [List.getD_eq_getElem?_getD, hb]; rfl
  obtain ⟨w1, w2, w3, w4, w5, w6⟩ := hw
  have h4 : j = 0 ∨ j = 1 ∨ j = 2 ∨ j = 3 := by omega
  rcases h4 with rfl | rfl | rfl | rfl
  · have := (w3 h1).1; omega
  · have := (w3 h1).2; omega
  · have := w4 hj; omega
  · have := w5 hj; omega

inductive Utf : List UInt8 → Prop
  | nil : Utf []
  | step {l : List UInt8} : l ≠ [] → Lib.decodeL l ≠ (65533, 1) → Utf (l.drop (Lib.decodeL l).2) → Utf l
theorem utf_inv {l : List UInt8} (h : Utf l) (h0 : l ≠ []) : Lib.decodeL l ≠ (65533, 1) ∧ Utf (l.drop (Lib.decodeL l).2) := by
  cases h with
  | nil => exact absurd rfl h0
  | step _ a b => exact ⟨a, b⟩
theorem check_utf (s : ByteArray) : ∀ k pos, s.size - pos ≤ k → (checkFrom s pos = -1 ↔ Utf (s.data.toList.drop pos)) := by
  intro k
  induction k with
  | zero =>
    intro pos h
    rw [check_end (by omega), List.drop_eq_nil_of_le (by rw [← Lib.size_eq]; omega)]
    exact ⟨fun _ => .nil, fun _ => rfl⟩
  | succ k ih =>
    intro pos h
    by_cases hlt : pos < s.size
    · have hne : s.data.toList.drop pos ≠ [] := fun e => by
        have := congrArg List.length e
        rw [List.length_drop, ← Lib.size_eq] at this
        simp at this; omega
      have hd := decode_step s pos hlt
      cases hb : badAt s pos
      · rw [check_good hlt hb, ih _ (by omega), ← Lib.decodeL_drop, ← List.drop_drop]
        rw [badAt_drop] at hb
        exact ⟨fun h => .step hne ((good_iff _).1 hb) h, fun h => (utf_inv h hne).2⟩
      · rw [check_bad hlt hb]
        rw [badAt_drop] at hb
        refine ⟨fun h => by omega, fun h => ?_⟩
        rw [(good_iff _).2 (utf_inv h hne).1] at hb; simp at hb
    · rw [check_end hlt, List.drop_eq_nil_of_le (by rw [← Lib.size_eq]; omega)]
      exact ⟨fun _ => .nil, fun _ => rfl⟩
theorem check_iff (s : ByteArray) : checkFrom s 0 = -1 ↔ Utf s.data.toList := check_utf s _ 0 (Nat.le_refl _)
/-- where a text may be cut: beside a byte that is a rune of its own -/
def Edge (l : List UInt8) (p : Nat) : Prop := p = 0 ∨ l.length ≤ p ∨ (∃ b, l[p]? = some b ∧ b.toNat < 128) ∨ ∃ b, 0 < p ∧ l[p - 1]? = some b ∧ b.toNat < 128
theorem utf_cut {l : List UInt8} (h : Utf l) : ∀ p, Edge l p → Utf (l.take p) ∧ Utf (l.drop p) := by
  induction h with
  | nil => intro p _; rw [List.take_nil, List.drop_nil]; exact ⟨.nil, .nil⟩
  | @step l h0 hg hu ih =>
    intro p he
    obtain ⟨d1, d2⟩ := dec_le h0
    rcases he with rfl | he | he
    · rw [List.take_zero, List.drop_zero]; exact ⟨.nil, .step h0 hg hu⟩
    · rw [List.take_of_length_le he, List.drop_eq_nil_of_le he]; exact ⟨.step h0 hg hu, .nil⟩
    · by_cases hp0 : p = 0
      · subst hp0; rw [List.take_zero, List.drop_zero]; exact ⟨.nil, .step h0 hg hu⟩
      have hkp : (Lib.decodeL l).2 ≤ p := by
        refine Nat.le_of_not_lt fun hlt => ?_
        have hh := dec_high h0 (by omega)
        rcases he with ⟨b, hb, hb2⟩ | ⟨b, _, hb, hb2⟩
        · have := hh p hlt b hb; omega
        · have := hh (p - 1) (by omega) b hb; omega
      have hE : Edge (l.drop (Lib.decodeL l).2) (p - (Lib.decodeL l).2) := by
        by_cases hk : p = (Lib.decodeL l).2
        · exact .inl (by omega)
        · rcases he with ⟨b, hb, hb2⟩ | ⟨b, _, hb, hb2⟩
          · exact .inr (.inr (.inl ⟨b, by rw [List.getElem?_drop, show (Lib.decodeL l).2 + (p - (Lib.decodeL l).2) = p by omega]; exact hb, hb2⟩))
          · exact .inr (.inr (.inr ⟨b, by omega, by rw [List.getElem?_drop, show (Lib.decodeL l).2 + (p - (Lib.decodeL l).2 - 1) = p - 1 by omega]; exact hb, hb2⟩))
      obtain ⟨i1, i2⟩ := ih _ hE
      rw [List.drop_drop, show (Lib.decodeL l).2 + (p - (Lib.decodeL l).2) = p by omega] at i2
      refine ⟨?_, i2⟩
      by_cases hpl : p ≤ l.length
      · have e : Lib.decodeL (l.take p) = Lib.decodeL l := dec_pre hg h0 (by rw [List.length_take]; omega) fun j hj => List.getElem?_take_of_lt (Nat.lt_of_lt_of_le hj hkp)
        refine .step (fun e => ?_) (by rw [e]; exact hg) ?_
        · have := congrArg List.length e
          rw [List.length_take, List.length_nil] at this
          omega
        · rw [e, List.drop_take]; exact i1
      · rw [List.take_of_length_le (by omega)]; exact .step h0 hg hu
theorem utf_append {a b : List UInt8} (h : Utf a) (hb : Utf b) : Utf (a ++ b) := by
  induction h with
  | nil => exact hb
  | @step l h0 hg hu ih =>
    obtain ⟨d1, d2⟩ := dec_le h0
    have e : Lib.decodeL (l ++ b) = Lib.decodeL l := dec_pre hg h0 (by rw [List.length_append]; omega) fun j hj => List.getElem?_append_left (by omega)
    refine .step (by simp [h0]) (by rw [e]; exact hg) ?_
    rw [e, List.drop_append_of_le_length d2]
    exact ih
theorem utf_ascii1 {b : UInt8} (h : b.toNat < 128) : Utf [b] := by
  have e : Lib.decodeL [b] = (b.toNat, 1) := by
    rw [Lib.decodeL_N]
    unfold Lib.decodeN
    rw [if_pos (show (([b] : List UInt8).getD 0 0).toNat < 128 from h)]; rfl
  refine .step (by simp) (by rw [e]; intro h2; rw [Prod.mk.injEq] at h2; omega) ?_
  rw [e]; exact .nil
theorem utf_ascii : ∀ {l : List UInt8}, (∀ b ∈ l, b.toNat < 128) → Utf l
  | [], _ => .nil
  | b :: r, h => utf_append (a := [b]) (utf_ascii1 (h b (by simp))) (utf_ascii fun x hx => h x (List.mem_cons_of_mem _ hx))
theorem utf_e : Utf [195, 169] := by
  have e : Lib.decodeL [195, 169] = (233, 2) := by rw [Lib.decodeL_N]; decide +kernel
  exact .step (by simp) (by rw [e]; simp) (by rw [e]; exact .nil)
theorem check_of {s : ByteArray} (h : Utf s.data.toList) : checkFrom s 0 = -1 := (check_iff s).2 h
end Go.Proofs.YtfaocpcbejgfjaaDoor
