/- ItemsFew, walked. Its condition: how the choices lie in memory. -/
import Derived.Test.YtiinhkfbgecbjaaGreatDoorC3
namespace Go.Proofs.YtiinhkfbgecbjaaGreatDoor
set_option linter.unusedSimpArgs false
set_option linter.unusedVariables false
open Go.RowKit Go.Sub

def bigN (xs : List TokB) : Nat := (xs.filter fun x => decide (2 < x.1)).length
theorem bigN_take {xs : List TokB} {n : Nat} {x : TokB} (h : xs[n]? = some x) : bigN (xs.take (n + 1)) = bigN (xs.take n) + (if 2 < x.1 then 1 else 0) := by
  unfold bigN
  rw [List.take_add_one, h]
  by_cases e : 2 < x.1 <;> simp [e]
theorem bigN_le (xs : List TokB) (n : Nat) : bigN (xs.take n) ≤ xs.length := by
  unfold bigN
  exact Nat.le_trans (List.length_filter_le _ _) (by rw [List.length_take]; omega)
theorem bigN_items {xs : List TokB} (h : ∀ x ∈ xs, 1 ≤ x.1) : bigN xs = (itemsS xs).2.1.length := by
  rw [items_count]
  unfold bigN
  congr 1
  refine List.filter_congr fun x hx => ?_
  have := h x hx
  unfold plainK
  by_cases e : 2 < x.1
  · rw [decide_eq_true e, decide_eq_true (show x.1 ≠ 1 ∧ x.1 ≠ 2 by omega)]
  · rw [decide_eq_false e, decide_eq_false (show ¬ (x.1 ≠ 1 ∧ x.1 ≠ 2) by omega)]
set_option maxRecDepth 100000 in
set_option maxHeartbeats 4000000 in
theorem few_core (v : Value) (w : World) (hv : BytesV w v) : Calls Tryz.prog 8 #[v] w fun e w' => e = .returned (.bool true) ∧ Below w.heap.size w w' := by
  have HV := Lib.hid hv
  clear hv
  go_enter Tryz.func8, Tryz.ntmps8
  go_upto_region 2 with (first
    | (go_at_call 10; refine (source_calls _ _ HV.out).mono ?_; rintro e w1 ⟨R, rfl, hR, hb1⟩; have HB1 := Lib.hid hb1; clear hb1)
    | (go_at_call 9; refine (stokens_calls _ _ (by omega)).mono ?_; rintro e w2 ⟨p, c, xs, er, z, rfl, hrow, hlen, hsrc, -, hb2⟩; have HB2 := Lib.hid (HB1.out.trans (hb2.mono HB1.out.size)); have HR := Lib.hid hrow; have HS := Lib.hid hsrc; clear hb2 hrow hsrc))
  by_cases he : er = 0
  · subst he
    have hs := HS.out rfl
    have hl3 := hs.len
    have hlb := hs.lenB
    have hbi := bigN_items fun x hx => (hs.kinds x hx).1.1
    have HBI := Lib.hid hbi
    have HBL := Lib.hid (bigN_le xs)
    have hlx : xs.length ≤ 300 := by omega
    have HI := Lib.hid (fun W hW => items_calls _ xs W (HR.out.below hW) (by omega) (by omega))
    have HN := Lib.hid (fun W hW => inotes_calls _ xs W (HR.out.below hW) (by omega) (by omega))
    have hld := @items_lead xs
    have HLD := Lib.hid hld
    clear hbi hs hl3 hlb hld
    go_wp2
    go_loopw [6, 7] (fun a i wr => ∃ n : Nat, n ≤ xs.length ∧ i = .int .i64 n ∧ a = .int .i64 (bigN (xs.take n) : Nat) ∧ Hid (Below w2.heap.size w2 wr)) (fun _ i _ => xs.length - (intOf i).toNat)
    case atStart => exact ⟨0, Nat.zero_le _, rfl, rfl, Lib.hid (Below.refl _ _)⟩
    case round =>
      obtain ⟨n, hn, rfl, rfl, HW⟩ := hrel
      by_cases hlt : n < xs.length
      · have hx := List.getElem?_eq_getElem hlt
        obtain ⟨p', c', e', -, hce⟩ := HR.out.below HW.out
        cases e'
        obtain ⟨b, o, rfl, c0, c1⟩ := hce n _ hx
        have hst := bigN_take hx
        have hle := HBL.out n
        have HLT := Lib.hid hlt
        clear hx hce
        generalize xs[n] = x at *
        obtain ⟨k, s⟩ := x
        dsimp only at c0 c1 hst
        by_cases hk : 2 < k
        · rw [if_pos hk] at hst
          have HST := Lib.hid hst
          have y1 : decide (k > 2) = true := decide_eq_true hk
          have y2 : (2 < k) = True := eq_true hk
          clear hst hk
          generalize bigN (xs.take n) = m at *
          go_wp2
          go_roundw
          case rel => exact ⟨n + 1, HLT.out, by go_num, by rw [HST.out]; go_num, HW⟩
          case measure => simp [intOf]; have := HLT.out; omega
        · rw [if_neg hk] at hst
          have HST := Lib.hid hst
          have y1 : decide (k > 2) = false := decide_eq_false hk
          have y2 : (2 < k) = False := eq_false hk
          clear hst hk
          generalize bigN (xs.take n) = m at *
          go_wp2
          go_roundw
          case rel => exact ⟨n + 1, HLT.out, by go_num, by rw [HST.out]; rfl, HW⟩
          case measure => simp [intOf]; have := HLT.out; omega
      · obtain rfl : n = xs.length := by omega
        rw [List.take_length, HBI.out]
        unfold RItemsPost at HI
        clear HBI HBL HS
        generalize itemsS xs = st at *
        generalize notesL xs = ns at *
        obtain ⟨lead, out, at1⟩ := st
        dsimp only at HI HLD ⊢
        by_cases h0 : out.length = 0
        · have hh := HLD.out (List.eq_nil_of_length_eq_zero h0)
          obtain rfl : lead = ns := hh
          have y1 : decide ((out.length : Int) > 0) = false := decide_eq_false (by omega)
          have y2 : (0 < (out.length : Int)) = False := eq_false (by omega)
          have y3 : ((out.length : Int) > 0) = False := eq_false (by omega)
          go_wp2_with (first
            | (go_at_call 17; with_reducible refine (HI.out _ HW.out).mono ?_; rintro e w3 ⟨vl, vo, us, rfl, hit, hb⟩; obtain ⟨pl, cl, rfl, -⟩ := row_shp hit.lead; obtain ⟨po, co, rfl, -⟩ := row_shp hit.row; have HW3 := Lib.hid (HW.out.trans (hb.mono HW.out.size)); have HB3 := Lib.hid ((HB2.out.trans (HW.out.mono HB2.out.size)).trans (hb.mono (HB2.out.trans (HW.out.mono HB2.out.size)).size)); clear hit hb)
            | (go_at_call 11; refine (known_calls _).mono ?_; rintro e w4 ⟨rfl, hb3⟩; have HW4 := Lib.hid (HW3.out.trans (hb3.mono HW3.out.size)); have HB4 := Lib.hid (HB3.out.trans (hb3.mono HB3.out.size)); clear hb3)
            | (go_at_call 18; with_reducible refine (HN.out _ HW4.out).mono ?_; rintro e w5 ⟨u, rfl, hr, hb⟩; obtain ⟨pn, cn, rfl, -⟩ := row_shp hr; have HB5 := Lib.hid (HB4.out.trans (hb.mono HB4.out.size)); clear hr hb))
          go_ret
          exact ⟨by first | rfl | simp, HB5.out⟩
        · have y1 : decide ((out.length : Int) > 0) = true := decide_eq_true (by omega)
          have y2 : (0 < (out.length : Int)) = True := eq_true (by omega)
          go_wp2_with (first
            | (go_at_call 17; with_reducible refine (HI.out _ HW.out).mono ?_; rintro e w3 ⟨vl, vo, us, rfl, hit, hb⟩; obtain ⟨pl, cl, rfl, -⟩ := row_shp hit.lead; obtain ⟨po, co, rfl, -⟩ := row_shp hit.row; have HB3 := Lib.hid ((HB2.out.trans (HW.out.mono HB2.out.size)).trans (hb.mono (HB2.out.trans (HW.out.mono HB2.out.size)).size)); clear hit hb)
            | (go_at_call 11; refine (known_calls _).mono ?_; rintro e w4 ⟨rfl, hb3⟩; have HB4 := Lib.hid (HB3.out.trans (hb3.mono HB3.out.size)); have HBK := Lib.hid hb3; clear hb3))
          go_ret
          exact ⟨rfl, HB4.out⟩
  · have y1 : ((er : Int) != 0) = true := by rw [bne_iff_ne]; omega
    have y2 : ((er : Int) = 0) = False := eq_false (by omega)
    go_wp2_with (go_at_call 11; refine (known_calls _).mono ?_; rintro e w4 ⟨rfl, hb3⟩; have HB4 := Lib.hid (HB2.out.trans (hb3.mono HB2.out.size)); have HBK := Lib.hid hb3; clear hb3)
    go_ret
    exact ⟨rfl, HB4.out⟩
end Go.Proofs.YtiinhkfbgecbjaaGreatDoor
