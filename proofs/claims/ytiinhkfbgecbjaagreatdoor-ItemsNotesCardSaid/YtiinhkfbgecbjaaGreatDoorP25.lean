/- ItemsNotes, walked. Its condition: how the choices lie in memory. -/
import Derived.Test.YtiinhkfbgecbjaaGreatDoorC3
import Derived.Deep.QuietTactic
import Derived.BigQuiet
namespace Go.Proofs.YtiinhkfbgecbjaaGreatDoor
set_option linter.unusedSimpArgs false
set_option linter.unusedVariables false
open Go.RowKit Go.Sub

theorem ItemsAt.bare {w : World} {base : Nat} {e : TypeId} {v vl : Value} {st : ItemSt} {us : List Value} (h : ItemsAt w base e v vl st us) : ItemsAt w base e v (.slice none 0 0) ([], st.2.1, st.2.2) us :=
  ⟨h.len, h.row, h.notes, h.apart, World.ownsRow_nil _ _ _ _, fun i u hu g hg => by cases hg⟩
set_option maxRecDepth 100000 in
set_option maxHeartbeats 4000000 in
theorem notes_core (v : Value) (w : World) (hv : BytesV w v) : Calls Tryz.prog 7 #[v] w fun e w' => e = .returned (.bool true) ∧ Below w.heap.size w w' := by
  have HV := Lib.hid hv
  clear hv
  obtain ⟨i1, hi1, hz10, hz11, hz12⟩ := inf_parts string_info
  go_enter Tryz.func7, Tryz.ntmps7
  go_upto_region 3 with (first
    | (go_at_call 10; refine (source_calls _ _ HV.out).mono ?_; rintro e w1 ⟨R, rfl, hR, hb1⟩; have HB1 := Lib.hid hb1; clear hb1)
    | (go_at_call 9; refine (stokens_calls _ _ (by omega)).mono ?_; rintro e w2 ⟨p, c, xs, er, z, rfl, hrow, hlen, hsrc, -, hb2⟩; have HB2 := Lib.hid (HB1.out.trans (hb2.mono HB1.out.size)); have HR := Lib.hid hrow; have HS := Lib.hid hsrc; clear hb2 hrow hsrc))
  by_cases he : er = 0
  · subst he
    have hs := HS.out rfl
    have hl3 := hs.len
    have hlb := hs.lenB
    have hlx : xs.length ≤ 300 := by omega
    have hI := items_calls _ xs w2 HR.out (by omega) (by omega)
    have HN := Lib.hid (fun W hW => inotes_calls _ xs W (HR.out.below hW) (by omega) (by omega))
    have hno := items_notes xs
    have hc := items_count xs
    have hcl : (itemsS xs).2.1.length ≤ 300 := by
      rw [hc]
      exact Nat.le_trans (List.length_filter_le _ _) hlx
    have hnl : (notesL xs).length ≤ 300 := by
      unfold notesL
      rw [List.length_map]
      exact Nat.le_trans (List.length_filter_le _ _) hlx
    have hat : ∀ x ∈ (itemsS xs).2.1, x.2.1 + x.1.2.size ≤ R.size ∧ (R.data.toList.drop x.2.1).take x.1.2.size = x.1.2.data.toList := by
      intro x hx
      have h1 := items_at xs.length xs (Nat.le_refl _) x (by rw [List.take_length]; exact hx)
      obtain ⟨j, hj, hxj, hxa, -⟩ := h1
      obtain ⟨h2, h3⟩ := join_at hxj
      rw [hs.join] at h2 h3
      rw [← Lib.size_eq] at h3
      rw [hxa]
      exact ⟨h3, h2⟩
    rw [← hno] at hnl HN
    unfold RItemsPost at hI
    generalize itemsS xs = st at *
    obtain ⟨lead, out, at1⟩ := st
    dsimp only at hnl hcl hat
    have hnl0 := hnl
    rw [List.length_append] at hnl
    have HI := Lib.hid hI
    have HAT := Lib.hid hat
    have HNL := Lib.hid (fun k => flat_le (fun x : ItemB => x.2.2) out k)
    clear hI hno hc hs hl3 hlb hat
    have hlead : lead.length ≤ 300 := by omega
    go_wp2_with (first
      | (go_at_call 17; with_reducible refine HI.out.mono ?_; rintro e w3 ⟨vl, vo, us, rfl, hit, hb⟩; obtain ⟨pl, cl, rfl, hcl2⟩ := row_shp hit.lead; obtain ⟨po, co, rfl, hco2⟩ := row_shp hit.row; have HT := Lib.hid hit; have HTB := Lib.hid hit.bare; have HB3 := Lib.hid hb; have HB23 := Lib.hid (HB2.out.trans (hb.mono HB2.out.size)); clear hit hb)
      | (at_builtin; go_loud (refine wpList_append_two _ rfl _ _ 36 rfl w2.heap.size 9 i1 _ 1 16 strings_und hi1 hz10 hz11 hz12 rfl (by decide) _ 0 _ rfl HTB.out.lead w2.heap.size _ lead.length _ rfl HT.out.lead (strC_one lead) (by simp only [maxLen]; omega) (by omega) HB3.out.size ?_; intro v' w5 hown hkeep hblk; have HT5 := Lib.hid (HTB.out.more (by decide) (ss := lead) hown hkeep hblk); have HB5 := Lib.hid (HB3.out.trans (hkeep.below HB3.out.size (fun b hb => by cases hb))); obtain ⟨p3, c3, rfl, -⟩ := row_shp hown; clear hown hkeep hblk)))
    have HQ0 := Lib.hid HB23
    rw [List.nil_append, Nat.zero_add] at HT5
    go_loopw [9, 10] (fun vc i wr => ∃ n : Nat, n ≤ out.length ∧ i = .int .i64 n ∧ Hid (ItemsAt wr w2.heap.size 41 (.slice po out.length co) vc (lead ++ (out.take n).flatMap (fun x => x.2.2), out, at1) us) ∧ Hid (Below w2.heap.size w2 wr)) (fun _ i _ => out.length - (intOf i).toNat)
    case atStart => exact ⟨0, Nat.zero_le _, rfl, by rw [List.take_zero, List.flatMap_nil, List.append_nil]; exact HT5, HB5⟩
    case round =>
      rename_i vc
      clear HT5 HB5 HT HTB HB3 HB23 HQ0
      obtain ⟨n, hn, rfl, HT, HB⟩ := hrel
      obtain ⟨pc, cc, rfl, hcc⟩ := row_shp HT.out.lead
      dsimp only at hcc
      by_cases hlt : n < out.length
      · have HLT := Lib.hid hlt
        obtain ⟨x, hx⟩ : ∃ x, out[n]? = some x := ⟨_, List.getElem?_eq_getElem hlt⟩
        obtain ⟨u, hu⟩ : ∃ u, us[n]? = some u := ⟨_, List.getElem?_eq_getElem (by rw [HT.out.len]; exact hlt)⟩
        have hun := HT.out.notes n x u hx hu
        obtain ⟨pu, cu, rfl, hcu⟩ := row_shp hun
        obtain ⟨g, c8, e8⟩ : ∃ g c8, Value.slice po out.length co = .slice (some ⟨g, 0, none⟩) out.length c8 := by
          rcases HT.out.row.2 with ⟨e, h0⟩ | ⟨g, c8, _, e, _⟩
          · exact absurd h0 (by dsimp only; omega)
          · exact ⟨g, c8, e⟩
        cases e8
        obtain ⟨k0, k1, k2, k3⟩ := itemsC_get hx hu
        have c0 := HT.out.row.cells (g := g) rfl _ _ k0
        have c1 := HT.out.row.cells (g := g) rfl _ _ k1
        have c2 := HT.out.row.cells (g := g) rfl _ _ k2
        have c3 := HT.out.row.cells (g := g) rfl _ _ k3
        have ea : ∀ j, (⟨g, 0, none⟩ : Addr).add j = ⟨g, j, none⟩ := fun j => by unfold Addr.add; split <;> simp_all
        rw [ea] at c0 c1 c2 c3
        have hft := flat_take (fun x : ItemB => x.2.2) hx
        have HFT := Lib.hid hft
        have hnl1 := HNL.out (n + 1)
        rw [hft, List.length_append] at hnl1
        obtain ⟨a1, a2⟩ := HAT.out x (List.mem_of_getElem? hx)
        obtain ⟨⟨k, s⟩, at2, ns⟩ := x
        dsimp only at *
        have hcl3 : (List.flatMap (fun x : ItemB => x.2.2) (List.take n out)).length + ns.length ≤ 300 := by omega
        generalize hfl : List.flatMap (fun x : ItemB => x.2.2) (List.take n out) = fl at *
        obtain ⟨q, hq⟩ : ∃ q, lead ++ fl = q := ⟨_, rfl⟩
        have hll : q.length = lead.length + fl.length := by rw [← hq]; exact List.length_append
        have HLL := Lib.hid hll
        have HQ := Lib.hid hq
        rw [hq] at HT ⊢
        have y1 : decide ((at2 : Int) < 0) = false := decide_eq_false (by omega)
        have y2 : ((at2 : Int) < 0) = False := eq_false (by omega)
        have w3 : IntKind.i64.wrap ((at2 : Int) + (s.size : Int)) = ((at2 + s.size : Nat) : Int) := by rw [IntWalk.i64_in _ (by omega)]; omega
        have A2 := Lib.hid a2
        have y4 : decide (((at2 + s.size : Nat) : Int) > (R.size : Int)) = false := decide_eq_false (by omega)
        have y5 : ((R.size : Int) < ((at2 + s.size : Nat) : Int)) = False := eq_false (by omega)
        have y6 : ((R.size : Int) < (at2 : Int) + (s.size : Int)) = False := eq_false (by omega)
        have y7 : (0 : Int) ≤ (at2 : Int) := by omega
        have hcat : R.extract at2 (at2 + s.size) = s := bytes_ext.2 (by rw [Lib.extract_data, Nat.add_sub_cancel_left]; exact A2.out)
        have z1 : (0 : Int) ≤ (at2 : Int) + (s.size : Int) := by omega
        have z2 : (at2 : Int) + (s.size : Int) ≤ (R.size : Int) := by omega
        have z3 : (at2 : Int) ≤ (at2 : Int) + (s.size : Int) := by omega
        have z4 : ((at2 : Int) + (s.size : Int)).toNat = at2 + s.size := by omega
        have HUN0 := Lib.hid hun
        clear hun hx hu k0 k1 k2 k3 ea hft hnl1 hfl hll hq
        go_upto_region 12 with (fail)
        have show1 : ∀ U, Below wr.heap.size wr U → (U.cell? ⟨g, n * 4, none⟩ = some (.int .i64 k) ∧ U.cell? ⟨g, n * 4 + 1, none⟩ = some (.string s) ∧ U.cell? ⟨g, n * 4 + 2, none⟩ = some (.int .i64 (at2 : Int))) ∧ Below wr.heap.size wr U := fun U h => ⟨⟨(h.cell (p := ⟨g, n * 4, none⟩) (World.block_lt_of_cell? _ _ c0)).trans c0, (h.cell (p := ⟨g, n * 4 + 1, none⟩) (World.block_lt_of_cell? _ _ c1)).trans c1, (h.cell (p := ⟨g, n * 4 + 2, none⟩) (World.block_lt_of_cell? _ _ c2)).trans c2⟩, h⟩
        have SHOW := Lib.hid show1
        have HBel := Lib.hid (Below.refl wr.heap.size wr)
        clear show1
        go_region_held3 (fun w' => (w'.cell? ⟨g, n * 4, none⟩ = some (.int .i64 k) ∧ w'.cell? ⟨g, n * 4 + 1, none⟩ = some (.string s) ∧ w'.cell? ⟨g, n * 4 + 2, none⟩ = some (.int .i64 (at2 : Int))) ∧ Below wr.heap.size wr w') (first | exact SHOW.out _ HBel.out.drew | assumption | (refine SHOW.out _ ?_; assumption)) (fail)
        have hbx : Below wr.heap.size wr _ := And.right (by assumption)
        have HA := Lib.hid (HT.out.keeps (Keeps.of_below' (O := fun _ => False) hbx) (fun _ _ e => e) (fun _ _ e => e) (fun _ _ _ _ _ e => e))
        have HUN := Lib.hid (ownsRow_keeps HUN0.out (Keeps.of_below' (O := fun _ => False) hbx) (fun _ _ e => e))
        have HBA := Lib.hid (HB.out.trans (hbx.mono HB.out.size))
        have HSZ := Lib.hid (Nat.le_trans HB.out.size hbx.size)
        have d3 := (hbx.cell (p := ⟨g, n * 4 + 3, none⟩) (World.block_lt_of_cell? _ _ c3)).trans c3
        clear hbx
        go_wp2_with (at_builtin; go_loud (refine wpList_append_two _ rfl _ _ 36 rfl w2.heap.size 9 i1 _ 1 16 strings_und hi1 hz10 hz11 hz12 rfl (by decide) _ q.length _ rfl HA.out.lead w2.heap.size _ ns.length _ rfl HUN.out (strC_one ns) (by rw [HLL.out]; simp only [maxLen]; omega) (by rw [HLL.out]; omega) HSZ.out ?_; intro v' w3 hown hkeep hblk; have HT3 := Lib.hid (HA.out.more (by decide) hown hkeep hblk); have HB3 := Lib.hid (HBA.out.trans (hkeep.below HBA.out.size (fun b hb => (HA.out.lead.lt b hb.symm).1))); obtain ⟨p3, c3, rfl, -⟩ := row_shp hown; clear hown hkeep hblk))
        go_roundw
        case rel => exact ⟨n + 1, HLT.out, by go_num, by rw [HFT.out, ← List.append_assoc, HQ.out]; exact HT3, HB3⟩
        case measure => simp [intOf]; have := HLT.out; omega
      · obtain rfl : n = out.length := by omega
        have hrow := HT.out.lead
        rw [List.take_length] at hrow ⊢
        dsimp only at hrow
        obtain ⟨q, hq⟩ : ∃ q, lead ++ List.flatMap (fun x : ItemB => x.2.2) out = q := ⟨_, rfl⟩
        rw [hq] at hrow ⊢ HN hnl0
        have HS1 := Lib.hid (strRow_own hrow (by omega))
        have HBW := Lib.hid (HB2.out.trans (HB.out.mono HB2.out.size))
        clear hrow hq
        go_wp2_with (first
          | (go_at_call 11; refine (known_calls _).mono ?_; rintro e w7 ⟨rfl, hb7⟩; have HS7 := Lib.hid (HS1.out.below hb7); have HL7 := Lib.hid (HB.out.trans (hb7.mono HB.out.size)); have HB7 := Lib.hid (HBW.out.trans (hb7.mono HBW.out.size)); clear hb7)
          | (go_at_call 18; with_reducible refine (HN.out _ HL7.out).mono ?_; rintro e w8 ⟨u, rfl, hr, hb8⟩; have HU8 := Lib.hid (strRow_own hr (by omega)); have HS8 := Lib.hid (HS7.out.below hb8); have HB8 := Lib.hid (HB7.out.trans (hb8.mono HB7.out.size)); clear hr hb8)
          | (go_at_call 19; with_reducible refine (ssame_calls _ _ _ _ HS8.out HU8.out).mono ?_; rintro e w9 ⟨rfl, hb9⟩; have HB9 := Lib.hid (HB8.out.trans (hb9.mono HB8.out.size)); clear hb9))
        go_ret
        exact ⟨rfl, HB9.out⟩
  · have y1 : ((er : Int) != 0) = true := by rw [bne_iff_ne]; omega
    have y2 : ((er : Int) = 0) = False := eq_false (by omega)
    go_wp2_with (go_at_call 11; refine (known_calls _).mono ?_; rintro e w4 ⟨rfl, hb3⟩; have HB4 := Lib.hid (HB2.out.trans (hb3.mono HB2.out.size)); have HBK := Lib.hid hb3; clear hb3)
    go_ret
    exact ⟨rfl, HB4.out⟩
end Go.Proofs.YtiinhkfbgecbjaaGreatDoor
