/- What counts, and the notes: the document's answer. Its condition: how the tokens lie in memory; at most 2^20 bytes. · Which tokens may stand side by side: the document's answer. Its condition: texts of at most 10^6 bytes. · All notes, and a row of tokens as one line: the document's answer. Its condition: how the tokens lie in memory; at most 2^20 bytes. · How two pairs of tokens compare, as a map's keys. No condition but that kinds are ints and texts no longer than a text may be. · Two rows of the same items are the same: the document's word. Its condition: how they lie in memory. · A row of tokens as one line: the code. Its condition: how the tokens lie in memory; kinds that are ints; at most 400000 bytes. · The chapter's example of items, walked. No condition. -/
import Derived.Test.YtiinhkfbgecbjaaGreatDoorC1
import Derived.Test.YtiinhkfbgecbjaaGreatDoorB3
import Derived.Deep.Cut
import Derived.Deep.RegionHeld3
import Derived.Test.YtiinhkfbgecbjaaGreatDoorMapT
import Derived.DeepKeys3
import Derived.Deep.QuietTactic
import Derived.BigQuiet
import Derived.Test.YtiinhkfbgecbjaaGreatDoorB1
namespace Go.Proofs.YtiinhkfbgecbjaaGreatDoor
set_option linter.unusedSimpArgs false
set_option linter.unusedVariables false
open Go.RowKit Go.Sub

theorem row_shp {w : World} {base : Nat} {e : TypeId} {size : Nat} {v : Value} {n : Nat} {xs : List Value} (h : w.ownsRow base e size v n xs) : ∃ p c, v = .slice p n c ∧ n ≤ c := by
  rcases h.2 with ⟨rfl, h0⟩ | ⟨g, cap, _, rfl, _, _, hnc, _⟩
  · exact ⟨none, 0, by rw [h0], by omega⟩
  · exact ⟨_, _, rfl, hnc⟩
theorem inf_parts {P : Program} {e : TypeId} {z : Value} {size bytes : Nat} (h : (P.info? e).map (fun i => (i.zero, i.size, i.bytes)) = some (some z, size, bytes)) : ∃ i, P.info? e = some i ∧ i.zero = some z ∧ i.size = size ∧ i.bytes = bytes := by
  cases hi : P.info? e with
  | none => rw [hi] at h; cases h
  | some i =>
    rw [hi] at h
    simp only [Option.map_some, Option.some.injEq, Prod.mk.injEq] at h
    exact ⟨i, rfl, h.1, h.2.1, h.2.2⟩
theorem item_info : (Tryz.prog.info? 41).map (fun i => (i.zero, i.size, i.bytes)) = some (some (.agg #[.int .i64 0, .string ByteArray.empty, .int .i64 0, .slice none 0 0]), 4, 56) := by kernel_rfl
theorem string_info : (Tryz.prog.info? 9).map (fun i => (i.zero, i.size, i.bytes)) = some (some (.string ByteArray.empty), 1, 16) := by kernel_rfl
theorem items_und : Tryz.prog.underlying 37 = some (.slice 41) := by kernel_rfl
theorem strings_und : Tryz.prog.underlying 36 = some (.slice 9) := by kernel_rfl
def RItemsPost (w : World) (xs : List TokB) (e : Ending) (w' : World) : Prop := ∃ vl vo us, e = .returned (.tuple #[vl, vo]) ∧ ItemsAt w' w.heap.size 41 vo vl (itemsS xs) us ∧ Below w.heap.size w w'
theorem ItemsAt.anyAt {w : World} {base : Nat} {e : TypeId} {v vl : Value} {l : List ByteArray} {o : List ItemB} {a a' : Nat} {us : List Value} (h : ItemsAt w base e v vl (l, o, a) us) : ItemsAt w base e v vl (l, o, a') us := ⟨h.len, h.row, h.notes, h.apart, h.lead, h.free⟩
set_option maxRecDepth 100000 in
set_option maxHeartbeats 4000000 in
theorem ritems_calls (v : Value) (xs : List TokB) (w : World) (h : TokRow w v xs) (hs : sumT xs ≤ 1048576) :
    Calls Tryz.prog 31 #[v] w (RItemsPost w xs) := by
  have Hh := Lib.hid h
  obtain ⟨pv, cv, rfl, hlv, -⟩ := h
  have hsj := sumT_join xs
  have hat : ∀ n, n ≤ xs.length → (itemsS (xs.take n)).2.2 ≤ 1048576 := fun n hn => by
    rw [it_at n xs hn]
    have h1 := sumT_join (xs.take n)
    have h2 := sumT_le xs n
    omega
  have hsm : ∀ n, (itemsS (xs.take n)).1.length ≤ 1048576 ∧ (itemsS (xs.take n)).2.1.length ≤ 1048576 ∧ ∀ x ∈ (itemsS (xs.take n)).2.1, x.2.2.length ≤ 1048576 := fun n => by
    have h1 := items_small (xs.take n) ([], [], 0) 0 (by simp) (by simp) (fun x hx => by simp at hx)
    have h2 : (xs.take n).length ≤ xs.length := by rw [List.length_take]; omega
    unfold itemsS
    exact ⟨by have := h1.1; omega, by have := h1.2.1; omega, fun x hx => by have := h1.2.2 x hx; omega⟩
  have HAT := Lib.hid hat
  have HSM := Lib.hid hsm
  have hlx : xs.length ≤ 1048576 := by omega
  have Pc := Lib.hid rplain_calls
  clear hat hsm hsj hs
  go_enter Tryz.func31, Tryz.ntmps31
  go_wp2
  go_loopw [4, 5, 6, 7] (fun vl vo a i wr => ∃ (n : Nat) (us : List Value), n ≤ xs.length ∧ i = .int .i64 n ∧ a = .int .i64 ((itemsS (xs.take n)).2.2 : Nat) ∧ Hid (ItemsAt wr w.heap.size 41 vo vl (itemsS (xs.take n)) us) ∧ Hid (Below w.heap.size w wr)) (fun _ _ _ i _ => xs.length - (intOf i).toNat)
  case atStart => exact ⟨0, [], Nat.zero_le _, rfl, rfl, Lib.hid (ItemsAt.start _ _ _), Lib.hid (Below.refl _ _)⟩
  case round =>
    rename_i vl vo
    obtain ⟨n, us, hn, rfl, rfl, HI, HW⟩ := hrel
    obtain ⟨pl, cl, rfl, hcl⟩ := row_shp HI.out.lead
    obtain ⟨po, co, rfl, hco⟩ := row_shp HI.out.row
    by_cases hlt : n < xs.length
    · have hx := List.getElem?_eq_getElem hlt
      have hrow := Hh.out.below HW.out
      obtain ⟨p', c', e', -, hce⟩ := hrow
      cases e'
      obtain ⟨b, o, rfl, c0, c1⟩ := hce n _ hx
      have hst := itemsS_take hx
      have ha2 := HAT.out (n + 1) hlt
      have ha := HAT.out n hn
      obtain ⟨m1, m2, m3⟩ := HSM.out n
      have HLT := Lib.hid hlt
      clear hx
      generalize xs[n] = x at *
      obtain ⟨k, s⟩ := x
      dsimp only at c0 c1
      rw [hst] at ha2
      have HST := Lib.hid hst
      have hsz : (itStep (itemsS (xs.take n)) (k, s)).2.2 = (itemsS (xs.take n)).2.2 + s.size := rfl
      rw [hsz] at ha2
      clear hst hsz
      generalize itemsS (xs.take n) = st at *
      obtain ⟨lead, out, at1⟩ := st
      dsimp only at *
      have hcc : ∀ W, Below w.heap.size w W → W.cell? ⟨b, o + n * 2, none⟩ = some (.int .i64 k) ∧ W.cell? ⟨b, o + n * 2 + 1, none⟩ = some (.string s) := fun W hW => by
        have hb : b < w.heap.size := by
          obtain ⟨p2, c2, e2, -, h2⟩ := Hh.out
          cases e2
          obtain ⟨b2, o2, e3, h3, -⟩ := h2 n _ (List.getElem?_eq_getElem HLT.out)
          cases e3
          exact World.block_lt_of_cell? _ _ h3
        exact ⟨((hW.cell (p := ⟨b, o + n * 2, none⟩) hb).trans (HW.out.cell (p := ⟨b, o + n * 2, none⟩) hb).symm).trans c0, ((hW.cell (p := ⟨b, o + n * 2 + 1, none⟩) hb).trans (HW.out.cell (p := ⟨b, o + n * 2 + 1, none⟩) hb).symm).trans c1⟩
      have HCC := Lib.hid hcc
      obtain ⟨i0, hi, hz0, hz1, hz2⟩ := inf_parts item_info
      obtain ⟨i1, hi1, hz10, hz11, hz12⟩ := inf_parts string_info
      clear hcc hce
      by_cases hk1 : k = 1
      · subst hk1
        have d1 : decide ((1 : Int) ≠ 1 ∧ (1 : Int) ≠ 2) = false := by decide
        have HE : Hid (itStep (lead, out, at1) (1, s) = (lead, out, at1 + s.size)) := Lib.hid (by simp [itStep])
        go_wp2_with (go_at_call 44; refine (Pc.out _ _ _).mono ?_; rintro e w1 ⟨rfl, hb⟩; have HW1 := Lib.hid (HW.out.trans (hb.mono HW.out.size)); obtain ⟨c0, c1⟩ := HCC.out w1 HW1.out; have HI1 := Lib.hid (HI.out.keeps (Keeps.of_below' (O := fun _ => False) hb) (fun _ _ e => e) (fun _ _ e => e) (fun _ _ _ _ _ e => e)); have HZ1 := Lib.hid (Nat.le_trans HW.out.size hb.size); clear hb)
        go_roundw 
        case rel => exact ⟨n + 1, us, HLT.out, by go_num, by rw [HST.out, HE.out]; simp, by rw [HST.out, HE.out]; exact Lib.hid (HI1.out).anyAt, HW1⟩ 
        case measure => simp [intOf]; have := HLT.out; omega
      · by_cases hk2 : k = 2
        · subst hk2
          have d1 : decide ((2 : Int) ≠ 1 ∧ (2 : Int) ≠ 2) = false := by decide
          by_cases ho : out = []
          · subst ho
            have HE : Hid (itStep (lead, [], at1) (2, s) = (lead ++ [s], [], at1 + s.size)) := Lib.hid (by simp [itStep, addNote])
            go_upto_region 10 with (go_at_call 44; refine (Pc.out _ _ _).mono ?_; rintro e w1 ⟨rfl, hb⟩; have HW1 := Lib.hid (HW.out.trans (hb.mono HW.out.size)); obtain ⟨c0, c1⟩ := HCC.out w1 HW1.out; have HI1 := Lib.hid (HI.out.keeps (Keeps.of_below' (O := fun _ => False) hb) (fun _ _ e => e) (fun _ _ e => e) (fun _ _ _ _ _ e => e)); have HZ1 := Lib.hid (Nat.le_trans HW.out.size hb.size); clear hb)
            have al := (Below.refl w1.heap.size w1).alloc (Nat.le_refl _) (.cells #[.string s] 9)
            have HN1 := Lib.hid (World.alloc_heap_new w1 (.cells #[.string s] 9))
            have HL1 := Lib.hid (ownsRow_keeps HI1.out.lead (Keeps.of_below' (O := fun _ => False) al) (fun _ _ e => e))
            have HIA := Lib.hid (HI1.out.keeps (Keeps.of_below' (O := fun _ => False) al) (fun _ _ e => e) (fun _ _ e => e) (fun _ _ _ _ _ e => e))
            have HAL := Lib.hid (HW1.out.trans (al.mono HW1.out.size))
            have HZA := Lib.hid (show (w1.alloc (.cells #[.string s] 9)).heap.size = w1.heap.size + 1 by simp)
            clear al
            go_upto_region 11 with (at_builtin; go_loud (refine wpList_append_O _ rfl _ _ 36 rfl w.heap.size 9 i1 _ 1 16 strings_und hi1 hz10 hz11 hz12 rfl (by decide) _ lead.length _ rfl HL1.out ⟨w1.heap.size, 0, none⟩ 1 1 [.string s] rfl rfl (by intro j u hu; match j, hu with | 0, hu => simp at hu; subst hu; exact cell_of_block HN1.out rfl | j + 1, hu => simp at hu) (by intro u hu; simp at hu; subst hu; rfl) (by simp only [maxLen]; omega) (by omega) (by have := HZA.out; have := HZ1.out; omega) ?_; intro v' w3 hown hkeep hblk _; have HI3 := Lib.hid (HIA.out.ahead (by decide) rfl hown hkeep (at2 := at1 + s.size)); have HW3 := Lib.hid (HAL.out.trans (hkeep.below HAL.out.size (fun b hb => (HL1.out.lt b hb.symm).1))); obtain ⟨p3, c3, rfl, -⟩ := row_shp hown; clear hown hkeep hblk))
            obtain ⟨c0, c1⟩ := HCC.out w3 HW3.out
            go_wp2
            go_roundw 
            case rel => exact ⟨n + 1, us, HLT.out, by go_num, by rw [HST.out, HE.out]; simp, by rw [HST.out, HE.out]; exact Lib.hid (HI3.out).anyAt, HW3⟩ 
            case measure => simp [intOf]; have := HLT.out; omega
          · obtain ⟨pre, y, rfl⟩ : ∃ pre y, out = pre ++ [y] := ⟨out.dropLast, out.getLast ho, (List.dropLast_concat_getLast ho).symm⟩
            have hul := HI.out.len
            rw [List.length_append] at hul
            have hun : us ≠ [] := fun e => by rw [e] at hul; simp at hul
            obtain ⟨pus, u, rfl⟩ : ∃ pus u, us = pus ++ [u] := ⟨us.dropLast, us.getLast hun, (List.dropLast_concat_getLast hun).symm⟩
            have hp : pus.length = pre.length := by simpa using hul
            have HP := Lib.hid hp
            have HE : Hid (itStep (lead, pre ++ [y], at1) (2, s) = (lead, pre ++ [(y.1, y.2.1, y.2.2 ++ [s])], at1 + s.size)) := Lib.hid (by simp [itStep, addNote_snoc])
            have hol : (pre ++ [y]).length = pre.length + 1 := by simp
            rw [hol] at m2 hco
            have hir := HI.out.row
            rw [hol] at hir
            obtain ⟨g, c8, e8⟩ := own_succ hir
            cases e8
            have hi0 := HI.out
            rw [hol] at hi0
            have HI := Lib.hid hi0
            have hy3 := m3 y (by simp)
            have y1 : (((pre.length : Int) + 1) == 0) = false := by rw [beq_eq_false_iff_ne]; omega
            have y2 : decide ((pre.length : Int) + 1 > 0) = true := decide_eq_true (by omega)
            have y3 : IntKind.i64.wrap ((pre.length : Int) + 1 - 1) = (pre.length : Int) := by rw [IntWalk.i64_in _ (by omega)]; omega
            have y4 : (0 : Int) ≤ (pre.length : Int) := by omega
            rw [hol]
            clear ho hul hun hp hir hi0 m3 hol
            go_upto_region 13 with (go_at_call 44; refine (Pc.out _ _ _).mono ?_; rintro e w1 ⟨rfl, hb⟩; have HW1 := Lib.hid (HW.out.trans (hb.mono HW.out.size)); obtain ⟨c0, c1⟩ := HCC.out w1 HW1.out; have HI1 := Lib.hid (HI.out.keeps (Keeps.of_below' (O := fun _ => False) hb) (fun _ _ e => e) (fun _ _ e => e) (fun _ _ _ _ _ e => e)); have HZ1 := Lib.hid (Nat.le_trans HW.out.size hb.size); clear hb)
            have hxp : (pre ++ [y])[pre.length]? = some y := by rw [List.getElem?_append_right (Nat.le_refl _), Nat.sub_self]; rfl
            have hup : (pus ++ [u])[pre.length]? = some u := by rw [← HP.out, List.getElem?_append_right (Nat.le_refl _), Nat.sub_self]; rfl
            have hun := HI1.out.notes pre.length y u hxp hup
            have hcu := HI1.out.row.cells (g := g) rfl _ _ (itemsC_get hxp hup).2.2.2
            rw [show (⟨g, 0, none⟩ : Addr).add (pre.length * 4 + 3) = ⟨g, pre.length * 4 + 3, none⟩ by unfold Addr.add; split <;> simp_all] at hcu
            have hgw := (HI1.out.row.lt g rfl).1
            have HGW := Lib.hid hgw
            clear hxp hup hgw
            rcases hun.2 with ⟨rfl, h0⟩ | ⟨gu, cu, cur, rfl, -, -, hcc, -⟩
            · have hy0 : y.2.2 = [] := List.eq_nil_of_length_eq_zero h0
              have HO6 : Hid (w1.ownsRow w1.heap.size 9 1 (.slice none 0 0) 0 (strC y.2.2)) := Lib.hid (by rw [hy0]; exact World.ownsRow_nil _ _ _ _)
              have HB6 := Lib.hid (Below.refl w1.heap.size w1)
              have HYL : Hid (y.2.2.length = 0) := Lib.hid h0
              clear hun h0 hy0
              go_upto_region 15 with (fail)
              have hw6 := HW1.out.trans (HB6.out.mono HW1.out.size) 
              obtain ⟨c0, c1⟩ := HCC.out w1 hw6 
              have al := (Below.refl w1.heap.size w1).alloc (Nat.le_refl _) (.cells #[.string s] 9) 
              have HN6 := Lib.hid (World.alloc_heap_new w1 (.cells #[.string s] 9)) 
              have HO7 := Lib.hid (ownsRow_keeps HO6.out (Keeps.of_below' (O := fun _ => False) al) (fun _ _ e => e)) 
              have HB7 := Lib.hid (HB6.out.trans (al.mono HB6.out.size)) 
              have HZ6 := Lib.hid (show (w1.alloc (.cells #[.string s] 9)).heap.size = w1.heap.size + 1 by simp) 
              have hcu6 := (HB7.out.cell (World.block_lt_of_cell? _ _ hcu)).trans hcu 
              clear al hw6 
              go_upto_region 16 with (at_builtin; go_loud (refine wpList_append_O _ rfl _ _ 36 rfl w1.heap.size 9 i1 _ 1 16 strings_und hi1 hz10 hz11 hz12 rfl (by decide) _ 0 _ rfl HO7.out ⟨w1.heap.size, 0, none⟩ 1 1 [.string s] rfl rfl (by intro j u hu; match j, hu with | 0, hu => simp at hu; subst hu; exact cell_of_block HN6.out rfl | j + 1, hu => simp at hu) (by intro u hu; simp at hu; subst hu; rfl) (by simp only [maxLen]; omega) (by omega) (by have := HZ6.out; have := HB6.out.size; omega) ?_; intro v7 w7 hown hkeep hblk _; obtain ⟨g7, c7, rfl⟩ := own_succ hown; have HB8 := Lib.hid (HB7.out.trans (hkeep.below HB7.out.size (fun b hb => (HO7.out.lt b hb.symm).1))); have hbh := HI1.out.behind HP.out (by decide) (s := s) (at2 := at1 + s.size) (u' := .slice (some ⟨g7, 0, none⟩) (0 + 1) c7) (by rw [HYL.out]; exact ownsRow_base hown HW1.out.size) (Keeps.of_below' HB8.out) (.inr ⟨g7, rfl, (hown.lt g7 rfl).1⟩); have HBH := Lib.hid hbh; clear hown hkeep hblk hbh)) 
              obtain ⟨b1, b2, b3, -⟩ := HBH.out 
              have HI8 := Lib.hid b3 
              have hw7 := HW1.out.trans (HB8.out.mono HW1.out.size) 
              have HW8 := Lib.hid (hw7.setCell (p := ⟨g, pre.length * 4 + 3, none⟩) HGW.out (.slice (some ⟨g7, 0, none⟩) (0 + 1) c7)) 
              clear b3 hw7 hcu6 
              go_upto_region 17 with (fail) 
              obtain ⟨c0, c1⟩ := HCC.out _ HW8.out 
              go_wp2 
              go_roundw 
              case rel => exact ⟨n + 1, pus ++ [.slice (some ⟨g7, 0, none⟩) (0 + 1) c7], HLT.out, by go_num, by rw [HST.out, HE.out]; simp, by rw [HST.out, HE.out]; exact Lib.hid (HI8.out).anyAt, HW8⟩ 
              case measure => simp [intOf]; have := HLT.out; omega
            · have hcl : ∀ (j : Nat) (t : Value), (strC y.2.2)[j]? = some t → w1.cell? ((⟨gu, 0, none⟩ : Addr).add j) = some t := fun j t ht => hun.cells (g := gu) rfl _ _ ht
              have HCL := Lib.hid hcl
              have HL : Hid ((strC y.2.2).length = y.2.2.length * 1) := Lib.hid (by unfold strC; rw [List.length_map, Nat.mul_one])
              have HO0 := Lib.hid (World.ownsRow_nil w1 w1.heap.size 9 1)
              have HYL : Hid (y.2.2.length = y.2.2.length) := Lib.hid rfl
              clear hun hcl
              go_upto_region 15 with (at_builtin; go_loud (refine wpList_append_O _ rfl _ _ 36 rfl w1.heap.size 9 i1 _ 1 16 strings_und hi1 hz10 hz11 hz12 rfl (by decide) _ 0 _ rfl HO0.out ⟨gu, 0, none⟩ y.2.2.length cu (strC y.2.2) rfl HL.out HCL.out (by intro u hu; unfold strC at hu; obtain ⟨x, _, rfl⟩ := List.mem_map.1 hu; rfl) (by simp only [maxLen]; omega) (by omega) (Nat.le_refl _) ?_; intro v6 W6 hown hkeep hblk _; rw [Nat.zero_add, List.nil_append] at hown; obtain ⟨p6, c6, rfl, -⟩ := row_shp hown; have HO6 := Lib.hid hown; have HB6 := Lib.hid (hkeep.below (n := w1.heap.size) (Nat.le_refl _) (fun b hb => by cases hb)); clear hown hkeep hblk))
              have hw6 := HW1.out.trans (HB6.out.mono HW1.out.size) 
              obtain ⟨c0, c1⟩ := HCC.out W6 hw6 
              have al := (Below.refl W6.heap.size W6).alloc (Nat.le_refl _) (.cells #[.string s] 9) 
              have HN6 := Lib.hid (World.alloc_heap_new W6 (.cells #[.string s] 9)) 
              have HO7 := Lib.hid (ownsRow_keeps HO6.out (Keeps.of_below' (O := fun _ => False) al) (fun _ _ e => e)) 
              have HB7 := Lib.hid (HB6.out.trans (al.mono HB6.out.size)) 
              have HZ6 := Lib.hid (show (W6.alloc (.cells #[.string s] 9)).heap.size = W6.heap.size + 1 by simp) 
              have hcu6 := (HB7.out.cell (World.block_lt_of_cell? _ _ hcu)).trans hcu 
              clear al hw6 
              go_upto_region 16 with (at_builtin; go_loud (refine wpList_append_O _ rfl _ _ 36 rfl w1.heap.size 9 i1 _ 1 16 strings_und hi1 hz10 hz11 hz12 rfl (by decide) _ y.2.2.length _ rfl HO7.out ⟨W6.heap.size, 0, none⟩ 1 1 [.string s] rfl rfl (by intro j u hu; match j, hu with | 0, hu => simp at hu; subst hu; exact cell_of_block HN6.out rfl | j + 1, hu => simp at hu) (by intro u hu; simp at hu; subst hu; rfl) (by simp only [maxLen]; omega) (by omega) (by have := HZ6.out; have := HB6.out.size; omega) ?_; intro v7 w7 hown hkeep hblk _; obtain ⟨g7, c7, rfl⟩ := own_succ hown; have HB8 := Lib.hid (HB7.out.trans (hkeep.below HB7.out.size (fun b hb => (HO7.out.lt b hb.symm).1))); have hbh := HI1.out.behind HP.out (by decide) (s := s) (at2 := at1 + s.size) (u' := .slice (some ⟨g7, 0, none⟩) (y.2.2.length + 1) c7) (by rw [HYL.out]; exact ownsRow_base hown HW1.out.size) (Keeps.of_below' HB8.out) (.inr ⟨g7, rfl, (hown.lt g7 rfl).1⟩); have HBH := Lib.hid hbh; clear hown hkeep hblk hbh)) 
              obtain ⟨b1, b2, b3, -⟩ := HBH.out 
              have HI8 := Lib.hid b3 
              have hw7 := HW1.out.trans (HB8.out.mono HW1.out.size) 
              have HW8 := Lib.hid (hw7.setCell (p := ⟨g, pre.length * 4 + 3, none⟩) HGW.out (.slice (some ⟨g7, 0, none⟩) (y.2.2.length + 1) c7)) 
              clear b3 hw7 hcu6 
              go_upto_region 17 with (fail) 
              obtain ⟨c0, c1⟩ := HCC.out _ HW8.out 
              go_wp2 
              go_roundw 
              case rel => exact ⟨n + 1, pus ++ [.slice (some ⟨g7, 0, none⟩) (y.2.2.length + 1) c7], HLT.out, by go_num, by rw [HST.out, HE.out]; simp, by rw [HST.out, HE.out]; exact Lib.hid (HI8.out).anyAt, HW8⟩ 
              case measure => simp [intOf]; have := HLT.out; omega
        · have d1 : decide (k ≠ 1 ∧ k ≠ 2) = true := decide_eq_true ⟨hk1, hk2⟩
          have d2 : (k == 2) = false := beq_eq_false_iff_ne.2 hk2
          have HE : Hid (itStep (lead, out, at1) (k, s) = (lead, out ++ [((k, s), at1, [])], at1 + s.size)) := Lib.hid (by simp [itStep, hk1, hk2])
          clear hk1 hk2
          go_upto_region 8 with (go_at_call 44; refine (Pc.out _ _ _).mono ?_; rintro e w1 ⟨rfl, hb⟩; have HW1 := Lib.hid (HW.out.trans (hb.mono HW.out.size)); obtain ⟨c0, c1⟩ := HCC.out w1 HW1.out; have HI1 := Lib.hid (HI.out.keeps (Keeps.of_below' (O := fun _ => False) hb) (fun _ _ e => e) (fun _ _ e => e) (fun _ _ _ _ _ e => e)); have HZ1 := Lib.hid (Nat.le_trans HW.out.size hb.size); clear hb)
          have al := (Below.refl w1.heap.size w1).alloc (Nat.le_refl _) (.cells #[.int .i64 k, .string s, .int .i64 (at1 : Int), .slice none 0 0] 41)
          have HN1 := Lib.hid (World.alloc_heap_new w1 (.cells #[.int .i64 k, .string s, .int .i64 (at1 : Int), .slice none 0 0] 41))
          have HR1 := Lib.hid (ownsRow_keeps HI1.out.row (Keeps.of_below' (O := fun _ => False) al) (fun _ _ e => e))
          have HIA := Lib.hid (HI1.out.keeps (Keeps.of_below' (O := fun _ => False) al) (fun _ _ e => e) (fun _ _ e => e) (fun _ _ _ _ _ e => e))
          have HAL := Lib.hid (HW1.out.trans (al.mono HW1.out.size))
          have HZA := Lib.hid (show (w1.alloc (.cells #[.int .i64 k, .string s, .int .i64 (at1 : Int), .slice none 0 0] 41)).heap.size = w1.heap.size + 1 by simp)
          clear al
          go_upto_region 9 with (at_builtin; go_loud (refine wpList_append_O _ rfl _ _ 37 rfl w.heap.size 41 i0 _ 4 56 items_und hi hz0 hz1 hz2 rfl (by decide) _ out.length _ rfl HR1.out ⟨w1.heap.size, 0, none⟩ 1 1 [.int .i64 k, .string s, .int .i64 (at1 : Int), .slice none 0 0] rfl rfl (by intro j u hu; match j, hu with | 0, hu => simp at hu; subst hu; exact cell_of_block HN1.out rfl | 1, hu => simp at hu; subst hu; exact cell_of_block HN1.out rfl | 2, hu => simp at hu; subst hu; exact cell_of_block HN1.out rfl | 3, hu => simp at hu; subst hu; exact cell_of_block HN1.out rfl | j + 4, hu => simp at hu) (by intro u hu; simp at hu; rcases hu with rfl | rfl | rfl | rfl <;> rfl) (by simp only [maxLen]; omega) (by omega) (by have := HZA.out; have := HZ1.out; omega) ?_; intro v' w3 hown hkeep hblk _; have HI3 := Lib.hid (HIA.out.put (by decide) (t := (k, s)) hown hkeep (at2 := at1 + s.size)); have HW3 := Lib.hid (HAL.out.trans (hkeep.below HAL.out.size (fun b hb => (HR1.out.lt b hb.symm).1))); obtain ⟨p3, c3, rfl, -⟩ := row_shp hown; clear hown hkeep hblk))
          obtain ⟨c0, c1⟩ := HCC.out w3 HW3.out
          go_wp2
          go_roundw 
          case rel => exact ⟨n + 1, us ++ [.slice none 0 0], HLT.out, by go_num, by rw [HST.out, HE.out]; simp, by rw [HST.out, HE.out]; exact Lib.hid (HI3.out).anyAt, HW3⟩ 
          case measure => simp [intOf]; have := HLT.out; omega
    · obtain rfl : n = xs.length := by omega
      have hi := HI.out
      have ea : itemsS (xs.take xs.length) = itemsS xs := by rw [List.take_length]
      have HEA := Lib.hid ea
      generalize itemsS (xs.take xs.length) = st at *
      have HII := Lib.hid HI.out
      clear hi ea
      go_wp2
      refine bodyPost_ret (v := .tuple #[.slice pl st.1.length cl, .slice po st.2.1.length co]) (by simp [results, Tryz.results31, go_sem]) rfl ⟨_, _, us, rfl, ?_, HW.out⟩
      rw [← HEA.out]
      exact HII.out
end Go.Proofs.YtiinhkfbgecbjaaGreatDoor
namespace Go.Proofs.YtiinhkfbgecbjaaGreatDoor
set_option linter.unusedSimpArgs false
set_option linter.unusedVariables false
open Go.RowKit Go.Sub

theorem rtokens_told (s : ByteArray) (w : World) (hs : s.size ≤ 1000000) :
    Calls Tryz.prog 9 #[.string s] w fun e w' => ∃ p c, e = .returned (.tuple #[.slice p ((tokensN s).1.map (tokB s.data.toList)).length c, .int .i64 ((tokensN s).2.1 : Int), .int .i64 (tokensN s).2.2]) ∧ TokRow w' (.slice p ((tokensN s).1.map (tokB s.data.toList)).length c) ((tokensN s).1.map (tokB s.data.toList)) ∧ Below w.heap.size w w' := by
  refine (rtokens_calls s w (by omega)).mono ?_
  rintro e w' ⟨v, rfl, hr, hb⟩
  have ht := tokRow_own hr (by have := (tokensN_facts s).2; omega)
  obtain ⟨p, c, e, h1⟩ := ht
  subst e
  exact ⟨p, c, rfl, ⟨p, c, rfl, h1⟩, hb⟩
set_option maxRecDepth 100000 in
set_option maxHeartbeats 4000000 in
theorem rtight_calls (a b : TokB) (w : World) (hs : a.2.size + b.2.size ≤ 1000000) :
    Calls Tryz.prog 30 #[.agg #[.int .i64 a.1, .string a.2], .agg #[.int .i64 b.1, .string b.2]] w fun e w' => e = .returned (.bool (tightB a b)) ∧ Below w.heap.size w w' := by
  obtain ⟨ka, sa⟩ := a
  obtain ⟨kb, sb⟩ := b
  obtain ⟨tt, hb0⟩ := two_new w (ka, sa) (kb, sb)
  have TT := Lib.hid tt
  have HB := Lib.hid hb0
  obtain ⟨x0, x1, x2, x3⟩ := tt
  dsimp only at x0 x1 x2 x3 hs
  have Pc := Lib.hid rplain_calls
  have Tc := Lib.hid rtext_of_calls
  clear hb0
  by_cases h1 : ka ≠ 1 ∧ ka ≠ 2
  · by_cases h2 : kb ≠ 1 ∧ kb ≠ 2
    · have d1 : decide (ka ≠ 1 ∧ ka ≠ 2) = true := decide_eq_true h1
      have d2 : decide (kb ≠ 1 ∧ kb ≠ 2) = true := decide_eq_true h2
      have n0 : ¬ (ka = 1 ∨ ka = 2 ∨ kb = 1 ∨ kb = 2) := by omega
      by_cases hB : ka = 6 ∧ (kb = 6 ∨ kb = 3)
      · rw [show tightB (ka, sa) (kb, sb) = false by unfold tightB; rw [if_neg n0, if_pos hB]]
        clear n0
        obtain ⟨rfl, rfl | rfl⟩ := hB
        · go_enter Tryz.func30, Tryz.ntmps30 
          go_wp2_with (first 
            | (go_at_call 44; refine (Pc.out _ _ _).mono ?_; rintro e w1 ⟨rfl, hb⟩; have TT := Lib.hid (TT.out.below hb); have HB := Lib.hid (HB.out.trans (hb.mono HB.out.size)); obtain ⟨x0, x1, x2, x3⟩ := TT.out; dsimp only at x0 x1 x2 x3; clear hb) 
              | (go_at_call 45; refine (Tc.out _ _ _).mono ?_; rintro e w1 ⟨rfl, hb⟩; have TT := Lib.hid (TT.out.below hb); have HB := Lib.hid (HB.out.trans (hb.mono HB.out.size)); obtain ⟨x0, x1, x2, x3⟩ := TT.out; dsimp only at x0 x1 x2 x3; clear hb)) 
          go_ret 
          exact ⟨rfl, HB.out⟩
        · go_enter Tryz.func30, Tryz.ntmps30 
          go_wp2_with (first 
            | (go_at_call 44; refine (Pc.out _ _ _).mono ?_; rintro e w1 ⟨rfl, hb⟩; have TT := Lib.hid (TT.out.below hb); have HB := Lib.hid (HB.out.trans (hb.mono HB.out.size)); obtain ⟨x0, x1, x2, x3⟩ := TT.out; dsimp only at x0 x1 x2 x3; clear hb) 
              | (go_at_call 45; refine (Tc.out _ _ _).mono ?_; rintro e w1 ⟨rfl, hb⟩; have TT := Lib.hid (TT.out.below hb); have HB := Lib.hid (HB.out.trans (hb.mono HB.out.size)); obtain ⟨x0, x1, x2, x3⟩ := TT.out; dsimp only at x0 x1 x2 x3; clear hb)) 
          go_ret 
          exact ⟨rfl, HB.out⟩
      · by_cases hC : ka = 13 ∧ kb = 13 ∧ sa = colonB ∧ sb = colonB
        · rw [show tightB (ka, sa) (kb, sb) = false by unfold tightB; rw [if_neg n0, if_neg hB, if_pos ⟨by rw [hC.1, hC.2.1, hC.2.2.1, hC.2.2.2], hC.1, hC.2.2.1⟩]]
          clear n0 hB
          obtain ⟨rfl, rfl, rfl, rfl⟩ := hC
          unfold colonB at *
          go_enter Tryz.func30, Tryz.ntmps30 
          go_wp2_with (first 
            | (go_at_call 44; refine (Pc.out _ _ _).mono ?_; rintro e w1 ⟨rfl, hb⟩; have TT := Lib.hid (TT.out.below hb); have HB := Lib.hid (HB.out.trans (hb.mono HB.out.size)); obtain ⟨x0, x1, x2, x3⟩ := TT.out; dsimp only at x0 x1 x2 x3; clear hb) 
              | (go_at_call 45; refine (Tc.out _ _ _).mono ?_; rintro e w1 ⟨rfl, hb⟩; have TT := Lib.hid (TT.out.below hb); have HB := Lib.hid (HB.out.trans (hb.mono HB.out.size)); obtain ⟨x0, x1, x2, x3⟩ := TT.out; dsimp only at x0 x1 x2 x3; clear hb)) 
          go_ret 
          exact ⟨rfl, HB.out⟩
        · have nC : ¬ ((ka, sa) = (kb, sb) ∧ ka = 13 ∧ sa = colonB) := fun e => hC ⟨e.2.1, (congrArg Prod.fst e.1).symm.trans e.2.1, e.2.2, (show sa = sb from congrArg Prod.snd e.1).symm.trans e.2.2⟩
          have hX : (ka = 6 ∧ kb ≠ 6 ∧ kb ≠ 3) ∨ (ka ≠ 6 ∧ ka ≠ 13) ∨ (ka ≠ 6 ∧ ka = 13 ∧ kb ≠ 13) ∨ (ka ≠ 6 ∧ ka = 13 ∧ kb = 13 ∧ sa ≠ colonB) ∨ (ka ≠ 6 ∧ ka = 13 ∧ kb = 13 ∧ sa = colonB ∧ sb ≠ colonB) := by
            by_cases e1 : ka = 6
            · exact .inl ⟨e1, by omega, by omega⟩
            · by_cases e2 : ka = 13
              · by_cases e3 : kb = 13
                · by_cases e4 : sa = colonB
                  · exact .inr (.inr (.inr (.inr ⟨e1, e2, e3, e4, fun e5 => hC ⟨e2, e3, e4, e5⟩⟩)))
                  · exact .inr (.inr (.inr (.inl ⟨e1, e2, e3, e4⟩)))
                · exact .inr (.inr (.inl ⟨e1, e2, e3⟩))
              · exact .inr (.inl ⟨e1, e2⟩)
          obtain ⟨T, hT⟩ : ∃ T, T = tightB (ka, sa) (kb, sb) := ⟨_, rfl⟩
          have hT2 := hT
          unfold tightB at hT2
          rw [if_neg n0, if_neg hB, if_neg nC] at hT2
          rw [← hT]
          have HT := Lib.hid hT2
          have HX := Lib.hid hX
          clear hT hT2 n0 hB nC hX hC h1 h2
          by_cases hta : 7 ≤ ka ∧ ka ≤ 11
          · have d3 : decide (7 ≤ ka ∧ ka ≤ 11) = true := decide_eq_true hta
            obtain rfl : T = true := by rw [HT.out, if_pos (.inl hta)]
            have e1 : (ka == 6) = false := beq_eq_false_iff_ne.2 (by omega)
            have e2 : (ka == 13) = false := beq_eq_false_iff_ne.2 (by omega)
            clear HT hta HX
            go_enter Tryz.func30, Tryz.ntmps30 
            go_wp2_with (first 
              | (go_at_call 44; refine (Pc.out _ _ _).mono ?_; rintro e w1 ⟨rfl, hb⟩; have TT := Lib.hid (TT.out.below hb); have HB := Lib.hid (HB.out.trans (hb.mono HB.out.size)); obtain ⟨x0, x1, x2, x3⟩ := TT.out; dsimp only at x0 x1 x2 x3; clear hb) 
                | (go_at_call 45; refine (Tc.out _ _ _).mono ?_; rintro e w1 ⟨rfl, hb⟩; have TT := Lib.hid (TT.out.below hb); have HB := Lib.hid (HB.out.trans (hb.mono HB.out.size)); obtain ⟨x0, x1, x2, x3⟩ := TT.out; dsimp only at x0 x1 x2 x3; clear hb)) 
            go_ret 
            exact ⟨rfl, HB.out⟩
          · by_cases htb : 7 ≤ kb ∧ kb ≤ 11
            · have d3 : decide (7 ≤ ka ∧ ka ≤ 11) = false := decide_eq_false hta
              have d4 : decide (7 ≤ kb ∧ kb ≤ 11) = true := decide_eq_true htb
              obtain rfl : T = true := by rw [HT.out, if_pos (.inr htb)]
              have e1 : (kb == 6) = false := beq_eq_false_iff_ne.2 (by omega)
              have e2 : (kb == 3) = false := beq_eq_false_iff_ne.2 (by omega)
              have e3 : (kb == 13) = false := beq_eq_false_iff_ne.2 (by omega)
              clear HT htb HX
              by_cases h6 : ka = 6
              · subst h6
                clear hta
                go_enter Tryz.func30, Tryz.ntmps30 
                go_wp2_with (first 
                  | (go_at_call 44; refine (Pc.out _ _ _).mono ?_; rintro e w1 ⟨rfl, hb⟩; have TT := Lib.hid (TT.out.below hb); have HB := Lib.hid (HB.out.trans (hb.mono HB.out.size)); obtain ⟨x0, x1, x2, x3⟩ := TT.out; dsimp only at x0 x1 x2 x3; clear hb) 
                    | (go_at_call 45; refine (Tc.out _ _ _).mono ?_; rintro e w1 ⟨rfl, hb⟩; have TT := Lib.hid (TT.out.below hb); have HB := Lib.hid (HB.out.trans (hb.mono HB.out.size)); obtain ⟨x0, x1, x2, x3⟩ := TT.out; dsimp only at x0 x1 x2 x3; clear hb)) 
                go_ret 
                exact ⟨rfl, HB.out⟩
              · have e4 : (ka == 6) = false := beq_eq_false_iff_ne.2 h6
                by_cases h13 : ka = 13
                · subst h13
                  clear hta h6
                  go_enter Tryz.func30, Tryz.ntmps30 
                  go_wp2_with (first 
                    | (go_at_call 44; refine (Pc.out _ _ _).mono ?_; rintro e w1 ⟨rfl, hb⟩; have TT := Lib.hid (TT.out.below hb); have HB := Lib.hid (HB.out.trans (hb.mono HB.out.size)); obtain ⟨x0, x1, x2, x3⟩ := TT.out; dsimp only at x0 x1 x2 x3; clear hb) 
                      | (go_at_call 45; refine (Tc.out _ _ _).mono ?_; rintro e w1 ⟨rfl, hb⟩; have TT := Lib.hid (TT.out.below hb); have HB := Lib.hid (HB.out.trans (hb.mono HB.out.size)); obtain ⟨x0, x1, x2, x3⟩ := TT.out; dsimp only at x0 x1 x2 x3; clear hb)) 
                  go_ret 
                  exact ⟨rfl, HB.out⟩
                · have e5 : (ka == 13) = false := beq_eq_false_iff_ne.2 h13
                  clear hta h6 h13
                  go_enter Tryz.func30, Tryz.ntmps30 
                  go_wp2_with (first 
                    | (go_at_call 44; refine (Pc.out _ _ _).mono ?_; rintro e w1 ⟨rfl, hb⟩; have TT := Lib.hid (TT.out.below hb); have HB := Lib.hid (HB.out.trans (hb.mono HB.out.size)); obtain ⟨x0, x1, x2, x3⟩ := TT.out; dsimp only at x0 x1 x2 x3; clear hb) 
                      | (go_at_call 45; refine (Tc.out _ _ _).mono ?_; rintro e w1 ⟨rfl, hb⟩; have TT := Lib.hid (TT.out.below hb); have HB := Lib.hid (HB.out.trans (hb.mono HB.out.size)); obtain ⟨x0, x1, x2, x3⟩ := TT.out; dsimp only at x0 x1 x2 x3; clear hb)) 
                  go_ret 
                  exact ⟨rfl, HB.out⟩
            · have d3 : decide (7 ≤ ka ∧ ka ≤ 11) = false := decide_eq_false hta
              have d4 : decide (7 ≤ kb ∧ kb ≤ 11) = false := decide_eq_false htb
              have hT2 : T = (decide ((tokensN (sa ++ sb)).2.1 = 0) && decide ((tokensN (sa ++ sb)).1.map (tokB (sa ++ sb).data.toList) = [(ka, sa), (kb, sb)])) := by rw [HT.out, if_neg (fun h => by rcases h with h | h; exact hta h; exact htb h)]
              have hcat : (sa ++ sb).size ≤ 1000000 := by rw [ByteArray.size_append]; exact hs
              have HTok := Lib.hid (fun W => rtokens_told (sa ++ sb) W hcat)
              clear HT hta htb hcat
              obtain ⟨er, her⟩ : ∃ er, er = (tokensN (sa ++ sb)).2.1 := ⟨_, rfl⟩
              obtain ⟨zs, hzs⟩ : ∃ zs, zs = (tokensN (sa ++ sb)).1.map (tokB (sa ++ sb).data.toList) := ⟨_, rfl⟩
              obtain ⟨pa, hpa⟩ : ∃ pa, pa = (tokensN (sa ++ sb)).2.2 := ⟨_, rfl⟩
              rw [← her, ← hzs] at hT2
              have HTok : Hid (∀ W, Calls Tryz.prog 9 #[.string (sa ++ sb)] W fun e w' => ∃ p c, e = .returned (.tuple #[.slice p zs.length c, .int .i64 (er : Int), .int .i64 pa]) ∧ TokRow w' (.slice p zs.length c) zs ∧ Below W.heap.size W w') := Lib.hid (by rw [her, hzs, hpa]; exact HTok.out)
              have HEq := Lib.hid (fun v1 W (h1 : TokRow W v1 zs) v2 (h2 : TokRow W v2 [(ka, sa), (kb, sb)]) => same_calls v1 v2 zs [(ka, sa), (kb, sb)] W h1 h2)
              clear her hzs hpa
              by_cases h0 : er = 0
              · subst h0
                have HT := Lib.hid hT2
                clear hT2
                rcases HX.out with ⟨rfl, h1, h2⟩ | ⟨h6, h⟩ | ⟨h6, rfl, h⟩ | ⟨h6, rfl, rfl, h⟩ | ⟨h6, rfl, rfl, rfl, h⟩ 
                · have e1 : (kb == 6) = false := beq_eq_false_iff_ne.2 h1 
                  have e2 : (kb == 3) = false := beq_eq_false_iff_ne.2 h2 
                  clear h1 h2 HX 
                  go_enter Tryz.func30, Tryz.ntmps30 
                  go_wp2_with (first 
                    | (go_at_call 44; refine (Pc.out _ _ _).mono ?_; rintro e w1 ⟨rfl, hb⟩; have TT := Lib.hid (TT.out.below hb); have HB := Lib.hid (HB.out.trans (hb.mono HB.out.size)); obtain ⟨x0, x1, x2, x3⟩ := TT.out; dsimp only at x0 x1 x2 x3; clear hb) 
                      | (go_at_call 45; refine (Tc.out _ _ _).mono ?_; rintro e w1 ⟨rfl, hb⟩; have TT := Lib.hid (TT.out.below hb); have HB := Lib.hid (HB.out.trans (hb.mono HB.out.size)); obtain ⟨x0, x1, x2, x3⟩ := TT.out; dsimp only at x0 x1 x2 x3; clear hb) 
                    | (go_at_call 9; refine (HTok.out _).mono ?_; rintro e w1 ⟨pt, ct, rfl, hr, hb⟩; have TT := Lib.hid (TT.out.below hb); have HB := Lib.hid (HB.out.trans (hb.mono HB.out.size)); obtain ⟨x0, x1, x2, x3⟩ := TT.out; dsimp only at x0 x1 x2 x3; clear hb; have HR := Lib.hid hr; clear hr) 
                    | (go_at_call 46; refine (HEq.out _ _ (HR.out.below ((Below.refl _ _).alloc (Nat.le_refl _) _)) _ (pair_row _ _ _)).mono ?_; rintro e w5 ⟨rfl, hb5⟩; have HB5 := Lib.hid ((HB.out.alloc HB.out.size _).trans (hb5.mono (by have := HB.out.size; simp; omega))); clear hb5)) 
                  go_ret 
                  exact ⟨by rw [HT.out]; simp, HB5.out⟩ 
                · have e1 : (ka == 6) = false := beq_eq_false_iff_ne.2 h6 
                  have e2 : (ka == 13) = false := beq_eq_false_iff_ne.2 h 
                  clear h h6 HX 
                  go_enter Tryz.func30, Tryz.ntmps30 
                  go_wp2_with (first 
                    | (go_at_call 44; refine (Pc.out _ _ _).mono ?_; rintro e w1 ⟨rfl, hb⟩; have TT := Lib.hid (TT.out.below hb); have HB := Lib.hid (HB.out.trans (hb.mono HB.out.size)); obtain ⟨x0, x1, x2, x3⟩ := TT.out; dsimp only at x0 x1 x2 x3; clear hb) 
                      | (go_at_call 45; refine (Tc.out _ _ _).mono ?_; rintro e w1 ⟨rfl, hb⟩; have TT := Lib.hid (TT.out.below hb); have HB := Lib.hid (HB.out.trans (hb.mono HB.out.size)); obtain ⟨x0, x1, x2, x3⟩ := TT.out; dsimp only at x0 x1 x2 x3; clear hb) 
                    | (go_at_call 9; refine (HTok.out _).mono ?_; rintro e w1 ⟨pt, ct, rfl, hr, hb⟩; have TT := Lib.hid (TT.out.below hb); have HB := Lib.hid (HB.out.trans (hb.mono HB.out.size)); obtain ⟨x0, x1, x2, x3⟩ := TT.out; dsimp only at x0 x1 x2 x3; clear hb; have HR := Lib.hid hr; clear hr) 
                    | (go_at_call 46; refine (HEq.out _ _ (HR.out.below ((Below.refl _ _).alloc (Nat.le_refl _) _)) _ (pair_row _ _ _)).mono ?_; rintro e w5 ⟨rfl, hb5⟩; have HB5 := Lib.hid ((HB.out.alloc HB.out.size _).trans (hb5.mono (by have := HB.out.size; simp; omega))); clear hb5)) 
                  go_ret 
                  exact ⟨by rw [HT.out]; simp, HB5.out⟩ 
                · have e1 : (kb == 13) = false := beq_eq_false_iff_ne.2 h 
                  clear h h6 HX 
                  go_enter Tryz.func30, Tryz.ntmps30 
                  go_wp2_with (first 
                    | (go_at_call 44; refine (Pc.out _ _ _).mono ?_; rintro e w1 ⟨rfl, hb⟩; have TT := Lib.hid (TT.out.below hb); have HB := Lib.hid (HB.out.trans (hb.mono HB.out.size)); obtain ⟨x0, x1, x2, x3⟩ := TT.out; dsimp only at x0 x1 x2 x3; clear hb) 
                      | (go_at_call 45; refine (Tc.out _ _ _).mono ?_; rintro e w1 ⟨rfl, hb⟩; have TT := Lib.hid (TT.out.below hb); have HB := Lib.hid (HB.out.trans (hb.mono HB.out.size)); obtain ⟨x0, x1, x2, x3⟩ := TT.out; dsimp only at x0 x1 x2 x3; clear hb) 
                    | (go_at_call 9; refine (HTok.out _).mono ?_; rintro e w1 ⟨pt, ct, rfl, hr, hb⟩; have TT := Lib.hid (TT.out.below hb); have HB := Lib.hid (HB.out.trans (hb.mono HB.out.size)); obtain ⟨x0, x1, x2, x3⟩ := TT.out; dsimp only at x0 x1 x2 x3; clear hb; have HR := Lib.hid hr; clear hr) 
                    | (go_at_call 46; refine (HEq.out _ _ (HR.out.below ((Below.refl _ _).alloc (Nat.le_refl _) _)) _ (pair_row _ _ _)).mono ?_; rintro e w5 ⟨rfl, hb5⟩; have HB5 := Lib.hid ((HB.out.alloc HB.out.size _).trans (hb5.mono (by have := HB.out.size; simp; omega))); clear hb5)) 
                  go_ret 
                  exact ⟨by rw [HT.out]; simp, HB5.out⟩ 
                · have e1 : (sa.toList == [58]) = false := beq_eq_false_iff_ne.2 (fun e => h (bytes_same (b := ⟨#[58]⟩) (e.trans (by rw [ByteArray.toList_eq])))) 
                  clear h h6 HX 
                  go_enter Tryz.func30, Tryz.ntmps30 
                  go_wp2_with (first 
                    | (go_at_call 44; refine (Pc.out _ _ _).mono ?_; rintro e w1 ⟨rfl, hb⟩; have TT := Lib.hid (TT.out.below hb); have HB := Lib.hid (HB.out.trans (hb.mono HB.out.size)); obtain ⟨x0, x1, x2, x3⟩ := TT.out; dsimp only at x0 x1 x2 x3; clear hb) 
                      | (go_at_call 45; refine (Tc.out _ _ _).mono ?_; rintro e w1 ⟨rfl, hb⟩; have TT := Lib.hid (TT.out.below hb); have HB := Lib.hid (HB.out.trans (hb.mono HB.out.size)); obtain ⟨x0, x1, x2, x3⟩ := TT.out; dsimp only at x0 x1 x2 x3; clear hb) 
                    | (go_at_call 9; refine (HTok.out _).mono ?_; rintro e w1 ⟨pt, ct, rfl, hr, hb⟩; have TT := Lib.hid (TT.out.below hb); have HB := Lib.hid (HB.out.trans (hb.mono HB.out.size)); obtain ⟨x0, x1, x2, x3⟩ := TT.out; dsimp only at x0 x1 x2 x3; clear hb; have HR := Lib.hid hr; clear hr) 
                    | (go_at_call 46; refine (HEq.out _ _ (HR.out.below ((Below.refl _ _).alloc (Nat.le_refl _) _)) _ (pair_row _ _ _)).mono ?_; rintro e w5 ⟨rfl, hb5⟩; have HB5 := Lib.hid ((HB.out.alloc HB.out.size _).trans (hb5.mono (by have := HB.out.size; simp; omega))); clear hb5)) 
                  go_ret 
                  exact ⟨by rw [HT.out]; simp, HB5.out⟩ 
                · have e1 : (sb.toList == [58]) = false := beq_eq_false_iff_ne.2 (fun e => h (bytes_same (b := ⟨#[58]⟩) (e.trans (by rw [ByteArray.toList_eq])))) 
                  unfold colonB at * 
                  clear h h6 HX 
                  go_enter Tryz.func30, Tryz.ntmps30 
                  go_wp2_with (first 
                    | (go_at_call 44; refine (Pc.out _ _ _).mono ?_; rintro e w1 ⟨rfl, hb⟩; have TT := Lib.hid (TT.out.below hb); have HB := Lib.hid (HB.out.trans (hb.mono HB.out.size)); obtain ⟨x0, x1, x2, x3⟩ := TT.out; dsimp only at x0 x1 x2 x3; clear hb) 
                      | (go_at_call 45; refine (Tc.out _ _ _).mono ?_; rintro e w1 ⟨rfl, hb⟩; have TT := Lib.hid (TT.out.below hb); have HB := Lib.hid (HB.out.trans (hb.mono HB.out.size)); obtain ⟨x0, x1, x2, x3⟩ := TT.out; dsimp only at x0 x1 x2 x3; clear hb) 
                    | (go_at_call 9; refine (HTok.out _).mono ?_; rintro e w1 ⟨pt, ct, rfl, hr, hb⟩; have TT := Lib.hid (TT.out.below hb); have HB := Lib.hid (HB.out.trans (hb.mono HB.out.size)); obtain ⟨x0, x1, x2, x3⟩ := TT.out; dsimp only at x0 x1 x2 x3; clear hb; have HR := Lib.hid hr; clear hr) 
                    | (go_at_call 46; refine (HEq.out _ _ (HR.out.below ((Below.refl _ _).alloc (Nat.le_refl _) _)) _ (pair_row _ _ _)).mono ?_; rintro e w5 ⟨rfl, hb5⟩; have HB5 := Lib.hid ((HB.out.alloc HB.out.size _).trans (hb5.mono (by have := HB.out.size; simp; omega))); clear hb5)) 
                  go_ret 
                  exact ⟨by rw [HT.out]; simp, HB5.out⟩
              · obtain rfl : T = false := by rw [hT2, decide_eq_false h0, Bool.false_and]
                have g0 : (((er : Nat) : Int) == 0) = false := by rw [beq_eq_false_iff_ne]; omega
                clear hT2 HEq
                rcases HX.out with ⟨rfl, h1, h2⟩ | ⟨h6, h⟩ | ⟨h6, rfl, h⟩ | ⟨h6, rfl, rfl, h⟩ | ⟨h6, rfl, rfl, rfl, h⟩ 
                · have e1 : (kb == 6) = false := beq_eq_false_iff_ne.2 h1 
                  have e2 : (kb == 3) = false := beq_eq_false_iff_ne.2 h2 
                  clear h1 h2 HX 
                  go_enter Tryz.func30, Tryz.ntmps30 
                  go_wp2_with (first 
                    | (go_at_call 44; refine (Pc.out _ _ _).mono ?_; rintro e w1 ⟨rfl, hb⟩; have TT := Lib.hid (TT.out.below hb); have HB := Lib.hid (HB.out.trans (hb.mono HB.out.size)); obtain ⟨x0, x1, x2, x3⟩ := TT.out; dsimp only at x0 x1 x2 x3; clear hb) 
                      | (go_at_call 45; refine (Tc.out _ _ _).mono ?_; rintro e w1 ⟨rfl, hb⟩; have TT := Lib.hid (TT.out.below hb); have HB := Lib.hid (HB.out.trans (hb.mono HB.out.size)); obtain ⟨x0, x1, x2, x3⟩ := TT.out; dsimp only at x0 x1 x2 x3; clear hb) 
                    | (go_at_call 9; refine (HTok.out _).mono ?_; rintro e w1 ⟨pt, ct, rfl, hr, hb⟩; have TT := Lib.hid (TT.out.below hb); have HB := Lib.hid (HB.out.trans (hb.mono HB.out.size)); obtain ⟨x0, x1, x2, x3⟩ := TT.out; dsimp only at x0 x1 x2 x3; clear hb; clear hr)) 
                  go_ret 
                  exact ⟨rfl, by first | exact HB.out | exact HB.out.alloc HB.out.size _⟩ 
                · have e1 : (ka == 6) = false := beq_eq_false_iff_ne.2 h6 
                  have e2 : (ka == 13) = false := beq_eq_false_iff_ne.2 h 
                  clear h h6 HX 
                  go_enter Tryz.func30, Tryz.ntmps30 
                  go_wp2_with (first 
                    | (go_at_call 44; refine (Pc.out _ _ _).mono ?_; rintro e w1 ⟨rfl, hb⟩; have TT := Lib.hid (TT.out.below hb); have HB := Lib.hid (HB.out.trans (hb.mono HB.out.size)); obtain ⟨x0, x1, x2, x3⟩ := TT.out; dsimp only at x0 x1 x2 x3; clear hb) 
                      | (go_at_call 45; refine (Tc.out _ _ _).mono ?_; rintro e w1 ⟨rfl, hb⟩; have TT := Lib.hid (TT.out.below hb); have HB := Lib.hid (HB.out.trans (hb.mono HB.out.size)); obtain ⟨x0, x1, x2, x3⟩ := TT.out; dsimp only at x0 x1 x2 x3; clear hb) 
                    | (go_at_call 9; refine (HTok.out _).mono ?_; rintro e w1 ⟨pt, ct, rfl, hr, hb⟩; have TT := Lib.hid (TT.out.below hb); have HB := Lib.hid (HB.out.trans (hb.mono HB.out.size)); obtain ⟨x0, x1, x2, x3⟩ := TT.out; dsimp only at x0 x1 x2 x3; clear hb; clear hr)) 
                  go_ret 
                  exact ⟨rfl, by first | exact HB.out | exact HB.out.alloc HB.out.size _⟩ 
                · have e1 : (kb == 13) = false := beq_eq_false_iff_ne.2 h 
                  clear h h6 HX 
                  go_enter Tryz.func30, Tryz.ntmps30 
                  go_wp2_with (first 
                    | (go_at_call 44; refine (Pc.out _ _ _).mono ?_; rintro e w1 ⟨rfl, hb⟩; have TT := Lib.hid (TT.out.below hb); have HB := Lib.hid (HB.out.trans (hb.mono HB.out.size)); obtain ⟨x0, x1, x2, x3⟩ := TT.out; dsimp only at x0 x1 x2 x3; clear hb) 
                      | (go_at_call 45; refine (Tc.out _ _ _).mono ?_; rintro e w1 ⟨rfl, hb⟩; have TT := Lib.hid (TT.out.below hb); have HB := Lib.hid (HB.out.trans (hb.mono HB.out.size)); obtain ⟨x0, x1, x2, x3⟩ := TT.out; dsimp only at x0 x1 x2 x3; clear hb) 
                    | (go_at_call 9; refine (HTok.out _).mono ?_; rintro e w1 ⟨pt, ct, rfl, hr, hb⟩; have TT := Lib.hid (TT.out.below hb); have HB := Lib.hid (HB.out.trans (hb.mono HB.out.size)); obtain ⟨x0, x1, x2, x3⟩ := TT.out; dsimp only at x0 x1 x2 x3; clear hb; clear hr)) 
                  go_ret 
                  exact ⟨rfl, by first | exact HB.out | exact HB.out.alloc HB.out.size _⟩ 
                · have e1 : (sa.toList == [58]) = false := beq_eq_false_iff_ne.2 (fun e => h (bytes_same (b := ⟨#[58]⟩) (e.trans (by rw [ByteArray.toList_eq])))) 
                  clear h h6 HX 
                  go_enter Tryz.func30, Tryz.ntmps30 
                  go_wp2_with (first 
                    | (go_at_call 44; refine (Pc.out _ _ _).mono ?_; rintro e w1 ⟨rfl, hb⟩; have TT := Lib.hid (TT.out.below hb); have HB := Lib.hid (HB.out.trans (hb.mono HB.out.size)); obtain ⟨x0, x1, x2, x3⟩ := TT.out; dsimp only at x0 x1 x2 x3; clear hb) 
                      | (go_at_call 45; refine (Tc.out _ _ _).mono ?_; rintro e w1 ⟨rfl, hb⟩; have TT := Lib.hid (TT.out.below hb); have HB := Lib.hid (HB.out.trans (hb.mono HB.out.size)); obtain ⟨x0, x1, x2, x3⟩ := TT.out; dsimp only at x0 x1 x2 x3; clear hb) 
                    | (go_at_call 9; refine (HTok.out _).mono ?_; rintro e w1 ⟨pt, ct, rfl, hr, hb⟩; have TT := Lib.hid (TT.out.below hb); have HB := Lib.hid (HB.out.trans (hb.mono HB.out.size)); obtain ⟨x0, x1, x2, x3⟩ := TT.out; dsimp only at x0 x1 x2 x3; clear hb; clear hr)) 
                  go_ret 
                  exact ⟨rfl, by first | exact HB.out | exact HB.out.alloc HB.out.size _⟩ 
                · have e1 : (sb.toList == [58]) = false := beq_eq_false_iff_ne.2 (fun e => h (bytes_same (b := ⟨#[58]⟩) (e.trans (by rw [ByteArray.toList_eq])))) 
                  unfold colonB at * 
                  clear h h6 HX 
                  go_enter Tryz.func30, Tryz.ntmps30 
                  go_wp2_with (first 
                    | (go_at_call 44; refine (Pc.out _ _ _).mono ?_; rintro e w1 ⟨rfl, hb⟩; have TT := Lib.hid (TT.out.below hb); have HB := Lib.hid (HB.out.trans (hb.mono HB.out.size)); obtain ⟨x0, x1, x2, x3⟩ := TT.out; dsimp only at x0 x1 x2 x3; clear hb) 
                      | (go_at_call 45; refine (Tc.out _ _ _).mono ?_; rintro e w1 ⟨rfl, hb⟩; have TT := Lib.hid (TT.out.below hb); have HB := Lib.hid (HB.out.trans (hb.mono HB.out.size)); obtain ⟨x0, x1, x2, x3⟩ := TT.out; dsimp only at x0 x1 x2 x3; clear hb) 
                    | (go_at_call 9; refine (HTok.out _).mono ?_; rintro e w1 ⟨pt, ct, rfl, hr, hb⟩; have TT := Lib.hid (TT.out.below hb); have HB := Lib.hid (HB.out.trans (hb.mono HB.out.size)); obtain ⟨x0, x1, x2, x3⟩ := TT.out; dsimp only at x0 x1 x2 x3; clear hb; clear hr)) 
                  go_ret 
                  exact ⟨rfl, by first | exact HB.out | exact HB.out.alloc HB.out.size _⟩
    · rw [show tightB (ka, sa) (kb, sb) = false by unfold tightB; rw [if_pos (by dsimp only; omega)]]
      have d1 : decide (ka ≠ 1 ∧ ka ≠ 2) = true := decide_eq_true h1
      have d2 : decide (kb ≠ 1 ∧ kb ≠ 2) = false := decide_eq_false h2
      go_enter Tryz.func30, Tryz.ntmps30 
      go_wp2_with (first 
        | (go_at_call 44; refine (Pc.out _ _ _).mono ?_; rintro e w1 ⟨rfl, hb⟩; have TT := Lib.hid (TT.out.below hb); have HB := Lib.hid (HB.out.trans (hb.mono HB.out.size)); obtain ⟨x0, x1, x2, x3⟩ := TT.out; dsimp only at x0 x1 x2 x3; clear hb) 
          | (go_at_call 45; refine (Tc.out _ _ _).mono ?_; rintro e w1 ⟨rfl, hb⟩; have TT := Lib.hid (TT.out.below hb); have HB := Lib.hid (HB.out.trans (hb.mono HB.out.size)); obtain ⟨x0, x1, x2, x3⟩ := TT.out; dsimp only at x0 x1 x2 x3; clear hb)) 
      go_ret 
      exact ⟨rfl, HB.out⟩
  · rw [show tightB (ka, sa) (kb, sb) = false by unfold tightB; rw [if_pos (by dsimp only; omega)]]
    have d1 : decide (ka ≠ 1 ∧ ka ≠ 2) = false := decide_eq_false h1
    go_enter Tryz.func30, Tryz.ntmps30 
    go_wp2_with (first 
      | (go_at_call 44; refine (Pc.out _ _ _).mono ?_; rintro e w1 ⟨rfl, hb⟩; have TT := Lib.hid (TT.out.below hb); have HB := Lib.hid (HB.out.trans (hb.mono HB.out.size)); obtain ⟨x0, x1, x2, x3⟩ := TT.out; dsimp only at x0 x1 x2 x3; clear hb) 
        | (go_at_call 45; refine (Tc.out _ _ _).mono ?_; rintro e w1 ⟨rfl, hb⟩; have TT := Lib.hid (TT.out.below hb); have HB := Lib.hid (HB.out.trans (hb.mono HB.out.size)); obtain ⟨x0, x1, x2, x3⟩ := TT.out; dsimp only at x0 x1 x2 x3; clear hb)) 
    go_ret 
    exact ⟨rfl, HB.out⟩
end Go.Proofs.YtiinhkfbgecbjaaGreatDoor
namespace Go.Proofs.YtiinhkfbgecbjaaGreatDoor
set_option linter.unusedSimpArgs false
set_option linter.unusedVariables false
open Go.RowKit Go.Sub

theorem notesL_take {xs : List TokB} {n : Nat} {x : TokB} (h : xs[n]? = some x) : notesL (xs.take (n + 1)) = notesL (xs.take n) ++ (if x.1 = 2 then [x.2] else []) := by
  unfold notesL noteK
  rw [List.take_add_one, h]
  by_cases e : x.1 = 2 <;> simp [e]
theorem notesL_le (xs : List TokB) (n : Nat) : (notesL (xs.take n)).length ≤ xs.length := by
  unfold notesL
  rw [List.length_map]
  exact Nat.le_trans (List.length_filter_le _ _) (by rw [List.length_take]; omega)
set_option maxRecDepth 100000 in
set_option maxHeartbeats 2000000 in
theorem rnotes_calls (v : Value) (xs : List TokB) (w : World) (h : TokRow w v xs) (hs : sumT xs ≤ 1048576) :
    Calls Tryz.prog 33 #[v] w fun e w' => ∃ u, e = .returned u ∧ w'.ownsRow w.heap.size 9 1 u (notesL xs).length (strC (notesL xs)) ∧ Below w.heap.size w w' := by
  have Hh := Lib.hid h
  obtain ⟨pv, cv, rfl, hlv, -⟩ := h
  have hsj := sumT_join xs
  have hlx : xs.length ≤ 1048576 := by omega
  have HNL := Lib.hid (notesL_le xs)
  clear hs hsj
  go_enter Tryz.func33, Tryz.ntmps33
  go_wp2
  go_loopw [3, 4] (fun vo i wr => ∃ n : Nat, n ≤ xs.length ∧ i = .int .i64 n ∧ Hid (wr.ownsRow w.heap.size 9 1 vo (notesL (xs.take n)).length (strC (notesL (xs.take n)))) ∧ Hid (Below w.heap.size w wr)) (fun _ i _ => xs.length - (intOf i).toNat)
  case atStart => exact ⟨0, Nat.zero_le _, rfl, Lib.hid (World.ownsRow_nil _ _ _ _), Lib.hid (Below.refl _ _)⟩
  case round =>
    rename_i vo
    obtain ⟨n, hn, rfl, HR, HW⟩ := hrel
    obtain ⟨po, co, rfl, hco⟩ := row_shp HR.out
    by_cases hlt : n < xs.length
    · have hx := List.getElem?_eq_getElem hlt
      obtain ⟨p', c', e', -, hce⟩ := Hh.out.below HW.out
      cases e'
      obtain ⟨b, o, rfl, c0, c1⟩ := hce n _ hx
      have hst := notesL_take hx
      have hnl := HNL.out n
      have HLT := Lib.hid hlt
      clear hx hce
      generalize xs[n] = x at *
      obtain ⟨k, s⟩ := x
      dsimp only at c0 c1 hst
      by_cases hk2 : k = 2
      · subst hk2
        rw [if_pos rfl] at hst
        have HST := Lib.hid hst
        obtain ⟨i1, hi1, hz10, hz11, hz12⟩ := inf_parts string_info
        have al := (Below.refl wr.heap.size wr).alloc (Nat.le_refl _) (.cells #[.string s] 9)
        have HN1 := Lib.hid (World.alloc_heap_new wr (.cells #[.string s] 9))
        have HL1 := Lib.hid (ownsRow_keeps HR.out (Keeps.of_below' (O := fun _ => False) al) (fun _ _ e => e))
        have HAL := Lib.hid (HW.out.trans (al.mono HW.out.size))
        have HZA := Lib.hid (show (wr.alloc (.cells #[.string s] 9)).heap.size = wr.heap.size + 1 by simp)
        have HZW := Lib.hid HW.out.size
        clear al hst
        generalize notesL (xs.take n) = ns at *
        go_wp2_with (at_builtin; go_loud (refine wpList_append_O _ rfl _ _ 36 rfl w.heap.size 9 i1 _ 1 16 strings_und hi1 hz10 hz11 hz12 rfl (by decide) _ ns.length _ rfl HL1.out ⟨wr.heap.size, 0, none⟩ 1 1 [.string s] rfl rfl (by intro j u hu; match j, hu with | 0, hu => simp at hu; subst hu; exact cell_of_block HN1.out rfl | j + 1, hu => simp at hu) (by intro u hu; simp at hu; subst hu; rfl) (by simp only [maxLen]; omega) (by omega) (by have := HZA.out; have := HZW.out; omega) ?_; intro v' w3 hown hkeep hblk _; have HO3 := Lib.hid hown; have HW3 := Lib.hid (HAL.out.trans (hkeep.below HAL.out.size (fun b hb => (HL1.out.lt b hb.symm).1))); obtain ⟨p3, c3, rfl, -⟩ := row_shp hown; clear hown hkeep hblk))
        go_roundw
        case rel => exact ⟨n + 1, HLT.out, by go_num, by rw [HST.out]; unfold strC at *; exact Lib.hid (by have h := HO3.out; rw [List.length_append, List.map_append]; exact h), HW3⟩
        case measure => simp [intOf]; have := HLT.out; omega
      · rw [if_neg hk2, List.append_nil] at hst
        have HST := Lib.hid hst
        have d2 : (k == 2) = false := beq_eq_false_iff_ne.2 hk2
        clear hst hk2
        go_wp2
        go_roundw
        case rel => exact ⟨n + 1, HLT.out, by go_num, by rw [HST.out]; exact HR, HW⟩
        case measure => simp [intOf]; have := HLT.out; omega
    · obtain rfl : n = xs.length := by omega
      have ea : notesL (xs.take xs.length) = notesL xs := by rw [List.take_length]
      have HEA := Lib.hid ea
      clear ea
      generalize notesL (xs.take xs.length) = ns at *
      go_wp2
      go_ret
      exact ⟨_, rfl, by rw [← HEA.out]; exact HR.out, HW.out⟩
theorem cat_list (l : List UInt8) (s : ByteArray) : (⟨l.toArray⟩ : ByteArray) ++ s = ⟨(l ++ s.data.toList).toArray⟩ := by
  apply ByteArray.ext
  rw [ByteArray.data_append]
  simp
theorem sz_list (l : List UInt8) : (⟨l.toArray⟩ : ByteArray).size = l.length := by
  show l.toArray.size = _; simp
def LBox (W : World) (B : Nat) (t : TokB) : Prop := W.heap[B]? = some (.cells #[.int .i64 t.1, .string t.2] 29 (0, 0))
theorem grow_two {N B : Nat} {W U : World} (h : N ≤ W.heap.size) (hb : Below W.heap.size W U) (v1 v2 : Value) : N ≤ ((U.setCell ⟨B, 0, none⟩ v1).setCell ⟨B, 1, none⟩ v2).heap.size := by
  have := hb.size
  simp
  omega
theorem LBox.cells {W : World} {B : Nat} {t : TokB} (h : LBox W B t) : W.cell? ⟨B, 0, none⟩ = some (.int .i64 t.1) ∧ W.cell? ⟨B, 1, none⟩ = some (.string t.2) := ⟨cell_of_block h rfl, cell_of_block h rfl⟩
theorem LBox.free {W : World} {B : Nat} {t : TokB} (h : LBox W B t) (o : Nat) : W.frozen? ⟨B, o, none⟩ = false := frozen_of_row W B o _ _ h
theorem LBox.stays {W W' : World} {B : Nat} {t : TokB} (h : LBox W B t) (hb : Below W.heap.size W W') : LBox W' B t := (hb.block B (Array.getElem?_eq_some_iff.1 h).1).trans h
theorem LBox.put {W : World} {B : Nat} {t : TokB} (h : LBox W B t) (x : TokB) : LBox ((W.setCell ⟨B, 0, none⟩ (.int .i64 x.1)).setCell ⟨B, 1, none⟩ (.string x.2)) B x := by
  have h1 : (W.setCell ⟨B, 0, none⟩ (.int .i64 x.1)).heap[B]? = _ := heap_setCell_same W B _ _ _ _ h
  exact heap_setCell_same _ B _ _ _ _ h1
set_option maxRecDepth 100000 in
set_option maxHeartbeats 4000000 in
theorem rline_calls (v : Value) (xs : List TokB) (w : World) (h : TokRow w v xs) (hs : sumI xs ≤ 400000) :
    Calls Tryz.prog 34 #[v] w fun e w' => e = .returned (.string ⟨(lineL xs).toArray⟩) ∧ Below w.heap.size w w' := by
  have Hh := Lib.hid h
  obtain ⟨pv, cv, rfl, hlv, -⟩ := h
  have hlx : xs.length ≤ 400000 := by
    have h1 : ∀ l : List TokB, l.length ≤ sumI l := fun l => by
      induction l with
      | nil => simp
      | cons x r ih => have e : sumI (x :: r) = 1 + x.2.size + sumI r := rfl; rw [List.length_cons]; omega
    have := h1 xs; omega
  have hls : ∀ n, (lineS (xs.take n)).1.length ≤ 400000 := fun n => by
    have h1 := lineS_size (xs.take n) ([], (7, ⟨#[]⟩))
    have h2 := sumI_le xs n
    unfold lineS
    simp only [List.length_nil] at h1; omega
  have hll : ∀ n, (lineS (xs.take n)).2.2.size ≤ 400000 := fun n => by
    rcases lineS_last (xs.take n) ([], (7, ⟨#[]⟩)) with h1 | h1
    · unfold lineS; rw [h1]; exact Nat.zero_le _
    · have h2 := sumI_mem (List.mem_of_mem_take h1)
      unfold lineS
      omega
  have hlm : ∀ x ∈ xs, x.2.size ≤ 400000 := fun x hx => by have := sumI_mem hx; omega
  have HLS := Lib.hid hls
  have HLL := Lib.hid hll
  have HLM := Lib.hid hlm
  have Pc := Lib.hid rplain_calls
  have hb1 : LBox (w.alloc (.cells #[.int .i64 7, .string ⟨#[]⟩] 29)) w.heap.size (7, ⟨#[]⟩) := World.alloc_heap_new w _
  have hal := (Below.refl w.heap.size w).alloc (Nat.le_refl _) (.cells #[.int .i64 7, .string ⟨#[]⟩] 29)
  have HB1 := Lib.hid hb1
  have HAL := Lib.hid hal
  have HZ1 := Lib.hid (show (w.alloc (.cells #[.int .i64 7, .string ⟨#[]⟩] 29)).heap.size = w.heap.size + 1 by simp)
  clear hls hll hlm hs hb1 hal
  go_enter Tryz.func34, Tryz.ntmps34
  go_wp2
  generalize w.alloc (.cells #[.int .i64 7, .string ⟨#[]⟩] 29) = W1 at *
  go_loopw [3, 5] (fun sv i wr => ∃ n : Nat, n ≤ xs.length ∧ i = .int .i64 n ∧ sv = .string ⟨((lineS (xs.take n)).1).toArray⟩ ∧ Hid (LBox wr w.heap.size (lineS (xs.take n)).2) ∧ Hid (Below w.heap.size w wr) ∧ Hid (w.heap.size + 1 ≤ wr.heap.size)) (fun _ i _ => xs.length - (intOf i).toNat)
  case atStart => exact ⟨0, Nat.zero_le _, rfl, rfl, HB1, HAL, Lib.hid (by have := HZ1.out; omega)⟩
  case round =>
    obtain ⟨n, hn, rfl, rfl, HL, HW, HS⟩ := hrel
    have hsz := HLS.out n
    by_cases hlt : n < xs.length
    · have hx := List.getElem?_eq_getElem hlt
      obtain ⟨p', c', e', -, hce⟩ := Hh.out.below HW.out
      cases e'
      obtain ⟨b, o, rfl, c0, c1⟩ := hce n _ hx
      have hst := lineS_take hx
      have hm := HLM.out _ (List.getElem_mem hlt)
      have hlast := HLL.out n
      have HLT := Lib.hid hlt
      clear hx hce
      generalize xs[n] = x at *
      obtain ⟨k, s⟩ := x
      dsimp only at c0 c1 hm
      have hcc : ∀ W, Below w.heap.size w W → W.cell? ⟨b, o + n * 2, none⟩ = some (.int .i64 k) ∧ W.cell? ⟨b, o + n * 2 + 1, none⟩ = some (.string s) := fun W hW => by
        have hb : b < w.heap.size := by
          obtain ⟨p2, c2, e2, -, h2⟩ := Hh.out
          cases e2
          obtain ⟨b2, o2, e3, h3, -⟩ := h2 n _ (List.getElem?_eq_getElem HLT.out)
          cases e3
          exact World.block_lt_of_cell? _ _ h3
        exact ⟨((hW.cell (p := ⟨b, o + n * 2, none⟩) hb).trans (HW.out.cell (p := ⟨b, o + n * 2, none⟩) hb).symm).trans c0, ((hW.cell (p := ⟨b, o + n * 2 + 1, none⟩) hb).trans (HW.out.cell (p := ⟨b, o + n * 2 + 1, none⟩) hb).symm).trans c1⟩
      have HCC := Lib.hid hcc
      clear hcc
      have hsp : ∀ st : LineSt, lineStep st (k, s) = if k = 1 ∨ k = 2 then st else (st.1 ++ (if tightB st.2 (k, s) then [] else [32]) ++ s.data.toList, (k, s)) := fun _ => rfl
      rw [hsp] at hst
      by_cases hk : k = 1 ∨ k = 2
      · rw [if_pos hk] at hst
        have HST := Lib.hid hst
        have d1 : decide (k ≠ 1 ∧ k ≠ 2) = false := decide_eq_false (by omega)
        clear hst hsp hk
        go_wp2_with (go_at_call 44; refine (Pc.out _ _ _).mono ?_; rintro e w1 ⟨rfl, hb⟩; have HW1 := Lib.hid (HW.out.trans (hb.mono HW.out.size)); have HL1 := Lib.hid (HL.out.stays hb); have HS1 := Lib.hid (Nat.le_trans HS.out hb.size); clear hb)
        go_roundw
        case rel => exact ⟨n + 1, HLT.out, by go_num, by rw [HST.out], by rw [HST.out]; exact HL1, HW1, HS1⟩
        case measure => simp [intOf]; have := HLT.out; omega
      · rw [if_neg hk] at hst
        have HST := Lib.hid hst
        have d1 : decide (k ≠ 1 ∧ k ≠ 2) = true := decide_eq_true (by omega)
        clear hst hsp hk
        generalize lineS (xs.take n) = st at *
        obtain ⟨ln, lk, lt⟩ := st
        dsimp only at *
        have hsz2 := sz_list ln
        go_upto_region 7 with (go_at_call 44; refine (Pc.out _ _ _).mono ?_; rintro e w1 ⟨rfl, hb⟩; have HW1 := Lib.hid (HW.out.trans (hb.mono HW.out.size)); have HL1 := Lib.hid (HL.out.stays hb); have HS1 := Lib.hid (Nat.le_trans HS.out hb.size); obtain ⟨c0, c1⟩ := HCC.out w1 HW1.out; clear hb)
        obtain ⟨l0, l1⟩ := HL1.out.cells
        have QT := Lib.hid (fun U => rtight_calls (lk, lt) (k, s) U (by dsimp only; omega))
        have SHOW := Lib.hid (fun U (hU : Below w1.heap.size w1 U) => And.intro (HL1.out.stays hU).cells (And.intro (HCC.out U (HW1.out.trans (hU.mono HW1.out.size))) hU))
        have HBel := Lib.hid (Below.refl w1.heap.size w1)
        generalize hgb : tightB (lk, lt) (k, s) = tb at *
        have QT : Hid (∀ U, Calls Tryz.prog 30 #[.agg #[.int .i64 lk, .string lt], .agg #[.int .i64 k, .string s]] U fun e w' => e = .returned (.bool tb) ∧ Below U.heap.size U w') := QT
        clear hgb
        cases tb with
        | true =>
          have hcs : (⟨ln.toArray⟩ : ByteArray) ++ s = ⟨(ln ++ [] ++ s.data.toList).toArray⟩ := by rw [List.append_nil]; exact cat_list ln s
          have HCS := Lib.hid hcs
          have z1 : (⟨ln.toArray⟩ : ByteArray).size + s.size ≤ 9223372036854775807 := by omega
          clear hcs
          go_region_held3 (fun w' => (w'.cell? ⟨w.heap.size, 0, none⟩ = some (.int .i64 lk) ∧ w'.cell? ⟨w.heap.size, 1, none⟩ = some (.string lt)) ∧ (w'.cell? ⟨b, o + n * 2, none⟩ = some (.int .i64 k) ∧ w'.cell? ⟨b, o + n * 2 + 1, none⟩ = some (.string s)) ∧ Below w1.heap.size w1 w') (first | exact SHOW.out _ HBel.out.drew | assumption | (refine SHOW.out _ ?_; assumption)) 
            (first 
              | (go_at_call 30; with_reducible refine (QT.out _).mono ?_; rintro _ U ⟨rfl, bu⟩; have bb := Below.trans (And.right (And.right (by assumption))) (bu.mono (Below.size (And.right (And.right (by assumption))))); clear bu))
          have hbx : Below w1.heap.size w1 _ := And.right (And.right (by assumption))
          have hL3 := HL1.out.stays hbx 
          obtain ⟨l0, l1⟩ := hL3.cells 
          have f0 := hL3.free 0 
          have f1 := hL3.free 1 
          have HPU := Lib.hid (hL3.put (k, s)) 
          have HWU := Lib.hid (((HW1.out.trans (hbx.mono HW1.out.size)).setCell (p := ⟨w.heap.size, 0, none⟩) (Nat.le_refl _) (.int .i64 k)).setCell (p := ⟨w.heap.size, 1, none⟩) (Nat.le_refl _) (.string s)) 
          have HSU := Lib.hid (grow_two (B := w.heap.size) HS1.out hbx (.int .i64 k) (.string s)) 
          clear hL3 
          go_wp2 
          go_roundw
          case rel => exact ⟨n + 1, HLT.out, by go_num, by rw [HST.out, HCS.out]; simp, by rw [HST.out]; exact HPU, HWU, HSU⟩
          case measure => simp [intOf]; have := HLT.out; omega
        | false =>
          have hcs : (⟨ln.toArray⟩ : ByteArray) ++ (⟨#[32]⟩ : ByteArray) ++ s = ⟨(ln ++ [32] ++ s.data.toList).toArray⟩ := by rw [cat_list, cat_list]
          have HCS := Lib.hid hcs
          have z1 : (⟨ln.toArray⟩ : ByteArray).size + 1 ≤ 9223372036854775807 := by omega
          have z2 : ((⟨ln.toArray⟩ : ByteArray) ++ (⟨#[32]⟩ : ByteArray)).size + s.size ≤ 9223372036854775807 := by rw [ByteArray.size_append]; show _ + 1 + _ ≤ _; omega
          clear hcs
          go_region_held3 (fun w' => (w'.cell? ⟨w.heap.size, 0, none⟩ = some (.int .i64 lk) ∧ w'.cell? ⟨w.heap.size, 1, none⟩ = some (.string lt)) ∧ (w'.cell? ⟨b, o + n * 2, none⟩ = some (.int .i64 k) ∧ w'.cell? ⟨b, o + n * 2 + 1, none⟩ = some (.string s)) ∧ Below w1.heap.size w1 w') (first | exact SHOW.out _ HBel.out.drew | assumption | (refine SHOW.out _ ?_; assumption)) 
            (first 
              | (go_at_call 30; with_reducible refine (QT.out _).mono ?_; rintro _ U ⟨rfl, bu⟩; have bb := Below.trans (And.right (And.right (by assumption))) (bu.mono (Below.size (And.right (And.right (by assumption))))); clear bu))
          have hbx : Below w1.heap.size w1 _ := And.right (And.right (by assumption))
          have hL3 := HL1.out.stays hbx 
          obtain ⟨l0, l1⟩ := hL3.cells 
          have f0 := hL3.free 0 
          have f1 := hL3.free 1 
          have HPU := Lib.hid (hL3.put (k, s)) 
          have HWU := Lib.hid (((HW1.out.trans (hbx.mono HW1.out.size)).setCell (p := ⟨w.heap.size, 0, none⟩) (Nat.le_refl _) (.int .i64 k)).setCell (p := ⟨w.heap.size, 1, none⟩) (Nat.le_refl _) (.string s)) 
          have HSU := Lib.hid (grow_two (B := w.heap.size) HS1.out hbx (.int .i64 k) (.string s)) 
          clear hL3 
          go_wp2 
          go_roundw
          case rel => exact ⟨n + 1, HLT.out, by go_num, by rw [HST.out, HCS.out]; simp, by rw [HST.out]; exact HPU, HWU, HSU⟩
          case measure => simp [intOf]; have := HLT.out; omega
    · obtain rfl : n = xs.length := by omega
      have ea : (lineS (xs.take xs.length)).1 = lineL xs := by rw [List.take_length]; rfl
      go_wp2
      go_ret
      exact ⟨by rw [← ea]; rfl, HW.out⟩
end Go.Proofs.YtiinhkfbgecbjaaGreatDoor
namespace Go.Proofs.YtiinhkfbgecbjaaGreatDoor
set_option linter.unusedSimpArgs false
set_option linter.unusedVariables false
open Go.RowKit Go.Sub

abbrev PairB := TokB × TokB
def WfT (t : TokB) : Prop := (Lit.int .i64 t.1).wf = true ∧ t.2.size ≤ maxLen
def pairV (x : PairB) : Value := .agg #[.int .i64 x.1.1, .string x.1.2, .int .i64 x.2.1, .string x.2.2]
theorem pair_sameNow (d : TypeDesc) (a c : PairB) : Instr.sameNow d (pairV a) (pairV c) = none := by unfold pairV; cases d <;> rfl
def pairL (x : PairB) : List Lit := [.int .i64 x.1.1, .string x.1.2.data.toList, .int .i64 x.2.1, .string x.2.2.data.toList]
theorem pair_cells61 : Tryz.prog.cellsOf 61 = 4 := by kernel_rfl
theorem pair_cells29 : Tryz.prog.cellsOf 29 = 2 := by kernel_rfl
theorem pair_cells3 : Tryz.prog.cellsOf 3 = 1 := by kernel_rfl
theorem pair_cells9 : Tryz.prog.cellsOf 9 = 1 := by kernel_rfl
theorem pair_lits {x : PairB} (h1 : WfT x.1) (h2 : WfT x.2) : Tryz.prog.keyLits 3 61 (pairV x).cells.toList = some (pairL x) := by
  obtain ⟨⟨k, s⟩, ⟨k', s'⟩⟩ := x
  obtain ⟨a1, a2⟩ := h1
  obtain ⟨b1, b2⟩ := h2
  dsimp only at a1 a2 b1 b2
  simp [Program.keyLits, pairV, pairL, Value.cells, Tryz.underlying61, Tryz.underlying29, Tryz.underlying3, Tryz.underlying9, pair_cells61, pair_cells29, pair_cells3, pair_cells9, a1, a2, b1, b2]
  rw [if_pos (by intro i x; match i, x with | 0, _ => simp | 1, _ => simp), if_pos (by intro i x; match i, x with | 0, _ => simp | 1, _ => simp)]
  rfl
set_option maxRecDepth 100000 in
theorem pair_equal (a c : PairB) (ha1 : WfT a.1) (ha2 : WfT a.2) (hc1 : WfT c.1) (hc2 : WfT c.2) (w : World) : (Op.equal 61 (pairV a) (pairV c)).run Tryz.prog w = .ok (decide (a = c)) w := by
  obtain ⟨r, hr, hiff⟩ := run_equalIn_deep 9997 3 61 (by kernel_rfl) w 3 3 (pairV a) (pairV c) _ _ (by kernel_rfl) (by kernel_rfl) (pair_lits ha1 ha2) (pair_lits hc1 hc2)
  have e : (a = c) ↔ pairL a = pairL c := by
    obtain ⟨⟨k, s⟩, ⟨k', s'⟩⟩ := a
    obtain ⟨⟨j, t⟩, ⟨j', t'⟩⟩ := c
    unfold pairL
    have key : ∀ s t : ByteArray, s.data.toList = t.data.toList ↔ s = t := fun s t => ⟨fun h => by cases s; cases t; simpa using h, fun h => by rw [h]⟩
    simp [key, and_assoc]
  refine (show (Op.equal 61 (pairV a) (pairV c)).run Tryz.prog w = .ok r w from hr).trans ?_
  congr 1
  rw [← e] at hiff
  cases r with
  | true => exact (decide_eq_true (hiff.1 rfl)).symm
  | false => exact (decide_eq_false (fun h => by have := hiff.2 h; cases this)).symm
set_option maxRecDepth 100000 in
theorem pair_check (a : PairB) (ha1 : WfT a.1) (ha2 : WfT a.2) (em : Bool) (w : World) : (Instr.checkKey em 10000 61 (pairV a)).run Tryz.prog w = .ok () w := by
  exact run_checkKey_deep em 9997 3 61 (by kernel_rfl) w 3 (pairV a) _ (by kernel_rfl) (pair_lits ha1 ha2)
abbrev KeyP := {x : PairB // WfT x.1 ∧ WfT x.2}
def keyV (x : KeyP) : Value := pairV x.1
theorem key_equal (a c : KeyP) (w : World) : (Op.equal 61 (keyV a) (keyV c)).run Tryz.prog w = .ok (decide (a = c)) w := by
  have h := pair_equal a.1 c.1 a.2.1 a.2.2 c.2.1 c.2.2 w
  rw [show decide (a = c) = decide (a.1 = c.1) by simp [Subtype.ext_iff]]
  exact h
theorem map_und : Tryz.prog.underlying 56 = some (.map 61 4) := by kernel_rfl
set_option maxRecDepth 100000 in
theorem zero_bool (w : World) : (zeroValue 4).run Tryz.prog w = .ok (.bool false) w := by rfl
theorem ask_pair {w : World} {b : Nat} {kvs : List (KeyP × Value)} (hb : w.heap[b]? = some (mapObjT keyV kvs)) (a : KeyP) :
    (Instr.lookup 56 (.map (some b)) (keyV a) true).run Tryz.prog w = .ok (.tuple #[(lookT kvs a).getD (.bool false), .bool (lookT kvs a).isSome]) w :=
  run_lookupT map_und Tryz.underlying61 (fun a c => pair_sameNow _ a.1 c.1) key_equal (fun em a w => pair_check a.1 a.2.1 a.2.2 em w) (zero_bool w) hb a true
theorem lay_pair {w : World} {b : Nat} {kvs : List (KeyP × Value)} (hb : w.heap[b]? = some (mapObjT keyV kvs)) (a : KeyP) (h : lookT kvs a = none) (v : Value) :
    (Instr.mapUpdate 56 (.map (some b)) (keyV a) v).run Tryz.prog w = .ok () (w.putObj b (mapObjT keyV (kvs ++ [(a, v)]))) :=
  run_storeT map_und Tryz.underlying61 (fun a c => pair_sameNow _ a.1 c.1) key_equal (fun em a w => pair_check a.1 a.2.1 a.2.2 em w) hb a h v
end Go.Proofs.YtiinhkfbgecbjaaGreatDoor
namespace Go.Proofs.YtiinhkfbgecbjaaGreatDoor
set_option linter.unusedSimpArgs false
set_option linter.unusedVariables false
open Go.RowKit Go.Sub

theorem ItemRow.at {w : World} {p : Option Addr} {n c : Nat} {out : List ItemB} (h : ItemRow w (.slice p n c) out) {i : Nat} {x : ItemB} (hx : out[i]? = some x) : ∃ b o q d, p = some ⟨b, o, none⟩ ∧
    w.cell? ⟨b, o + i * 4, none⟩ = some (.int .i64 x.1.1) ∧ w.cell? ⟨b, o + i * 4 + 1, none⟩ = some (.string x.1.2) ∧ w.cell? ⟨b, o + i * 4 + 2, none⟩ = some (.int .i64 (x.2.1 : Int)) ∧ w.cell? ⟨b, o + i * 4 + 3, none⟩ = some (.slice q x.2.2.length d) ∧ x.2.2.length ≤ 4611686018427387904 ∧
    ∀ (k : Nat) (s : ByteArray), x.2.2[k]? = some s → ∃ b' o', q = some ⟨b', o', none⟩ ∧ w.cell? ⟨b', o' + k, none⟩ = some (.string s) := by
  obtain ⟨p', c', e, hl, hc⟩ := h
  cases e
  obtain ⟨b, o, u, rfl, h0, h1, h2, h3, q, d, rfl, hn, hs⟩ := hc i x hx
  exact ⟨b, o, q, d, rfl, h0, h1, h2, h3, hn, hs⟩
set_option maxRecDepth 100000 in
set_option maxHeartbeats 2000000 in
theorem isame_calls (v1 v2 : Value) (xs : List ItemB) (w : World) (h1 : ItemRow w v1 xs) (h2 : ItemRow w v2 xs) :
    Calls Tryz.prog 32 #[v1, v2] w fun e w' => e = .returned (.bool true) ∧ Below w.heap.size w w' := by
  have H1 := Lib.hid h1
  have H2 := Lib.hid h2
  obtain ⟨p1, d1, rfl, hl, -⟩ := h1
  obtain ⟨p2, d2, rfl, -, -⟩ := h2
  have hdr : ∀ (W : World) (k : Nat), Below w.heap.size w W → Below w.heap.size w (W.drewN k) := fun W k h => h.trans ⟨rfl, rfl, rfl, Nat.le_refl _, fun _ _ => rfl⟩
  have HDR := Lib.hid hdr
  clear hdr
  go_enter Tryz.func32, Tryz.ntmps32
  go_wp2
  go_loopw [5] (fun i wr => ∃ j : Nat, j ≤ xs.length ∧ i = .int .i64 j ∧ Hid (Below w.heap.size w wr)) (fun i _ => xs.length - (intOf i).toNat)
  case atStart => exact ⟨0, Nat.zero_le _, rfl, Lib.hid (Below.refl _ _)⟩
  case round =>
    obtain ⟨j, hj, rfl, HR⟩ := hrel
    by_cases hlt : j < xs.length
    · have HLT := Lib.hid hlt
      have hx := List.getElem?_eq_getElem hlt
      have HX := Lib.hid hx
      obtain ⟨b1, o1, q1, e1, rfl, a0, a1, a2, a3, hn, -⟩ := (H1.out.below HR.out).at hx
      obtain ⟨b2, o2, q2, e2, rfl, c0, c1, c2, c3, -, -⟩ := (H2.out.below HR.out).at hx
      generalize xs[j] = x at *
      obtain ⟨⟨k, s⟩, at1, ns⟩ := x
      dsimp only at *
      have z0 : (0 : Int) ≤ (ns.length : Int) := by omega
      clear hx
      go_wp2
      go_quiet (fail)
      go_wp2
      clear a0 a1 a2 a3 c0 c1 c2 c3
      go_loopw [6] (fun i wx => ∃ m : Nat, m ≤ ns.length ∧ i = .int .i64 m ∧ Hid (Below w.heap.size w wx)) (fun i _ => ns.length - (intOf i).toNat)
      case atStart => exact ⟨0, Nat.zero_le _, rfl, Lib.hid (HDR.out _ _ HR.out)⟩
      case round =>
        obtain ⟨m, hm, rfl, HR⟩ := hrel
        obtain ⟨b1, o1, q1, e1, f1, a0, a1, a2, a3, -, ha⟩ := (H1.out.below HR.out).at HX.out
        obtain ⟨b2, o2, q2, e2, f2, c0, c1, c2, c3, -, hcs⟩ := (H2.out.below HR.out).at HX.out
        cases f1
        cases f2
        dsimp only at *
        by_cases hlm : m < ns.length
        · have hs := List.getElem?_eq_getElem hlm
          obtain ⟨b3, o3, rfl, g1⟩ := ha m _ hs
          obtain ⟨b4, o4, rfl, g2⟩ := hcs m _ hs
          have HLM := Lib.hid hlm
          generalize ns[m] = t at *
          clear ha hcs hs
          go_wp2
          go_quiet (fail)
          go_wp2
          go_roundw
          case rel => exact ⟨m + 1, HLM.out, by go_num, Lib.hid (HDR.out _ _ HR.out)⟩
          case measure => simp [intOf]; have := HLM.out; omega
        · obtain rfl : m = ns.length := by omega
          clear ha hcs
          go_wp2
          go_roundw
          case rel => exact ⟨j + 1, HLT.out, by go_num, HR⟩
          case measure => simp [intOf]; have := HLT.out; omega
    · obtain rfl : j = xs.length := by omega
      go_wp2
      go_ret
      exact ⟨rfl, HR.out⟩
end Go.Proofs.YtiinhkfbgecbjaaGreatDoor
namespace Go.Proofs.YtiinhkfbgecbjaaGreatDoor
set_option linter.unusedSimpArgs false
set_option linter.unusedVariables false
open Go.RowKit Go.Sub

def sevenB : TokB := (7, ⟨#[]⟩)
/-- how all lies: asked tokens, what is written, the last token -/
structure LInv (w : World) (st : LineSt) (kvs : List (KeyP × Value)) (W : World) : Prop where
  map : W.heap[w.heap.size]? = some (mapObjT keyV kvs)
  told : ∀ a u, (a, u) ∈ kvs → u = .bool (tightB a.1.1 a.1.2)
  bld : Lib.IsBuilder 59 5 (w.heap.size + 1) (w.heap.size + 1) (Lib.byteCells st.1) W
  last : LBox W (w.heap.size + 2) st.2
  bel : Below w.heap.size w W
  big : w.heap.size + 3 ≤ W.heap.size
theorem LInv.stays {w : World} {st : LineSt} {kvs : List (KeyP × Value)} {W W' : World} (h : LInv w st kvs W) (hb : Below W.heap.size W W') : LInv w st kvs W' where
  map := (hb.block _ (by have := h.big; omega)).trans h.map
  told := h.told
  bld := by rcases h.bld with h1 | h1; exact .inl (builder_stays h1 hb); exact .inr (builder_stays h1 hb)
  last := h.last.stays hb
  bel := h.bel.trans (hb.mono (by have := h.big; omega))
  big := Nat.le_trans h.big hb.size
theorem putObj_other (W : World) (l k : Nat) (o : Obj) (h : k ≠ l) : (W.putObj l o).heap[k]? = W.heap[k]? := World.putObj_heap_other h
theorem LBox.kept {W W' : World} {b B : Nat} {t : TokB} (h : LBox W B t) (hk : Kept b W W') (hb : B ≠ b) : LBox W' B t := hk B _ h hb (fun cs f e => by injection e with _ e2 _; exact absurd e2 (by decide))
theorem LInv.lay {w : World} {st : LineSt} {kvs : List (KeyP × Value)} {W : World} (h : LInv w st kvs W) (a : KeyP) : LInv w st (kvs ++ [(a, .bool (tightB a.1.1 a.1.2))]) (W.putObj w.heap.size (mapObjT keyV (kvs ++ [(a, .bool (tightB a.1.1 a.1.2))]))) := by
  have hk : Keeps (fun g => g = w.heap.size) W (W.putObj w.heap.size (mapObjT keyV (kvs ++ [(a, .bool (tightB a.1.1 a.1.2))]))) := Keeps.putObj W _ _ rfl
  refine ⟨?_, fun c u hu => ?_, ?_, hk.heap h.last (by omega), h.bel.trans (hk.below (by have := h.big; omega) fun b hb => by omega), Nat.le_trans h.big hk.size⟩
  · have hlt : w.heap.size < W.heap.size := by have := h.big; omega
    simp [World.putObj, hlt]
  · rcases List.mem_append.1 hu with h1 | h1
    · exact h.told c u h1
    · simp only [List.mem_singleton, Prod.mk.injEq] at h1
      rw [h1.1, h1.2]
  · have key : ∀ p, Lib.BuilderAt 59 5 (w.heap.size + 1) (w.heap.size + 1) p (Lib.byteCells st.1) W → Lib.BuilderAt 59 5 (w.heap.size + 1) (w.heap.size + 1) p (Lib.byteCells st.1) (W.putObj w.heap.size (mapObjT keyV (kvs ++ [(a, .bool (tightB a.1.1 a.1.2))]))) := fun p ⟨hB, v, hbk, hown, hne⟩ =>
      ⟨hB, v, hk.heap hbk (by omega), ownsRow_keeps hown hk (fun g hg e => by have := (hown.lt g hg.symm).1; omega), hne⟩
    rcases h.bld with h1 | h1
    · exact .inl (key _ h1)
    · exact .inr (key _ h1)
theorem LInv.wrote {w : World} {ln l' : List UInt8} {lt : TokB} {kvs : List (KeyP × Value)} {W W' : World} (h : LInv w (ln, lt) kvs W) (hb : Lib.BuilderAt 59 5 (w.heap.size + 1) (w.heap.size + 1) (.pointer (some ⟨w.heap.size + 1, 0, none⟩)) (Lib.byteCells l') W') (hbe : Below (w.heap.size + 1) W W') (hk : Kept (w.heap.size + 1) W W') : LInv w (l', lt) kvs W' where
  map := hk _ _ h.map (by omega) (fun cs f e => by cases e)
  told := h.told
  bld := .inr hb
  last := h.last.kept hk (by omega)
  bel := h.bel.trans (hbe.mono (by omega))
  big := Nat.le_trans h.big hbe.size
theorem LInv.put {w : World} {ln : List UInt8} {lt : TokB} {kvs : List (KeyP × Value)} {W : World} (h : LInv w (ln, lt) kvs W) (x : TokB) : LInv w (ln, x) kvs ((W.setCell ⟨w.heap.size + 2, 0, none⟩ (.int .i64 x.1)).setCell ⟨w.heap.size + 2, 1, none⟩ (.string x.2)) := by
  have hk : Keeps (fun g => g = w.heap.size + 2) W ((W.setCell ⟨w.heap.size + 2, 0, none⟩ (.int .i64 x.1)).setCell ⟨w.heap.size + 2, 1, none⟩ (.string x.2)) := (keeps_setCell (O := fun g => g = w.heap.size + 2) W _ _ _ rfl).trans (keeps_setCell (O := fun g => g = w.heap.size + 2) _ _ _ _ rfl)
  refine ⟨hk.heap h.map (by omega), h.told, ?_, h.last.put x, h.bel.trans (hk.below (by have := h.big; omega) fun b hb => by omega), Nat.le_trans h.big hk.size⟩
  have key : ∀ p, Lib.BuilderAt 59 5 (w.heap.size + 1) (w.heap.size + 1) p (Lib.byteCells ln) W → Lib.BuilderAt 59 5 (w.heap.size + 1) (w.heap.size + 1) p (Lib.byteCells ln) ((W.setCell ⟨w.heap.size + 2, 0, none⟩ (.int .i64 x.1)).setCell ⟨w.heap.size + 2, 1, none⟩ (.string x.2)) := fun p ⟨hB, v, hbk, hown, hne⟩ =>
    ⟨hB, v, hk.heap hbk (by omega), ownsRow_keeps hown hk (fun g hg e => by
      rcases hown.2 with ⟨rfl, _⟩ | ⟨g', cap, cur, rfl, _, hc, _⟩
      · cases hg
      · cases hg
        have e' : g' = w.heap.size + 2 := e
        rw [e'] at hc
        have h3 : some _ = some _ := h.last.symm.trans hc
        injection h3 with h3
        injection h3 with _ h4 _
        exact absurd h4 (by decide)), hne⟩
  rcases h.bld with h1 | h1
  · exact .inl (key _ h1)
  · exact .inr (key _ h1)
set_option maxRecDepth 100000 in
set_option maxHeartbeats 4000000 in
theorem iline_calls (v : Value) (xs : List TokB) (w : World) (h : TokRow w v xs) (hs : sumI xs ≤ 400000) (hwf : ∀ x ∈ xs, WfT x) :
    Calls Tryz.prog 13 #[v] w fun e w' => e = .returned (.string ⟨(lineL xs).toArray⟩) ∧ Below w.heap.size w w' := by
  have Hh := Lib.hid h
  obtain ⟨pv, cv, rfl, hlv, -⟩ := h
  have hmm := @run_makeMap Tryz.prog
  have hlx : xs.length ≤ 400000 := by
    have h1 : ∀ l : List TokB, l.length ≤ sumI l := fun l => by
      induction l with
      | nil => simp
      | cons x r ih => have e : sumI (x :: r) = 1 + x.2.size + sumI r := rfl; rw [List.length_cons]; omega
    have := h1 xs; omega
  have hls : ∀ n, (lineS (xs.take n)).1.length ≤ 400000 := fun n => by
    have h1 := lineS_size (xs.take n) ([], (7, ⟨#[]⟩))
    have h2 := sumI_le xs n
    unfold lineS
    simp only [List.length_nil] at h1; omega
  have hll : ∀ n, (lineS (xs.take n)).2.2.size ≤ 400000 ∧ WfT (lineS (xs.take n)).2 := fun n => by
    rcases lineS_last (xs.take n) ([], (7, ⟨#[]⟩)) with h1 | h1
    · unfold lineS; rw [h1]; exact ⟨Nat.zero_le _, by decide, Nat.zero_le _⟩
    · have h2 := sumI_mem (List.mem_of_mem_take h1)
      have h3 := hwf _ (List.mem_of_mem_take h1)
      unfold lineS
      exact ⟨by omega, h3⟩
  have hlm : ∀ x ∈ xs, x.2.size ≤ 400000 ∧ WfT x := fun x hx => ⟨by have := sumI_mem hx; omega, hwf x hx⟩
  have HLS := Lib.hid hls
  have HLL := Lib.hid hll
  have HLM := Lib.hid hlm
  have Pc := Lib.hid plain_calls
  clear hls hll hlm hs hwf
  obtain ⟨w1, hw1⟩ : ∃ w1, w.alloc (.map #[] 0) = w1 := ⟨_, rfl⟩
  obtain ⟨w2, hw2⟩ : ∃ w2, w1.alloc (.cells #[.pointer none, .slice none 0 0] 59) = w2 := ⟨_, rfl⟩
  obtain ⟨w3, hw3⟩ : ∃ w3, w2.alloc (.cells #[.int .i64 7, .string ⟨#[]⟩] 29) = w3 := ⟨_, rfl⟩
  have hst : LInv w ([], sevenB) [] w3 := by
    have g1 : Below w.heap.size w w1 := by rw [← hw1]; exact (Below.refl _ w).alloc (Nat.le_refl _) _
    have g2 : Below w1.heap.size w1 w2 := by rw [← hw2]; exact (Below.refl _ w1).alloc (Nat.le_refl _) _
    have g3 : Below w2.heap.size w2 w3 := by rw [← hw3]; exact (Below.refl _ w2).alloc (Nat.le_refl _) _
    have z1 : w1.heap.size = w.heap.size + 1 := by rw [← hw1]; simp
    have z2 : w2.heap.size = w.heap.size + 2 := by rw [← hw2]; simp [z1]
    have z3 : w3.heap.size = w.heap.size + 3 := by rw [← hw3]; simp [z2]
    have b1 := World.alloc_heap_new w (.map #[] 0)
    rw [hw1] at b1
    have b2 := World.alloc_heap_new w1 (.cells #[.pointer none, .slice none 0 0] 59)
    rw [hw2, z1] at b2
    have b3 := World.alloc_heap_new w2 (.cells #[.int .i64 7, .string ⟨#[]⟩] 29)
    rw [hw3, z2] at b3
    refine ⟨?_, fun a u hu => by simp at hu, .inl ?_, b3, g1.trans ((g2.mono (by omega)).trans (g3.mono (by omega))), by omega⟩
    · exact (g3.block _ (by omega)).trans ((g2.block _ (by omega)).trans b1)
    · exact ⟨Nat.le_refl _, .slice none 0 0, (g3.block _ (by omega)).trans b2, World.ownsRow_nil _ _ _ _, fun e => by cases e⟩
  have HST := Lib.hid hst
  have W1E := Lib.hid hw1
  have W2E := Lib.hid hw2
  have W3E := Lib.hid hw3
  have hzz : w1.heap.size = w.heap.size + 1 ∧ w2.heap.size = w.heap.size + 2 := by rw [← hw2, ← hw1]; simp
  have HZZ := Lib.hid hzz
  clear hst hw1 hw2 hw3 hzz
  go_enter Tryz.func13, Tryz.ntmps13
  go_upto_region 5 with (fail)
  clear hmm
  rw [W1E.out, W2E.out, W3E.out]
  go_loopw [15] (fun i wr => ∃ (n : Nat) (kvs : List (KeyP × Value)), n ≤ xs.length ∧ i = .int .i64 n ∧ Hid (LInv w (lineS (xs.take n)) kvs wr)) (fun i _ => xs.length - (intOf i).toNat)
  case atStart => exact ⟨0, [], Nat.zero_le _, rfl, HST⟩
  case round =>
    obtain ⟨n, kvs, hn, rfl, HI⟩ := hrel
    by_cases hlt : n < xs.length
    · have hx := List.getElem?_eq_getElem hlt
      obtain ⟨p', c', e', -, hce⟩ := Hh.out.below HI.out.bel
      cases e'
      obtain ⟨b, o, rfl, c0, c1⟩ := hce n _ hx
      have hst := lineS_take hx
      obtain ⟨hm, hwx⟩ := HLM.out _ (List.getElem_mem hlt)
      obtain ⟨hlast, hwl⟩ := HLL.out n
      have hsz := HLS.out n
      have HLT := Lib.hid hlt
      clear hx hce
      generalize xs[n] = x at *
      obtain ⟨k, s⟩ := x
      dsimp only at c0 c1 hm
      have hsp : ∀ st : LineSt, lineStep st (k, s) = if k = 1 ∨ k = 2 then st else (st.1 ++ (if tightB st.2 (k, s) then [] else [32]) ++ s.data.toList, (k, s)) := fun _ => rfl
      rw [hsp] at hst
      have hbx : LBox (wr.alloc (.cells #[.int .i64 k, .string s] 29)) wr.heap.size (k, s) := World.alloc_heap_new wr _
      have hal := (Below.refl wr.heap.size wr).alloc (Nat.le_refl _) (.cells #[.int .i64 k, .string s] 29)
      have HBX := Lib.hid hbx
      have HBG := Lib.hid HI.out.big
      have HAL := Lib.hid hal
      clear hsp hbx hal
      by_cases hk : k = 1 ∨ k = 2
      · rw [if_pos hk] at hst
        have HST := Lib.hid hst
        have d1 : decide (k ≠ 1 ∧ k ≠ 2) = false := decide_eq_false (by omega)
        clear hst hk
        go_wp2_with (go_at_call 23; refine (Pc.out _ _ _).mono ?_; rintro e w5 ⟨rfl, hb⟩; have HB := Lib.hid (HAL.out.trans (hb.mono HAL.out.size)); clear hb)
        go_roundw
        case rel => exact ⟨n + 1, kvs, HLT.out, by go_num, by rw [HST.out]; exact Lib.hid (HI.out.stays HB.out)⟩
        case measure => simp [intOf]; have := HLT.out; omega
      · rw [if_neg hk] at hst
        have HST := Lib.hid hst
        have d1 : decide (k ≠ 1 ∧ k ≠ 2) = true := decide_eq_true (by omega)
        clear hst hk
        generalize lineS (xs.take n) = st at *
        obtain ⟨ln, lk, lt⟩ := st
        dsimp only at *
        go_upto_region 8 with (go_at_call 23; refine (Pc.out _ _ _).mono ?_; rintro e w5 ⟨rfl, hb⟩; have HB := Lib.hid (HAL.out.trans (hb.mono HAL.out.size)); have HBX5 := Lib.hid (HBX.out.stays hb); clear hb)
        have HI5 := Lib.hid (HI.out.stays HB.out)
        obtain ⟨l0, l1⟩ := HI5.out.last.cells
        obtain ⟨x0, x1⟩ := HBX5.out.cells
        go_upto_region 9 with (fail)
        have hal6 := (Below.refl w5.heap.size w5).alloc (Nat.le_refl _) (.cells #[.int .i64 lk, .string lt, .int .i64 k, .string s] 61)
        have HI6 := Lib.hid (HI5.out.stays hal6)
        have HBX6 := Lib.hid (HBX5.out.stays hal6)
        have hkb := World.alloc_heap_new w5 (.cells #[.int .i64 lk, .string lt, .int .i64 k, .string s] 61)
        have k0 := cell_of_block (o := 0) hkb rfl
        have k1 := cell_of_block (o := 1) hkb rfl
        have k2 := cell_of_block (o := 2) hkb rfl
        have k3 := cell_of_block (o := 3) hkb rfl
        have HKB := Lib.hid hkb
        obtain ⟨a, ha⟩ : ∃ a : KeyP, a.1 = ((lk, lt), (k, s)) := ⟨⟨_, hwl, hwx⟩, rfl⟩
        have hkv : keyV a = .agg #[.int .i64 lk, .string lt, .int .i64 k, .string s] := by unfold keyV; rw [ha]; rfl
        have hlk := ask_pair HI6.out.map a
        rw [hkv] at hlk
        have HKV := Lib.hid hkv
        have HA := Lib.hid ha
        generalize w5.alloc (.cells #[.int .i64 lk, .string lt, .int .i64 k, .string s] 61) = w6 at *
        generalize w5.heap.size = KB at *
        clear hal6 hkb hkv ha
        cases hlook : lookT kvs a with
        | none =>
          rw [hlook] at hlk
          simp only [Option.getD_none, Option.isSome_none] at hlk
          have htc := itight_calls (lk, lt) (k, s) w6 (by dsimp only; omega)
          have HTC := Lib.hid htc
          obtain ⟨l0, l1⟩ := HI6.out.last.cells
          obtain ⟨x0, x1⟩ := HBX6.out.cells
          clear htc
          generalize htb : tightB (lk, lt) (k, s) = tg at *
          have HTB := Lib.hid htb
          clear htb
          go_upto_region 12 with (go_at_call 12; refine HTC.out.mono ?_; rintro e w7 ⟨rfl, hb7⟩; have HI7 := Lib.hid (HI6.out.stays hb7); have HBX7 := Lib.hid (HBX6.out.stays hb7); have HB7 := Lib.hid hb7; clear hb7)
          have hup := lay_pair HI7.out.map a hlook (.bool tg)
          rw [HKV.out] at hup
          have hly := HI7.out.lay a
          rw [HA.out, HTB.out] at hly
          have HLY := Lib.hid hly
          have k0' := (HB7.out.cell (World.block_lt_of_cell? _ _ k0)).trans k0
          have k1' := (HB7.out.cell (World.block_lt_of_cell? _ _ k1)).trans k1
          have k2' := (HB7.out.cell (World.block_lt_of_cell? _ _ k2)).trans k2
          have k3' := (HB7.out.cell (World.block_lt_of_cell? _ _ k3)).trans k3
          have hbx8 : LBox (w7.putObj w.heap.size (mapObjT keyV (kvs ++ [(a, .bool tg)]))) wr.heap.size (k, s) := (putObj_other _ _ _ _ (by have := HBG.out; omega)).trans HBX7.out
          have HBX8 := Lib.hid hbx8
          clear hly hbx8 k0 k1 k2 k3 l0 l1 x0 x1
          go_upto_region 13 with (fail)
          generalize w7.putObj w.heap.size (mapObjT keyV (kvs ++ [(a, .bool tg)])) = wz at *
          have hbl := Lib.byteCells_length ln 
          obtain ⟨x0, x1⟩ := HBX8.out.cells 
          cases tg with 
          | true => 
            have hws := writeString_kept (w.heap.size + 1) (w.heap.size + 1) (Lib.byteCells ln) s wz HLY.out.bld (by omega) (by have := HLY.out.big; omega) 
            have HWS := Lib.hid hws 
            clear hws 
            go_upto_region 16 with (go_at_call 28; refine HWS.out.mono ?_; rintro e w9 ⟨rfl, hb9, hbe9, hk9⟩; have HI9 := Lib.hid (HLY.out.wrote (l' := ln ++ [] ++ s.data.toList) (by rw [List.append_nil, ← cells_app]; exact hb9) hbe9 hk9); have HBX9 := Lib.hid (HBX8.out.kept hk9 (by have := HBG.out; omega)); clear hb9 hbe9 hk9) 
            obtain ⟨x0, x1⟩ := (HBX9.out).cells 
            have f0 := HI9.out.last.free 0 
            have f1 := HI9.out.last.free 1 
            obtain ⟨l0, l1⟩ := HI9.out.last.cells 
            have HPU := Lib.hid (HI9.out.put (k, s)) 
            go_wp2 
            go_roundw 
            case rel => exact ⟨n + 1, _, HLT.out, by go_num, by rw [HST.out]; exact HPU⟩ 
            case measure => simp [intOf]; have := HLT.out; omega 
          | false => 
            have hwb := writeByte_kept (w.heap.size + 1) (w.heap.size + 1) (Lib.byteCells ln) 32 wz HLY.out.bld (by omega) (by have := HLY.out.big; omega) 
            rw [show ((32 : Nat) : Int) = 32 from rfl] at hwb 
            have HWB := Lib.hid hwb 
            clear hwb 
            go_upto_region 15 with (go_at_call 27; refine HWB.out.mono ?_; rintro e w8 ⟨rfl, hb8, hbe8, hk8⟩; have HI8 := Lib.hid (HLY.out.wrote (l' := ln ++ [32]) (by rw [Lib.byteCells_append]; exact hb8) hbe8 hk8); have HBX8 := Lib.hid (HBX8.out.kept hk8 (by have := HBG.out; omega)); clear hb8 hbe8 hk8) 
            obtain ⟨x0, x1⟩ := HBX8.out.cells 
            have hbl2 := Lib.byteCells_length (ln ++ [32]) 
            rw [List.length_append] at hbl2 
            simp only [List.length_cons, List.length_nil] at hbl2 
            have hws := writeString_kept (w.heap.size + 1) (w.heap.size + 1) (Lib.byteCells (ln ++ [32])) s w8 HI8.out.bld (by omega) (by have := HI8.out.big; omega) 
            have HWS := Lib.hid hws 
            clear hws 
            go_upto_region 16 with (go_at_call 28; refine HWS.out.mono ?_; rintro e w9 ⟨rfl, hb9, hbe9, hk9⟩; have HI9 := Lib.hid (HI8.out.wrote (l' := ln ++ [32] ++ s.data.toList) (by rw [← cells_app]; exact hb9) hbe9 hk9); have HBX9 := Lib.hid (HBX8.out.kept hk9 (by have := HBG.out; omega)); clear hb9 hbe9 hk9) 
            obtain ⟨x0, x1⟩ := (HBX9.out).cells 
            have f0 := HI9.out.last.free 0 
            have f1 := HI9.out.last.free 1 
            obtain ⟨l0, l1⟩ := HI9.out.last.cells 
            have HPU := Lib.hid (HI9.out.put (k, s)) 
            go_wp2 
            go_roundw 
            case rel => exact ⟨n + 1, _, HLT.out, by go_num, by rw [HST.out]; exact HPU⟩ 
            case measure => simp [intOf]; have := HLT.out; omega
        | some u =>
          have hu := HI6.out.told a u (lookT_mem hlook)
          rw [HA.out] at hu
          subst hu
          rw [hlook] at hlk
          simp only [Option.getD_some, Option.isSome_some] at hlk
          generalize htb : tightB (lk, lt) (k, s) = tg at *
          clear htb hlook
          go_upto_region 13 with (fail)
          have hbl := Lib.byteCells_length ln 
          obtain ⟨x0, x1⟩ := HBX6.out.cells 
          cases tg with 
          | true => 
            have hws := writeString_kept (w.heap.size + 1) (w.heap.size + 1) (Lib.byteCells ln) s w6 HI6.out.bld (by omega) (by have := HI6.out.big; omega) 
            have HWS := Lib.hid hws 
            clear hws 
            go_upto_region 16 with (go_at_call 28; refine HWS.out.mono ?_; rintro e w9 ⟨rfl, hb9, hbe9, hk9⟩; have HI9 := Lib.hid (HI6.out.wrote (l' := ln ++ [] ++ s.data.toList) (by rw [List.append_nil, ← cells_app]; exact hb9) hbe9 hk9); have HBX9 := Lib.hid (HBX6.out.kept hk9 (by have := HBG.out; omega)); clear hb9 hbe9 hk9) 
            obtain ⟨x0, x1⟩ := (HBX9.out).cells 
            have f0 := HI9.out.last.free 0 
            have f1 := HI9.out.last.free 1 
            obtain ⟨l0, l1⟩ := HI9.out.last.cells 
            have HPU := Lib.hid (HI9.out.put (k, s)) 
            go_wp2 
            go_roundw 
            case rel => exact ⟨n + 1, _, HLT.out, by go_num, by rw [HST.out]; exact HPU⟩ 
            case measure => simp [intOf]; have := HLT.out; omega 
          | false => 
            have hwb := writeByte_kept (w.heap.size + 1) (w.heap.size + 1) (Lib.byteCells ln) 32 w6 HI6.out.bld (by omega) (by have := HI6.out.big; omega) 
            rw [show ((32 : Nat) : Int) = 32 from rfl] at hwb 
            have HWB := Lib.hid hwb 
            clear hwb 
            go_upto_region 15 with (go_at_call 27; refine HWB.out.mono ?_; rintro e w8 ⟨rfl, hb8, hbe8, hk8⟩; have HI8 := Lib.hid (HI6.out.wrote (l' := ln ++ [32]) (by rw [Lib.byteCells_append]; exact hb8) hbe8 hk8); have HBX8 := Lib.hid (HBX6.out.kept hk8 (by have := HBG.out; omega)); clear hb8 hbe8 hk8) 
            obtain ⟨x0, x1⟩ := HBX8.out.cells 
            have hbl2 := Lib.byteCells_length (ln ++ [32]) 
            rw [List.length_append] at hbl2 
            simp only [List.length_cons, List.length_nil] at hbl2 
            have hws := writeString_kept (w.heap.size + 1) (w.heap.size + 1) (Lib.byteCells (ln ++ [32])) s w8 HI8.out.bld (by omega) (by have := HI8.out.big; omega) 
            have HWS := Lib.hid hws 
            clear hws 
            go_upto_region 16 with (go_at_call 28; refine HWS.out.mono ?_; rintro e w9 ⟨rfl, hb9, hbe9, hk9⟩; have HI9 := Lib.hid (HI8.out.wrote (l' := ln ++ [32] ++ s.data.toList) (by rw [← cells_app]; exact hb9) hbe9 hk9); have HBX9 := Lib.hid (HBX8.out.kept hk9 (by have := HBG.out; omega)); clear hb9 hbe9 hk9) 
            obtain ⟨x0, x1⟩ := (HBX9.out).cells 
            have f0 := HI9.out.last.free 0 
            have f1 := HI9.out.last.free 1 
            obtain ⟨l0, l1⟩ := HI9.out.last.cells 
            have HPU := Lib.hid (HI9.out.put (k, s)) 
            go_wp2 
            go_roundw 
            case rel => exact ⟨n + 1, _, HLT.out, by go_num, by rw [HST.out]; exact HPU⟩ 
            case measure => simp [intOf]; have := HLT.out; omega
    · obtain rfl : n = xs.length := by omega
      have hst := Tryz.Builder_String_any (w.heap.size + 1) (w.heap.size + 1) (lineS (xs.take xs.length)).1 wr HI.out.bld (by have := HI.out.big; omega)
      have hnl : (lineS (xs.take xs.length)).1 = lineL xs := by rw [List.take_length]; rfl
      rw [hnl] at hst
      have Hst := Lib.hid hst
      clear hst hnl
      go_wp2_with (go_at_call 29; refine (Hst.out).mono ?_; rintro e w1 ⟨rfl, h4⟩; have H4 := Lib.hid (HI.out.bel.trans (h4.mono (by have := HI.out.big; omega))); clear h4)
      go_ret
      exact ⟨rfl, H4.out⟩
end Go.Proofs.YtiinhkfbgecbjaaGreatDoor
namespace Go.Proofs.YtiinhkfbgecbjaaGreatDoor
set_option linter.unusedSimpArgs false
set_option linter.unusedVariables false
open Go.RowKit Go.Sub

instance (t : TokB) : Decidable (WfT t) := by unfold WfT; infer_instance
theorem exT_wf : ∀ x ∈ exY.map (tokB exT), WfT x := by decide +kernel
theorem exT_sum : sumI (exY.map (tokB exT)) ≤ 400000 := by decide +kernel
set_option maxRecDepth 100000 in
set_option maxHeartbeats 2000000 in
theorem known_calls (w : World) : Calls Tryz.prog 11 #[] w fun e w' => e = .returned (.bool true) ∧ Below w.heap.size w w' := by
  have h1 : Calls Tryz.prog 9 #[.string ⟨#[49, 32, 32, 43, 32, 46, 32, 32, 46, 32, 97]⟩] w fun e w' => ∃ p c, e = .returned (.tuple #[.slice p (exY.map (tokB exT)).length c, .int .i64 0, .int .i64 0]) ∧ TokRow w' (.slice p (exY.map (tokB exT)).length c) (exY.map (tokB exT)) ∧ Below w.heap.size w w' := by
    have h := rtokens_told ⟨exT.toArray⟩ w (by decide)
    rw [exT_told] at h
    exact h
  have hl := fun v w' (hr : TokRow w' v (exY.map (tokB exT))) => iline_calls v _ w' hr exT_sum exT_wf
  rw [exT_line] at hl
  have ht1 : ∀ W, Calls Tryz.prog 12 #[.agg #[.int .i64 13, .string ⟨#[43]⟩], .agg #[.int .i64 13, .string ⟨#[46]⟩]] W fun e w' => e = .returned (.bool true) ∧ Below W.heap.size W w' := fun W => by have h := itight_calls plusB dotB W (by decide); rw [ex_tight.1] at h; exact h
  have ht2 : ∀ W, Calls Tryz.prog 12 #[.agg #[.int .i64 13, .string ⟨#[46]⟩], .agg #[.int .i64 13, .string ⟨#[46]⟩]] W fun e w' => e = .returned (.bool false) ∧ Below W.heap.size W w' := fun W => by have h := itight_calls dotB dotB W (by decide); rw [ex_tight.2] at h; exact h
  generalize exY.map (tokB exT) = xs at *
  have H1 := Lib.hid h1
  have HL := Lib.hid hl
  have HT1 := Lib.hid ht1
  have HT2 := Lib.hid ht2
  clear h1 hl ht1 ht2
  go_enter Tryz.func11, Tryz.ntmps11
  go_upto_region 2 with (go_at_call 9; with_reducible refine H1.out.mono ?_; rintro e w1 ⟨p, c, rfl, hr, hb⟩; have HR := Lib.hid hr; have HB := Lib.hid hb; clear hr hb)
  go_wp2_with (first
    | (go_at_call 13; with_reducible refine (HL.out _ _ HR.out).mono ?_; rintro e w2 ⟨rfl, hb⟩; have HB := Lib.hid (HB.out.trans (hb.mono HB.out.size)); clear hb)
    | (go_at_call 12; with_reducible refine (HT1.out _).mono ?_; rintro e w3 ⟨rfl, hb⟩; have HB := Lib.hid (HB.out.trans (hb.mono HB.out.size)); clear hb)
    | (go_at_call 12; with_reducible refine (HT2.out _).mono ?_; rintro e w3 ⟨rfl, hb⟩; have HB := Lib.hid (HB.out.trans (hb.mono HB.out.size)); clear hb))
  go_ret
  exact ⟨rfl, HB.out⟩
end Go.Proofs.YtiinhkfbgecbjaaGreatDoor
