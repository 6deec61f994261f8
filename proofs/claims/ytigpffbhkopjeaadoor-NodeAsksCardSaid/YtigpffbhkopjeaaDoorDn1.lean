/- What the rows list gives the walks, and how a list of choices comes in. -/
import Derived.Test.YtigpffbhkopjeaaDoorNd25
import Derived.Test.YtigpffbhkopjeaaDoorLaw
import Derived.Test.YtigpffbhkopjeaaDoorCards
import Derived.Test.YtigpffbhkopjeaaDoorTie
import Derived.Lay
import Derived.Lib.LaidPrint
import Derived.ChangeSlices
namespace Go.Proofs.YtigpffbhkopjeaaDoor
open Go.ChangeShapes Go.WideShapes Go.ChangeAt Go.RowKit Go.Sub Go.Lib

theorem own : ownKnob Tryd.prog.godebug = none := by kernel_rfl
theorem laidOut : laidOutB Tryd.prog = true := by kernel_rfl
/-- a heap that holds what the rows list -/
theorem door_met (os : Os) (args : Array Value) : laidMet Tryd.prog Rows.nodeShowRow.laid ((World.laidAll Tryd.prog os Rows.nodeShowRow.laid).forCall (fun _ _ => 0) ⟨#[], args, []⟩).memory :=
  laidMet_laidAll _ (by kernel_rfl) (by kernel_rfl)
theorem cells5 : Tryd.prog.cellsOf 5 = 1 := by kernel_rfl
theorem lays260 : Lays.n260 Tryd.prog Tryd.lays177_ren := { Tryd.lays177 with }
theorem lays339 : Lays.n339 Tryd.prog Tryd.lays177_ren := { Tryd.lays177 with }
theorem u8extra : U8Extra Tryd.prog Tryd.lays177_ren := ⟨by kernel_rfl, by kernel_rfl, by kernel_rfl, by kernel_rfl, by kernel_rfl, by kernel_rfl, by kernel_rfl⟩
theorem printExtra : PrintExtra Tryd.prog Tryd.lays177_ren := ⟨by kernel_rfl, by kernel_rfl, by kernel_rfl, by kernel_rfl, by kernel_rfl, by kernel_rfl, by kernel_rfl, by kernel_rfl, by kernel_rfl, by kernel_rfl⟩
theorem pow10_type : (Tryd.prog.globals[0]?).map (·.type) = some 90 := by kernel_rfl
theorem pow10_named : Tryd.prog.globalNamed "internal/strconv.uint64pow10" = some 0 := by kernel_rfl
theorem cells90 : Tryd.prog.cellsOf 90 = 20 := by kernel_rfl
theorem cells79 : Tryd.prog.cellsOf 79 = 1 := by kernel_rfl
set_option maxRecDepth 100000 in
theorem tabs_of_laid {W : World} (h : laidMetH Tryd.prog Rows.nodeShowRow.laid W) : Tabs W := by
  rw [MakeChecks.laidMetH_plain _ _ _ (by kernel_rfl)] at h
  have e1 : (Rows.laid_unicode_utf8_first) = firstData := by kernel_rfl
  have e2 : (Rows.laid_unicode_utf8_acceptRanges : DataW Unit) = acceptData := by kernel_rfl
  have e3 : (Rows.laid_internal_strconv_uint64pow10 : DataW Unit) = tabData .u64 Lib.pow10Tab := by kernel_rfl
  have p1 : Rows.laid_strconv_isPrint16 = sliceData .u16 goPrintTabs.p16 := by kernel_rfl
  have p2 : Rows.laid_strconv_isNotPrint16 = sliceData .u16 goPrintTabs.n16 := by kernel_rfl
  have p3 : Rows.laid_strconv_isPrint32 = sliceData .u32 goPrintTabs.p32 := by kernel_rfl
  have p4 : Rows.laid_strconv_isNotPrint32 = sliceData .u16 goPrintTabs.n32 := by kernel_rfl
  have rd : ∀ {n : String} {d d' : DataW Unit}, d' = d → (n, d') ∈ Rows.nodeShowRow.laid → VarReads Tryd.prog W n d := fun e hm => e ▸ laidMet.reads h hm
  refine ⟨printTabs_of_reads lays339 printExtra (rd p1 (by simp [Rows.nodeShowRow])) (rd p2 (by simp [Rows.nodeShowRow])) (rd p3 (by simp [Rows.nodeShowRow])) (rd p4 (by simp [Rows.nodeShowRow])), utf8Tabs_of_reads lays260 u8extra (rd e1 (by simp [Rows.nodeShowRow])) (rd e2 (by simp [Rows.nodeShowRow])), ?_⟩
  obtain ⟨g', t', cs, fuel, p, hg', ht', hvar, hd⟩ := rd e3 (n := "internal/strconv.uint64pow10") (by simp [Rows.nodeShowRow])
  obtain rfl := Option.some.inj (pow10_named.symm.trans hg')
  obtain rfl := Option.some.inj (pow10_type.symm.trans ht')
  unfold TabIs
  rw [hvar, ← cells_of_tab Tryd.underlying90 Tryd.underlying79 cells79 cells90 hd]
set_option maxRecDepth 100000 in
/-- a list of choices -/
theorem bytes_row {H : Type} {enc : TypeId × Value → H} {W : World} {r : Go.Reach} {b0 : Nat} {sp : Nat → Bool} {v : Value} {d : DataW H} {ps : List MemPlace}
    (hval : Value.okWide Tryd.prog W r b0 22 v) (hd : DataW.Trod enc Tryd.prog W 0 sp true 22 v d ps) : ∃ c : List UInt8, BytesRow W v c := by
  obtain ⟨a0, len, cap, rfl⟩ := okWide_slice Tryd.underlying22 hval
  obtain ⟨fuel, hf⟩ := hd
  rcases open_ints Tryd.underlying22 Tryd.underlying5 cells5 hf with ⟨hcs, _⟩ | ⟨a, len', cap', zs, hcs, _, hl, hm, hz, _, hcell, hwz⟩
  · simp [Value.cells] at hcs
    obtain ⟨rfl, rfl, rfl⟩ := hcs
    exact ⟨[], none, 0, 0, 0, rfl, fun h => absurd h (by simp), by simp, fun i x hi => by simp at hi⟩
  · simp [Value.cells] at hcs
    obtain ⟨rfl, rfl, rfl⟩ := hcs
    have hzl : len ≤ zs.length := by rw [hz]; split <;> omega
    have hlen : ((zs.take len).map fun z => UInt8.ofNat z.toNat).length = len := by rw [List.length_map, List.length_take]; omega
    refine ⟨(zs.take len).map fun z => UInt8.ofNat z.toNat, some a, cap, a.block, a.off, by rw [hlen], fun h => ?_, by rw [hlen]; unfold maxLen at hm; omega, fun i x hi => ?_⟩
    · have h0 := hcell 0 (by omega)
      obtain ⟨R, o, sR⟩ := a
      obtain rfl : sR = none := by
        rw [show (Addr.add ⟨R, o, sR⟩ 0) = ⟨R, o, sR⟩ by simp [Addr.add]] at h0
        exact cell_spot h0
      rfl
    · have hil : i < len := by have := (List.getElem?_eq_some_iff.1 hi).1; omega
      have hiz : i < zs.length := by omega
      have hw := hwz (zs.getD i 0) (by rw [List.getD_eq_getElem?_getD, List.getElem?_eq_getElem hiz]; exact List.getElem_mem hiz)
      have hb : 0 ≤ zs.getD i 0 ∧ zs.getD i 0 ≤ 255 := by simpa [Lit.wf, IntKind.min, IntKind.max, IntKind.signed, IntKind.bits] using hw
      have hx : x = UInt8.ofNat (zs.getD i 0).toNat := by
        rw [List.getElem?_map, List.getElem?_take, if_pos hil, List.getElem?_eq_getElem hiz] at hi
        simp only [Option.map_some, Option.some.injEq] at hi
        rw [← hi, List.getD_eq_getElem?_getD, List.getElem?_eq_getElem hiz]; rfl
      have hc := hcell i hiz
      have h0 := hcell 0 (by omega)
      obtain ⟨R, o, sR⟩ := a
      obtain rfl : sR = none := by
        rw [show (Addr.add ⟨R, o, sR⟩ 0) = ⟨R, o, sR⟩ by simp [Addr.add]] at h0
        exact cell_spot h0
      rw [show (⟨R, o, none⟩ : Addr).add i = ⟨R, o + i, none⟩ by unfold Addr.add; split <;> simp_all] at hc
      rw [hc, hx, UInt8.toNat_ofNat_of_lt' (by show (zs.getD i 0).toNat < 256; omega), Int.toNat_of_nonneg hb.1]
end Go.Proofs.YtigpffbhkopjeaaDoor
