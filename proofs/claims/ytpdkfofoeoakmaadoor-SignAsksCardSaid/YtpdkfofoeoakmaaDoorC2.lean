/- How a list of choices comes in: its cells hold bytes. -/
import Derived.Test.YtpdkfofoeoakmaaDoorC1
import Derived.Test.YtpdkfofoeoakmaaDoorSg11
import Derived.ChangeSlices
namespace Go.Proofs.YtpdkfofoeoakmaaDoor
open Go.ChangeShapes Go.WideShapes Go.ChangeAt Go.RowKit Go.Sub

set_option maxRecDepth 100000 in
theorem bytes_open {H : Type} {enc : TypeId × Value → H} {W : World} {r : Reach} {b0 : Nat} {sp : Nat → Bool} {v : Value} {d : DataW H} {ps : List MemPlace}
    (hval : Value.okWide Tryd.prog W r b0 22 v) (hd : DataW.Trod enc Tryd.prog W 0 sp true 22 v d ps) : BytesV W v := by
  obtain ⟨a0, len, cap, rfl⟩ := okWide_slice Tryd.underlying22 hval
  obtain ⟨fuel, hf⟩ := hd
  rcases open_ints Tryd.underlying22 Tryd.underlying5 cells5 hf with ⟨hcs, _⟩ | ⟨a, len', cap', zs, hcs, _, hl, hm, hz, _, hcell, hwz⟩
  · simp [Value.cells] at hcs
    obtain ⟨rfl, rfl, rfl⟩ := hcs
    exact .inl rfl
  · simp [Value.cells] at hcs
    obtain ⟨rfl, rfl, rfl⟩ := hcs
    refine .inr ⟨a, len, cap, rfl, fun j hj => ?_, by unfold maxLen at hm; omega⟩
    have hjz : j < zs.length := by rw [hz]; split <;> omega
    have hw := hwz (zs.getD j 0) (by rw [List.getD_eq_getElem?_getD, List.getElem?_eq_getElem hjz]; exact List.getElem_mem hjz)
    have hb : 0 ≤ zs.getD j 0 ∧ zs.getD j 0 ≤ 255 := by simpa [Lit.wf, IntKind.min, IntKind.max, IntKind.signed, IntKind.bits] using hw
    refine ⟨UInt8.ofNat (zs.getD j 0).toNat, ?_⟩
    rw [hcell j hjz, UInt8.toNat_ofNat_of_lt' (by show (zs.getD j 0).toNat < 256; omega), Int.toNat_of_nonneg hb.1]
end Go.Proofs.YtpdkfofoeoakmaaDoor
