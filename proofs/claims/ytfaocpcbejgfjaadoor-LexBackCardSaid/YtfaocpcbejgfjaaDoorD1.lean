/- What the rows list gives the walks, and how a list of choices comes in. -/
import Derived.Test.YtfaocpcbejgfjaaDoorLe2
import Derived.Test.YtfaocpcbejgfjaaDoorLaw
import Derived.Test.YtfaocpcbejgfjaaDoorCards
import Derived.Test.YtfaocpcbejgfjaaDoorTie
import Derived.Lay
import Derived.ChangeSlices
namespace Go.Proofs.YtfaocpcbejgfjaaDoor
open Go.ChangeShapes Go.WideShapes Go.ChangeAt Go.RowKit Go.Sub

theorem own : ownKnob Tryd.prog.godebug = none := by kernel_rfl
theorem laidOut : laidOutB Tryd.prog = true := by kernel_rfl
/-- a heap that holds what the rows list -/
theorem door_met (os : Os) (args : Array Value) : laidMet Tryd.prog Rows.lexLongRow.laid ((World.laidAll Tryd.prog os Rows.lexLongRow.laid).forCall (fun _ _ => 0) ⟨#[], args, []⟩).memory :=
  laidMet_laidAll _ (by kernel_rfl) (by kernel_rfl)
theorem cells5 : Tryd.prog.cellsOf 5 = 1 := by kernel_rfl
/-- a slice of bytes that lies in a world -/
def BytesAt (w : World) (a : Addr) (len : Nat) : Prop := ∀ j < len, ∃ x : UInt8, w.cell? (a.add j) = some (.int .u8 (x.toNat : Int))
def BytesV (w : World) (v : Value) : Prop := v = .slice none 0 0 ∨ ∃ a len cap, v = .slice (some a) len cap ∧ BytesAt w a len ∧ len ≤ 9223372036854775807
theorem BytesV.below {w w' : World} {v : Value} (h : BytesV w v) (hb : Below w.heap.size w w') : BytesV w' v := by
  rcases h with rfl | ⟨a, len, cap, rfl, hc, hl⟩
  · exact .inl rfl
  · refine .inr ⟨a, len, cap, rfl, fun j hj => ?_, hl⟩
    obtain ⟨x, hx⟩ := hc j hj
    exact ⟨x, (hb.cell (World.block_lt_of_cell? _ _ hx)).trans hx⟩
set_option maxRecDepth 100000 in
theorem bytes_open {H : Type} {enc : TypeId × Value → H} {W : World} {r : Go.Reach} {b0 : Nat} {sp : Nat → Bool} {v : Value} {d : DataW H} {ps : List MemPlace}
    (hval : Value.okWide Tryd.prog W r b0 22 v) (hd : DataW.Trod enc Tryd.prog W 0 sp true 22 v d ps) : BytesV W v := by
  obtain ⟨a0, len, cap, rfl⟩ := okWide_slice Tryd.underlying22 hval
  obtain ⟨fuel, hf⟩ := hd
  rcases open_ints Tryd.underlying22 Tryd.underlying5 cells5 hf with ⟨hcs, _⟩ | ⟨a, len', cap', zs, hcs, _, hl, hm, hz, _, hcell, hwz⟩
  · simp [Value.cells] at hcs
    obtain ⟨rfl, rfl, rfl⟩ := hcs
    exact .inl rfl
  · simp [Value.cells] at hcs
    obtain ⟨rfl, rfl, rfl⟩ := hcs
    refine .inr ⟨a, len, cap, rfl, fun j hj => ?_, by unfold maxLen at hm; omega⟩
    have hjz : j < zs.length := by rw [hz]; split <;> omega
    have hw := hwz (zs.getD j 0) (by rw [List.getD_eq_getElem?_getD, List.getElem?_eq_getElem hjz]; exact List.getElem_mem hjz)
    have hb : 0 ≤ zs.getD j 0 ∧ zs.getD j 0 ≤ 255 := by simpa [Lit.wf, IntKind.min, IntKind.max, IntKind.signed, IntKind.bits] using hw
    refine ⟨UInt8.ofNat (zs.getD j 0).toNat, ?_⟩
    rw [hcell j hjz, UInt8.toNat_ofNat_of_lt' (by show (zs.getD j 0).toNat < 256; omega), Int.toNat_of_nonneg hb.1]
end Go.Proofs.YtfaocpcbejgfjaaDoor
