/- Two paths of one length that are not the same. Its condition: how they lie in memory. -/
import Derived.Test.YtigpffbhkopjeaaDoorNd25
import Derived.Deep.QuietTactic
namespace Go.Proofs.YtigpffbhkopjeaaDoor
open Go.RowKit Go.Sub Go.Sort
set_option maxRecDepth 100000 in
set_option maxHeartbeats 1000000 in
theorem equal_paths (xs ys : List Int) (p p' : Option Addr) (cp cp' : Nat) (w : World) (S S' : Nat → Prop) (h : IntsAt w S (.slice p xs.length cp) xs) (h' : IntsAt w S' (.slice p' xs.length cp') ys) (hl : xs.length = ys.length) (hn : xs.length ≤ 1000000000) (hne : xs ≠ ys) :
    Calls Tryd.prog 18 #[.slice p xs.length cp, .slice p' xs.length cp'] w fun e w' => e = .returned (.bool false) ∧ Below w.heap.size w w' := by
  have H := Lib.hid h
  have H' := Lib.hid h'
  have HL := Lib.hid hl
  have HNE := Lib.hid hne
  have z0 : (0 : Int) ≤ (xs.length : Int) := by omega
  clear h h' hl hne
  go_enter Tryd.func18, Tryd.ntmps18
  go_wp2
  go_loopw [5] (fun i wr => ∃ j : Nat, j ≤ xs.length ∧ i = .int .i64 j ∧ Hid (xs.take j = ys.take j) ∧ Hid (Below w.heap.size w wr)) (fun i _ => xs.length - (intOf i).toNat)
  case atStart => exact ⟨0, Nat.zero_le _, rfl, Lib.hid rfl, Lib.hid (Below.refl _ _)⟩
  case round =>
    obtain ⟨j, hj, rfl, HT, HW⟩ := hrel
    by_cases hlt : j < xs.length
    · have hx := List.getElem?_eq_getElem hlt
      have hlt' : j < ys.length := by have := HL.out; omega
      have hy := List.getElem?_eq_getElem hlt'
      obtain ⟨b, o, rfl, -, hc⟩ := H.out.at hx
      obtain ⟨b', o', rfl, -, hc'⟩ := H'.out.at hy
      have g1 := (HW.out.cell (p := ⟨b, o + j, none⟩) (World.block_lt_of_cell? _ _ hc)).trans hc
      have g2 := (HW.out.cell (p := ⟨b', o' + j, none⟩) (World.block_lt_of_cell? _ _ hc')).trans hc'
      have hdr : ∀ k, Below w.heap.size w (wr.drewN k) := fun k => HW.out.trans ⟨rfl, rfl, rfl, Nat.le_refl _, fun _ _ => rfl⟩
      have HDR := Lib.hid hdr
      have hs := fun e => list_take_eq HT.out hx hy e
      have Hs := Lib.hid hs
      clear hs hx hy hc hc' hdr
      generalize xs[j] = x at *
      generalize ys[j] = y at *
      by_cases hxy : x = y
      · have hs := Hs.out hxy
        subst hxy
        have HS := Lib.hid hs
        clear hs
        go_wp2
        go_quiet (fail)
        go_wp2
        go_roundw
        case rel => exact ⟨j + 1, by omega, by go_num, HS, Lib.hid (HDR.out _)⟩
        case measure => simp [intOf]; omega
      · have hb : (x != y) = true := by rw [bne_iff_ne]; exact hxy
        clear hxy
        go_wp2
        go_quiet (fail)
        go_wp2
        go_ret
        exact ⟨rfl, HDR.out _⟩
    · obtain rfl : j = xs.length := by omega
      exfalso
      apply HNE.out
      have := HT.out
      rwa [List.take_length, HL.out, List.take_length] at this
end Go.Proofs.YtigpffbhkopjeaaDoor
