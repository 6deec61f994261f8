/- The language's own words: the map of them, as the program makes it; the table of blanks being laid. -/
import Derived.Test.YtpdkfofoeoakmaaDoorSg7
import Derived.Test.YtpdkfofoeoakmaaDoorMapS
namespace Go.Proofs.YtpdkfofoeoakmaaDoor
open Go.RowKit Go.Sub

def keysText : List UInt8 := [97, 110, 100, 32, 97, 115, 32, 98, 114, 101, 97, 107, 32, 99, 97, 116, 99, 104, 32, 100, 101, 102, 32, 101, 108, 105, 102, 32, 101, 108, 115, 101, 32, 101, 110, 100, 32, 102, 111, 114, 101, 97, 99, 104, 32, 105, 102, 32, 105, 109, 112, 111, 114, 116, 32, 105, 110, 99, 108, 117, 100, 101, 32, 108, 97, 98, 101, 108, 32, 109, 111, 100, 117, 108, 101, 32, 111, 114, 32, 114, 101, 100, 117, 99, 101, 32, 116, 104, 101, 110, 32, 116, 114, 121]
def keysL : List (List UInt8) := [[97, 110, 100], [97, 115], [98, 114, 101, 97, 107], [99, 97, 116, 99, 104], [100, 101, 102], [101, 108, 105, 102], [101, 108, 115, 101], [101, 110, 100], [102, 111, 114, 101, 97, 99, 104], [105, 102], [105, 109, 112, 111, 114, 116], [105, 110, 99, 108, 117, 100, 101], [108, 97, 98, 101, 108], [109, 111, 100, 117, 108, 101], [111, 114], [114, 101, 100, 117, 99, 101], [116, 104, 101, 110], [116, 114, 121]]
theorem keys_fields : Lib.fields keysText = keysL := by decide +kernel
theorem keys_ascii : ∀ (j : Nat) b, (⟨keysText.toArray⟩ : ByteArray).data.toList[j]? = some b → b.toNat < 128 := by
  have key : ∀ b ∈ keysText, b.toNat < 128 := by decide +kernel
  exact fun j b hb => key b (List.mem_of_getElem? (by simpa using hb))
def isKey (l : List UInt8) : Bool := keysL.contains l

theorem gSpace : Tryd.prog.globalNamed "strings.asciiSpace" = some 0 := by kernel_rfl
theorem hi9 : (Tryd.prog.info? 9).map (fun i => (i.zero, i.size, i.bytes)) = some (some (.string ByteArray.empty), 1, 16) := by kernel_rfl
def TabX (w : World) : Prop := ∀ c : Nat, c < 256 → w.cell? ⟨0, c, none⟩ = some (.int .u8 (if Lib.isSp (UInt8.ofNat c) then 1 else 0))
theorem TabX.keeps {O : Nat → Prop} {w w' : World} (h : TabX w) (k : Keeps O w w') (h0 : ¬ O 0) : TabX w' := fun c hc => k.cell (h c hc) h0
theorem TabX.below {w w' : World} (h : TabX w) (hb : Below w.heap.size w w') : TabX w' := h.keeps (O := fun _ => False) (Keeps.of_below' hb) (fun h => h)
theorem fields_calls (s : ByteArray) (w : World) (hs : s.size < 4294967281) (hascii : ∀ (j : Nat) b, s.data.toList[j]? = some b → b.toNat < 128) (hT : TabX w) :
    Calls Tryd.prog 65 #[.string s] w fun e w' => e = .returned (.slice (some ⟨w.heap.size, 0, none⟩) (Lib.fields s.data.toList).length (Lib.fields s.data.toList).length) ∧ w' = w.alloc (.cells ((Lib.fields s.data.toList).map fun l => Value.string ⟨l.toArray⟩).toArray 9) :=
  Any.strings_Fields_core { Tryd.laysM157 with } hi9 s w hs hascii hT
theorem keysfields_calls (w : World) (hT : TabX w) :
    Calls Tryd.prog 65 #[.string ⟨keysText.toArray⟩] w fun e w' => e = .returned (.slice (some ⟨w.heap.size, 0, none⟩) 18 18) ∧ w' = w.alloc (.cells (keysL.map fun l => Value.string ⟨l.toArray⟩).toArray 9) := by
  refine (fields_calls _ w (by decide +kernel) keys_ascii hT).mono ?_
  have e : Lib.fields (⟨keysText.toArray⟩ : ByteArray).data.toList = keysL := keys_fields
  rw [e]
  exact fun e w' h => h
def keyKV (l : List (List UInt8)) : List (ByteArray × Value) := l.foldl (fun kvs x => putS kvs ⟨x.toArray⟩ (.bool true)) []
theorem map60 : Tryd.prog.underlying 60 = some (.map 9 4) := by kernel_rfl
theorem str9 : Tryd.prog.underlying 9 = some .string := by kernel_rfl
set_option maxRecDepth 100000 in
set_option maxHeartbeats 1000000 in
theorem keys_calls (w : World) (hT : TabX w) :
    Calls Tryd.prog 47 #[] w fun e w' => e = .returned (.map (some w.heap.size)) ∧ w'.heap[w.heap.size]? = some (mapObj (keyKV keysL)) ∧ Below w.heap.size w w' := by
  have hmm := @run_makeMap Tryd.prog
  have hfl := fun o => keysfields_calls (w.alloc o) (hT.below ((Below.refl _ w).alloc (Nat.le_refl _) _))
  have Hfl := Lib.hid hfl
  clear hfl
  go_enter Tryd.func47, Tryd.ntmps47
  go_wp2_with (go_at_call 65; refine (Hfl.out _).mono ?_; rintro e w' ⟨rfl, rfl⟩)
  clear hmm Hfl
  have hm0 : ((w.alloc (.map #[] 0)).alloc (.cells (keysL.map fun l => Value.string ⟨l.toArray⟩).toArray 9)).heap[w.heap.size]? = some (mapObj (keyKV (keysL.take 0))) :=
    (Below.heap_alloc _ _ _ (by simp)).trans (World.alloc_heap_new _ _)
  have hc0 : ((w.alloc (.map #[] 0)).alloc (.cells (keysL.map fun l => Value.string ⟨l.toArray⟩).toArray 9)).heap[w.heap.size + 1]? = some (.cells (keysL.map fun l => Value.string ⟨l.toArray⟩).toArray 9 (0, 0)) := by
    have := World.alloc_heap_new (w.alloc (.map #[] 0)) (.cells (keysL.map fun l => Value.string ⟨l.toArray⟩).toArray 9)
    rwa [World.size_alloc] at this
  have hB0 : Below w.heap.size w ((w.alloc (.map #[] 0)).alloc (.cells (keysL.map fun l => Value.string ⟨l.toArray⟩).toArray 9)) := ((Below.refl _ w).alloc (Nat.le_refl _) _).alloc (by simp) _
  generalize (w.alloc (.map #[] 0)).alloc (.cells (keysL.map fun l => Value.string ⟨l.toArray⟩).toArray 9) = W0 at *
  go_loopw [7] (fun i wr => ∃ k : Nat, k ≤ 18 ∧ i = .int .i64 k ∧ wr.heap[w.heap.size]? = some (mapObj (keyKV (keysL.take k))) ∧ wr.heap[w.heap.size + 1]? = some (.cells (keysL.map fun l => Value.string ⟨l.toArray⟩).toArray 9 (0, 0)) ∧ Below w.heap.size w wr)
    (fun i _ => 18 - (intOf i).toNat)
  case atStart => exact ⟨0, by omega, rfl, hm0, hc0, hB0⟩
  case round =>
    clear hm0 hc0 hB0 hT
    obtain ⟨k, hk, rfl, hm, hcs, hB⟩ := hrel
    by_cases hlt : k < 18
    · obtain ⟨x, hx⟩ : ∃ x, keysL[k]? = some x := ⟨_, List.getElem?_eq_getElem (show k < keysL.length from hlt)⟩
      have hck : wr.cell? ⟨w.heap.size + 1, k, none⟩ = some (.string ⟨x.toArray⟩) := cell_of_block hcs (by simp [hx])
      have hup := run_mapUpdate (P := Tryd.prog) map60 str9 hm ⟨x.toArray⟩ (.bool true)
      have hsnoc : putS (keyKV (keysL.take k)) ⟨x.toArray⟩ (.bool true) = keyKV (keysL.take (k + 1)) := by
        rw [List.take_add_one, hx]; unfold keyKV; simp
      rw [hsnoc] at hup
      have hlm := heap_lt hm
      have hkp := Keeps.putObj (O := fun b => b = w.heap.size) wr w.heap.size (mapObj (keyKV (keysL.take (k + 1)))) rfl
      have hcs2 := hkp.heap hcs (by omega)
      have hB2 := hB.trans (hkp.below hB.size fun b h => by omega)
      have hm2 := World.putObj_heap_same (o := mapObj (keyKV (keysL.take (k + 1)))) hlm
      have Hcs := Lib.hid hcs2
      have Hm := Lib.hid hm2
      clear hcs hm hsnoc hx hcs2 hm2 hkp
      go_wp2
      go_roundw
      case rel => exact ⟨k + 1, by omega, by go_num, Hm.out, Hcs.out, hB2⟩
      case measure => simp [intOf]; omega
    · obtain rfl : k = 18 := by omega
      have Hm := Lib.hid hm
      clear hm hcs
      go_wp2
      go_ret
      exact ⟨rfl, Hm.out, hB⟩
end Go.Proofs.YtpdkfofoeoakmaaDoor
