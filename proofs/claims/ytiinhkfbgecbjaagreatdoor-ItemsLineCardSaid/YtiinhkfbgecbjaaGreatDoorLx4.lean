/- strings.IndexAny at a quote and a slash, over bytes of every kind. No condition but on a text's length. -/
import Derived.Test.YtiinhkfbgecbjaaGreatDoorLx3
import Derived.Laws.Runes
import Derived.Deep.QuietTactic
import Derived.BigQuiet
namespace Go.Proofs.YtiinhkfbgecbjaaGreatDoor
set_option linter.unusedSimpArgs false
set_option linter.unusedVariables false
open Go.RowKit Go.Sub

theorem quiet_more {P : Program} {f : FuncId} {args : Array Value} {w : World} {a n : Nat} {v : Value}
    (h : Calls P f args (w.drewN (a + n)) fun e w' => e = .returned v ∧ w' = w.drewN (a + n)) :
    Calls P f args (w.drewN (a + n)) fun e w'' => e = .returned v ∧ ∃ m, w'' = w.drewN (a + m) :=
  h.mono fun _ _ ⟨he, hm⟩ => ⟨he, n, hm⟩
def qsS : ByteArray := ⟨#[34, 92]⟩
set_option maxRecDepth 100000 in
set_option maxHeartbeats 2000000 in
theorem irune_high (r : Int) (h : 128 ≤ r) (w : World) :
    Calls Tryz.prog 116 #[.string ⟨#[34, 92]⟩, .int .i32 r] w fun e w' => e = .returned (.int .i64 (-1)) ∧ Below w.heap.size w w' := by
  have hv := Tryz.utf8_ValidRune r
  by_cases h65 : r = 65533
  · subst h65
    go_enter Tryz.func116, Tryz.ntmps116
    go_wp2
    go_loopw [] (fun wr => ∃ pos : Nat, pos ≤ 2 ∧ wr = w.iter ⟨#[34, 92]⟩ pos) (fun wr => 2 - wr.iterPos w.heap.size)
    case atStart => exact ⟨0, by omega, rfl⟩
    case round =>
      obtain ⟨pos, hp, rfl⟩ := hrel
      have hps : pos = 0 ∨ pos = 1 ∨ pos = 2 := by omega
      rcases hps with rfl | rfl | rfl
      · have n0 := fun ty => (show (Instr.next (.pointer (some ⟨w.heap.size, 0, none⟩)) true ty).run Tryz.prog (w.iter ⟨#[34, 92]⟩ 0) = .ok (.tuple #[.bool true, .int .i64 0, .int .i32 34]) (w.iter ⟨#[34, 92]⟩ 1) from run_next_ascii w ⟨#[34, 92]⟩ 0 ty (by decide) (by decide))
        go_wp2
        go_roundw
        case rel => exact ⟨1, by omega, rfl⟩
        case measure => simp
      · have n1 := fun ty => (show (Instr.next (.pointer (some ⟨w.heap.size, 0, none⟩)) true ty).run Tryz.prog (w.iter ⟨#[34, 92]⟩ 1) = .ok (.tuple #[.bool true, .int .i64 1, .int .i32 92]) (w.iter ⟨#[34, 92]⟩ 2) from run_next_ascii w ⟨#[34, 92]⟩ 1 ty (by decide) (by decide))
        go_wp2
        go_roundw
        case rel => exact ⟨2, by omega, rfl⟩
        case measure => simp
      · have n2 := fun ty => run_next_end (P := Tryz.prog) w ⟨#[34, 92]⟩ 2 ty (by decide)
        go_wp2
        go_ret
        exact ⟨rfl, (Below.refl _ _).alloc (Nat.le_refl _) _⟩
  · have y1 : (r == 65533) = false := by simpa using h65
    have hnlt : ¬ r < 128 := by omega
    cases hval : Lib.validRune r
    · rw [hval] at hv
      have Hv := Lib.hid hv
      clear hv hval
      go_enter Tryz.func116, Tryz.ntmps116
      go_wp2_with (go_at_call 127; refine (Hv.out _).mono ?_; rintro e w' ⟨rfl, rfl⟩)
      go_ret
      exact ⟨rfl, Below.refl _ _⟩
    · rw [hval] at hv
      have hval2 : Utf8.valid r = true := by
        unfold Lib.validRune at hval
        rw [decide_eq_true_eq] at hval
        unfold Utf8.valid
        simp
        omega
      obtain ⟨e1, e2, e3⟩ := encode_facts r hval2 h
      have Hv := Lib.hid hv
      clear hv hval
      have hcv : ∀ w, (convert 21 9 (.int .i32 r)).run Tryz.prog w = .ok (.string (Utf8.encode r)) w := fun w => run_convert_int_string w 21 9 .i32 r (by rw [Tryz.underlying21]; rfl) Tryz.underlying9
      generalize Utf8.encode r = E at *
      by_cases hE : E.size = 2
      · have e4 : 128 ≤ E[1].toNat := by
          have := e3 (by omega)
          simp only [hE] at this
          exact this
        have y2 : ((92 : Int) != (E[1].toNat : Int)) = true := by rw [bne_iff_ne]; omega
        have y3 : ((92 : Int) = (E[1].toNat : Int)) = False := by apply eq_false; omega
        have y4 : (((({ data := #[34, 92] } : ByteArray)[1]'(by decide)).toNat : Int) != (E[1].toNat : Int)) = true := y2
        have hib : ∀ w, Calls Tryz.prog 92 #[.string ⟨#[]⟩, .int .u8 (E[1].toNat : Int)] w fun e w' => e = .returned (.int .i64 (-1)) ∧ w' = w := fun w => Tryz.strings_IndexByte ⟨#[]⟩ (E[1].toNat : Int) w
        have l1 : 1 < E.size := by omega
        have Hib := Lib.hid hib
        clear e2 e3 hib
        go_enter Tryz.func116, Tryz.ntmps116
        go_wp2_with (go_at_call 127; refine (Hv.out _).mono ?_; rintro e w' ⟨rfl, rfl⟩)
        go_step3
        go_wp2
        clear hcv
        go_loopw [9, 10] (fun i f wr => i = .int .i64 1 ∧ f = .int .i64 0 ∧ wr = w') (fun _ _ _ => 0)
        case atStart => exact ⟨rfl, rfl, rfl⟩
        case round =>
          obtain ⟨rfl, rfl, rfl⟩ := hrel
          go_wp2
          go_step3
          go_wp2
          go_quiet (fail)
          go_wp2
          go_quiet ((go_at_call 92; (first | exact Calls.quiet_of_same (Hib.out _) | exact quiet_more (Hib.out _))))
          go_wp2
          rw [Exit.noGoto_ret]
          go_wp2
          rw [Exit.noGoto_ret]
          go_ret
          exact ⟨rfl, below_drewN (Below.refl _ _) _⟩
      · have l1 : 2 < E.size := by omega
        clear e1 e3
        go_enter Tryz.func116, Tryz.ntmps116
        go_wp2_with (go_at_call 127; refine (Hv.out _).mono ?_; rintro e w' ⟨rfl, rfl⟩)
        go_step3
        go_wp2
        clear hcv
        go_loopw [9, 10] (fun i f wr => i = .int .i64 ((E.size : Int) - 1) ∧ f = .int .i64 0 ∧ wr = w') (fun _ _ _ => 0)
        case atStart => exact ⟨rfl, rfl, rfl⟩
        case round =>
          obtain ⟨rfl, rfl, rfl⟩ := hrel
          go_wp2
          rw [Exit.noGoto_ret]
          go_ret
          exact ⟨rfl, Below.refl _ _⟩

theorem run_next_at {P : Program} (w : World) (k : Nat) (s : ByteArray) (pos : Nat) (ty : TypeId) (hk : w.heap[k]? = some (.stringIter s pos)) (h : pos < s.size) :
    (Instr.next (.pointer (some ⟨k, 0, none⟩)) true ty).run P w = .ok (.tuple #[.bool true, .int .i64 pos, .int .i32 (Utf8.decode s pos).1]) (w.putObj k (.stringIter s (pos + (Utf8.decode s pos).2))) := by
  simp only [Instr.next, getObj, setObj, Sem.run_bind, Sem.run, hk, Result.andThen, h, if_true]
  simp [goInt, World.putObj]
theorem run_next_done {P : Program} (w : World) (k : Nat) (s : ByteArray) (pos : Nat) (ty : TypeId) (hk : w.heap[k]? = some (.stringIter s pos)) (h : ¬ pos < s.size) :
    (Instr.next (.pointer (some ⟨k, 0, none⟩)) true ty).run P w = .ok (.tuple #[.bool false]) w := by
  simp only [Instr.next, getObj, setObj, Sem.run_bind, Sem.run, hk, Result.andThen, h, if_false]
  simp
theorem pos_at {w : World} {k : Nat} {s : ByteArray} {p : Nat} (h : w.heap[k]? = some (.stringIter s p)) : w.iterPos k = p := by
  unfold World.iterPos; rw [h]
theorem qs_byte (b : UInt8) : (isQS b = true → 0 ≤ Lib.indexByte [34, 92] b) ∧ (isQS b = false → Lib.indexByte [34, 92] b = -1) := by
  have := u8_all (p := fun b => (!isQS b || decide (0 ≤ Lib.indexByte [34, 92] b)) && (isQS b || Lib.indexByte [34, 92] b == -1)) (by decide +kernel) b
  cases h : isQS b
  · rw [h] at this; simp at this; exact ⟨fun h => by simp at h, fun _ => this⟩
  · rw [h] at this; simp at this; exact ⟨fun _ => this, fun h => by simp at h⟩
theorem irune_low (b : UInt8) (hb : b.toNat < 128) (w : World) :
    Calls Tryz.prog 116 #[.string ⟨#[34, 92]⟩, .int .i32 (b.toNat : Int)] w fun e w' => e = .returned (.int .i64 (Lib.indexByte [34, 92] b)) ∧ w' = w := by
  have := Tryz.strings_IndexRune_ascii ⟨#[34, 92]⟩ (b.toNat : Int) w (by omega) (by omega)
  rw [u8_back] at this
  exact this
set_option maxRecDepth 100000 in
set_option maxHeartbeats 2000000 in
theorem iany_short (s : ByteArray) (h8 : s.size ≤ 8) (w : World) :
    Calls Tryz.prog 104 #[.string s, .string ⟨#[34, 92]⟩] w fun e w' => e = .returned (.int .i64 (Lib.indexAny s.data.toList qsChars)) ∧ Below w.heap.size w w' := by
  have hsh := Tryz.strings_shouldUseASCIISet (s.size : Int)
  rw [decide_eq_false (by omega)] at hsh
  have Hsh := Lib.hid hsh
  have Hsz := Lib.hid (Lib.size_eq s)
  clear hsh
  go_enter Tryz.func104, Tryz.ntmps104
  go_wp2_with (go_at_call 117; refine (Hsh.out _).mono ?_; rintro e w' ⟨rfl, rfl⟩)
  have hk0 := World.iter_heap w' s 0
  have hB0 : Below w'.heap.size w' (w'.iter s 0) := (Below.refl _ _).alloc (Nat.le_refl _) _
  generalize w'.iter s 0 = W0 at *
  go_loopw [] (fun wr => ∃ pos : Nat, pos ≤ s.size ∧ Hid (NoQS s pos) ∧ Hid (wr.heap[w'.heap.size]? = some (.stringIter s pos)) ∧ Below w'.heap.size w' wr) (fun wr => s.size - wr.iterPos w'.heap.size)
  case atStart => exact ⟨0, by omega, Lib.hid (fun j hj => by omega), Lib.hid hk0, hB0⟩
  case round =>
    clear hk0 hB0
    obtain ⟨pos, hp, Hno, Hk, hB⟩ := hrel
    have hany := noAny_of Hno.out hp
    have hlt0 := heap_lt Hk.out
    by_cases hlt : pos < s.size
    · have hn := fun ty => run_next_at (P := Tryz.prog) wr w'.heap.size s pos ty Hk.out hlt
      have hat : s.data.toList[pos]? = some s[pos] := by rw [List.getElem?_eq_getElem (by rw [← Hsz.out]; exact hlt)]; rfl
      have hk2 : ∀ o, (wr.putObj w'.heap.size o).heap[w'.heap.size]? = some o := fun o => World.putObj_heap_same hlt0
      have hB2 : ∀ o, Below w'.heap.size w' (wr.putObj w'.heap.size o) := fun o => hB.trans ((Keeps.putObj (O := fun b => b = w'.heap.size) wr _ o rfl).below hB.size fun b h => by omega)
      by_cases hb : s[pos].toNat < 128
      · rw [decode_ascii s pos hlt hb] at hn
        have hk3 := hk2 (.stringIter s (pos + 1))
        have hB3 := hB2 (.stringIter s (pos + 1))
        generalize wr.putObj w'.heap.size (.stringIter s (pos + 1)) = W2 at *
        cases hq : isQS s[pos]
        · have hi := (qs_byte s[pos]).2 hq
          have hno : NoQS s (pos + 1) := fun j hj hs => by
            by_cases e : j = pos
            · subst e; exact hq
            · exact Hno.out j (by omega) hs
          have Hno2 := Lib.hid hno
          have Hk3 := Lib.hid hk3
          have HP := pos_at Hk.out
          have HP3 := pos_at hk3
          have Hir := Lib.hid (irune_low s[pos] hb)
          rw [hi] at Hir
          clear hk2 hB2 hno hk3 hany hi hq hat hB
          have HQ := Lib.hid (And.intro HP HP3)
          clear HP HP3
          go_wp2_with (go_at_call 116; refine (Hir.out _).mono ?_; rintro e w4 ⟨rfl, rfl⟩)
          go_roundw
          case rel => exact ⟨pos + 1, by omega, Hno2, Hk3, hB3⟩
          case measure => rw [HQ.out.1, HQ.out.2]; omega
        · have hi := (qs_byte s[pos]).1 hq
          have hr := Lib.indexAny_hit hany hat (by rw [qs_contains]; exact hq)
          have Hr := Lib.hid hr
          have Hir := Lib.hid (irune_low s[pos] hb)
          generalize Lib.indexByte [34, 92] s[pos] = z at *
          clear hk2 hB2 hk3 hany hq hat hB hr
          go_wp2_with (go_at_call 116; refine (Hir.out _).mono ?_; rintro e w4 ⟨rfl, rfl⟩)
          go_ret
          exact ⟨by rw [Hr.out]; rfl, hB3⟩
      · have hd := Go.decode_high s pos hlt (by omega)
        have hf := decode_far s pos hlt (by omega)
        have hk3 := hk2 (.stringIter s (pos + (Utf8.decode s pos).2))
        have hB3 := hB2 (.stringIter s (pos + (Utf8.decode s pos).2))
        have hno := noQS_far Hno.out hf
        have hfl := hf.1
        clear hk2 hB2 hf
        generalize Utf8.decode s pos = D at *
        obtain ⟨r, k⟩ := D
        dsimp only at *
        generalize wr.putObj w'.heap.size (.stringIter s (pos + k)) = W2 at *
        have Hno2 := Lib.hid hno
        have Hk3 := Lib.hid hk3
        have HQ := Lib.hid (And.intro (pos_at Hk.out) (pos_at hk3))
        have Hir := Lib.hid (irune_high (r : Int) (by omega))
        obtain ⟨hd1, hd2⟩ := hd
        clear hno hk3 hany hat hB hb
        go_wp2_with (go_at_call 116; refine (Hir.out _).mono ?_; rintro e w4 ⟨rfl, hb4⟩)
        have hk4 := hb4.block w'.heap.size (heap_lt Hk3.out)
        rw [Hk3.out] at hk4
        go_roundw
        case rel => exact ⟨pos + k, by omega, Hno2, Lib.hid hk4, hB3.trans (hb4.mono hB3.size)⟩
        case measure => rw [HQ.out.1, pos_at hk4]; omega
    · have hn := fun ty => run_next_done (P := Tryz.prog) wr w'.heap.size s pos ty Hk.out hlt
      have e : pos = s.data.toList.length := by rw [← Hsz.out]; omega
      rw [e] at hany
      have Hr := Lib.hid (Lib.indexAny_none hany)
      clear hany e
      go_wp2
      go_ret
      exact ⟨by rw [Hr.out]; rfl, hB⟩
end Go.Proofs.YtiinhkfbgecbjaaGreatDoor
