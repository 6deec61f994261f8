/- What Tokens tells of any text. No condition but fewer than 2^62 bytes. -/
import Derived.Test.YtiinhkfbgecbjaaGreatDoorLx17
namespace Go.Proofs.YtiinhkfbgecbjaaGreatDoor
set_option linter.unusedSimpArgs false
set_option linter.unusedVariables false
open Go.RowKit Go.Sub

/-- the tokens, the error, and where -/
def tokensN (s : ByteArray) : List Tok3 × Nat × Int :=
  if 65536 < s.size then ([], 3, 0) else if 0 ≤ checkFrom s 0 then ([], 10, checkFrom s 0)
  else if (lexN (s.size + 1) s.data.toList 0 [] false).2.1 = 0 then ((lexN (s.size + 1) s.data.toList 0 [] false).1, 0, 0)
  else ([], (lexN (s.size + 1) s.data.toList 0 [] false).2.1, ((lexN (s.size + 1) s.data.toList 0 [] false).2.2 : Int))
theorem ownsRow_base {A : World} {base base' : Nat} {e : TypeId} {size : Nat} {v : Value} {k : Nat} {xs : List Value} (h : A.ownsRow base e size v k xs) (hb : base' ≤ base) : A.ownsRow base' e size v k xs := by
  refine ⟨h.1, ?_⟩
  rcases h.2 with h0 | ⟨g, cap, cur, h1, h2, h3⟩
  · exact .inl h0
  · exact .inr ⟨g, cap, cur, h1, Nat.le_trans hb h2, h3⟩
/-- the call has told this -/
def TokPost (s : ByteArray) (w : World) (r : List Tok3 × Nat × Int) (e : Ending) (w' : World) : Prop :=
  ∃ v, e = .returned (.tuple #[v, .int .u16 (r.2.1 : Int), .int .i64 r.2.2]) ∧ w'.ownsRow w.heap.size 29 2 v r.1.length (tokC s.data.toList r.1) ∧ Below w.heap.size w w'
theorem all_calls (X : Nat) (w : World) :
    Calls Tryz.prog 42 #[.pointer (some ⟨X, 0, none⟩)] w fun e w' => e = .returned (.func (.func 60) #[] #[.pointer (some ⟨w.heap.size, 0, none⟩)]) ∧ w' = w.alloc (.cells #[.pointer (some ⟨X, 0, none⟩)] 76) := by
  go_enter Tryz.func42, Tryz.ntmps42
  go_wp2
  go_ret
  exact ⟨rfl, rfl⟩
theorem collect_calls (X B1 : Nat) (s : ByteArray) (hs : s.size ≤ 65536) (hd1 : B1 ≠ X) (w : World) (hst : LexSt w X s 0 (.slice none 0 0) [] false 0) (hb1 : Boxed w B1 76 (.pointer (some ⟨X, 0, none⟩))) :
    Calls Tryz.prog 41 #[.func (.func 60) #[] #[.pointer (some ⟨B1, 0, none⟩)]] w fun e W' => ∃ v ys, e = .returned v ∧ Told s X ys W' ∧ W'.ownsRow w.heap.size 29 2 v ys.length (tokC s.data.toList ys) ∧ Keeps (fun b => b = X) w W' := by
  have h := callsIn_wide.1 (appendSeq_in 5 (Nat.le_refl _) X B1 s hs hd1 w hst hb1)
  have H := Lib.hid h
  clear h
  go_enter Tryz.func41, Tryz.ntmps41
  go_wp2_with (go_at_call 59; refine (H.out).mono ?_; rintro e w' ⟨v, ys, rfl, h1, h2, h3⟩)
  go_ret
  exact ⟨v, ys, rfl, h1, h2, h3⟩
set_option maxRecDepth 100000 in
set_option maxHeartbeats 2000000 in
theorem tokens_calls (s : ByteArray) (w : World) (hs : s.size < 4611686018427387904) :
    Calls Tryz.prog 25 #[.string s] w (TokPost s w (tokensN s)) := by
  by_cases h1 : 65536 < s.size
  · have hr : tokensN s = ([], 3, 0) := by unfold tokensN; rw [if_pos h1]
    rw [hr]
    go_enter Tryz.func25, Tryz.ntmps25
    go_wp2
    exact bodyPost_ret (v := .tuple #[.slice none 0 0, .int .u16 3, .int .i64 0]) (by simp [results, Tryz.results25, go_sem]) rfl ⟨_, rfl, World.ownsRow_nil _ _ _ _, Below.refl _ _⟩
  · have hck := check_calls s w hs
    by_cases h2 : 0 ≤ checkFrom s 0
    · have hr : tokensN s = ([], 10, checkFrom s 0) := by unfold tokensN; rw [if_neg h1, if_pos h2]
      rw [hr]
      have Hck := Lib.hid hck
      generalize checkFrom s 0 = k at *
      clear hck hr
      go_enter Tryz.func25, Tryz.ntmps25
      go_wp2_with (go_at_call 40; refine (Hck.out).mono ?_; rintro e w' ⟨rfl, hb⟩)
      exact bodyPost_ret (v := .tuple #[.slice none 0 0, .int .u16 10, .int .i64 k]) (by simp [results, Tryz.results25, go_sem]) rfl ⟨_, rfl, World.ownsRow_nil _ _ _ _, hb⟩
    · have hr : tokensN s = if (lexN (s.size + 1) s.data.toList 0 [] false).2.1 = 0 then ((lexN (s.size + 1) s.data.toList 0 [] false).1, 0, 0)
          else ([], (lexN (s.size + 1) s.data.toList 0 [] false).2.1, ((lexN (s.size + 1) s.data.toList 0 [] false).2.2 : Int)) := by unfold tokensN; rw [if_neg h1, if_neg h2]
      have Hr := Lib.hid hr
      have Hck := Lib.hid hck
      have hs2 : s.size ≤ 65536 := by omega
      generalize checkFrom s 0 = k at *
      have hcol := fun (w1 : World) => collect_calls w1.heap.size (w1.heap.size + 1) s hs2 (by omega) ((w1.alloc (.cells #[.string s, .int .i64 0, .slice none 0 0, .bool false, .int .u16 0] 80)).alloc (.cells #[.pointer (some ⟨w1.heap.size, 0, none⟩)] 76))
        ⟨(Below.heap_alloc _ _ _ (by simp)).trans (World.alloc_heap_new w1 _), World.ownsRow_nil _ _ _ _⟩ (by have := Boxed.new (w1.alloc (.cells #[.string s, .int .i64 0, .slice none 0 0, .bool false, .int .u16 0] 80)) 76 (.pointer (some ⟨w1.heap.size, 0, none⟩)); simpa using this)
      have Hcol := Lib.hid hcol
      clear hck hr hcol hs2
      go_enter Tryz.func25, Tryz.ntmps25
      go_wp2_with (first
        | (go_at_call 40; refine (Hck.out).mono ?_; rintro e w1 ⟨rfl, hb⟩; have Hb := Lib.hid hb; clear hb)
        | (go_at_call 42; refine (all_calls _ _).mono ?_; rintro e w2 ⟨rfl, rfl⟩))
      go_at_call 41
      refine (Hcol.out _).mono ?_
      rintro e W3 ⟨v, ys, rfl, ⟨at', v2, inn, er, hblk, hat, hrun⟩, hrow, hk⟩
      have x1 : W3.cell? ⟨w1.heap.size, 1, none⟩ = some (.int .i64 (at' : Int)) := cell_of_block hblk rfl
      have x4 : W3.cell? ⟨w1.heap.size, 4, none⟩ = some (.int .u16 (er : Int)) := cell_of_block hblk rfl
      have hB3 : Below w.heap.size w W3 := by
        have hA : Below w1.heap.size w1 ((w1.alloc (.cells #[.string s, .int .i64 0, .slice none 0 0, .bool false, .int .u16 0] 80)).alloc (.cells #[.pointer (some ⟨w1.heap.size, 0, none⟩)] 76)) := ((Below.refl _ _).alloc (Nat.le_refl _) _).alloc (by simp) _
        exact Hb.out.trans ((hA.trans (hk.below (by simp; omega) fun b h => by omega)).mono Hb.out.size)
      have hrow3 : W3.ownsRow w.heap.size 29 2 v ys.length (tokC s.data.toList ys) := ownsRow_base hrow (by have := Hb.out.size; simp; omega)
      have HB3 := Lib.hid hB3
      have Hrow := Lib.hid hrow3
      have Hrun := Lib.hid hrun
      clear hB3 hrow3 hrow hk hrun hblk
      by_cases he : er = 0
      · subst he
        go_wp2
        rw [Hr.out, Hrun.out, if_pos rfl]
        exact bodyPost_ret (v := .tuple #[v, .int .u16 0, .int .i64 0]) (by simp [results, Tryz.results25, go_sem]) rfl ⟨_, rfl, Hrow.out, HB3.out⟩
      · have y1 : ((er : Int) != 0) = true := by rw [bne_iff_ne]; omega
        go_wp2
        go_quiet (fail)
        go_wp2
        rw [Hr.out, Hrun.out, if_neg he]
        exact bodyPost_ret (v := .tuple #[.slice none 0 0, .int .u16 (er : Int), .int .i64 (at' : Int)]) (by simp [results, Tryz.results25, go_sem]) rfl ⟨_, rfl, World.ownsRow_nil _ _ _ _, by first | exact HB3.out | exact below_drewN HB3.out _⟩
end Go.Proofs.YtiinhkfbgecbjaaGreatDoor
