/- The document's answer for runes: any text; where there is none. Its condition: a text of fewer than 2^62 bytes. · The document's lexer: a token more. Its condition: how the tokens lie in memory. · The document's lexer: a step inside of a string. Its condition: how the tokens and the brackets lie in memory; a text of at most 65536 bytes. · The document's lexer: a step outside of strings. Its condition: how the tokens and the brackets lie in memory; a text of at most 65536 bytes. · The document's answer: the tokens of any text. Its condition: a text of fewer than 2^62 bytes. · How many tokens there are. Its condition: how the tokens lie in memory. -/
import Derived.Test.YtiinhkfbgecbjaaGreatDoorB2
import Derived.Test.YtiinhkfbgecbjaaGreatDoorB1
namespace Go.Proofs.YtiinhkfbgecbjaaGreatDoor
set_option linter.unusedSimpArgs false
set_option linter.unusedVariables false
open Go.RowKit Go.Sub

theorem empty_of {s : ByteArray} (h : s.size = 0) : s = ByteArray.empty := by
  have h1 : s.data.toList = [] := List.length_eq_zero_iff.1 (by rw [← Lib.size_eq]; exact h)
  have h2 : (⟨s.data.toList.toArray⟩ : ByteArray) = s := by cases s; rfl
  rw [← h2, h1]; rfl
set_option maxRecDepth 100000 in
set_option maxHeartbeats 4000000 in
theorem rone_calls (s : ByteArray) (w : World) (hs : s.size < 4611686018427387904) :
    Calls Tryz.prog 36 #[.string s] w fun e w' => e = .returned (.int .i64 (oneN s.data.toList : Nat)) ∧ Below w.heap.size w w' := by
  by_cases h0 : s.size = 0
  · obtain rfl := empty_of h0
    have Hv := Lib.hid (show oneN (ByteArray.empty).data.toList = 0 from rfl)
    go_enter Tryz.func36, Tryz.ntmps36
    go_wp2
    go_ret
    exact ⟨by rw [Hv.out]; rfl, Below.refl _ _⟩
  · replace h0 : 0 < s.size := by omega
    have hlt := UInt8.toNat_lt s[0]
    by_cases c0 : s[0].toNat ≤ 127
    · exact rone0 s w hs h0 (Nat.zero_le _) c0 h0
    · have he3 : (s = ByteArray.empty) = False := by apply eq_false; intro e; rw [e] at h0; exact absurd h0 (by decide)
      obtain ⟨he1, he2⟩ := not_empty s h0
      have G0 := Lib.hid (getD_at h0)
      have HL := Lib.hid (Lib.size_eq s)
      have cm := fun w => rmore_calls s[0].toNat hlt w
      by_cases c1 : 194 ≤ s[0].toNat ∧ s[0].toNat ≤ 223
      · by_cases hn : 1 < s.size
        · exact rone1 s w hs h0 c1.1 c1.2 hn
        · have hm : moreB s[0].toNat = 1 := by unfold moreB; rw [if_neg (by omega), if_pos c1]
          have hs1 : s.size = 1 := by omega
          have Hv := Lib.hid (one_zero h0 (dec_bad _ _ _ _ _ (by rw [G0.out]; omega) (by rw [G0.out]; omega) (.inr (.inl ⟨by rw [G0.out]; omega, .inl (by rw [← HL.out]; omega)⟩)) (blt _ _) (blt _ _) (blt _ _))) 
          rw [hm] at cm 
          have Cm := Lib.hid cm 
          clear cm hm 
          go_enter Tryz.func36, Tryz.ntmps36 
          go_wp2_with (go_at_call 48; refine (Cm.out _).mono ?_; rintro e w1 ⟨rfl, hw⟩; rw [hw]; clear hw) 
          go_ret 
          exact ⟨by rw [Hv.out]; rfl, Below.refl _ _⟩
      · by_cases c2 : 224 ≤ s[0].toNat ∧ s[0].toNat ≤ 239
        · by_cases hn : 2 < s.size
          · exact rone2 s w hs h0 c2.1 c2.2 hn
          · have hm : moreB s[0].toNat = 2 := by unfold moreB; rw [if_neg (by omega), if_neg c1, if_pos c2]
            have Hv := Lib.hid (one_zero h0 (dec_bad _ _ _ _ _ (by rw [G0.out]; omega) (by rw [G0.out]; omega) (.inr (.inr (.inl ⟨by rw [G0.out]; omega, by rw [G0.out]; omega, .inl (by rw [← HL.out]; omega)⟩))) (blt _ _) (blt _ _) (blt _ _))) 
            rw [hm] at cm 
            have Cm := Lib.hid cm 
            clear cm hm 
            go_enter Tryz.func36, Tryz.ntmps36 
            go_wp2_with (go_at_call 48; refine (Cm.out _).mono ?_; rintro e w1 ⟨rfl, hw⟩; rw [hw]; clear hw) 
            go_ret 
            exact ⟨by rw [Hv.out]; rfl, Below.refl _ _⟩
        · by_cases c3 : 240 ≤ s[0].toNat ∧ s[0].toNat ≤ 244
          · by_cases hn : 3 < s.size
            · exact rone3 s w hs h0 c3.1 c3.2 hn
            · have hm : moreB s[0].toNat = 3 := by unfold moreB; rw [if_neg (by omega), if_neg c1, if_neg c2, if_pos c3]
              have Hv := Lib.hid (one_zero h0 (dec_bad _ _ _ _ _ (by rw [G0.out]; omega) (by rw [G0.out]; omega) (.inr (.inr (.inr ⟨by rw [G0.out]; omega, .inl (by rw [← HL.out]; omega)⟩))) (blt _ _) (blt _ _) (blt _ _))) 
              rw [hm] at cm 
              have Cm := Lib.hid cm 
              clear cm hm 
              go_enter Tryz.func36, Tryz.ntmps36 
              go_wp2_with (go_at_call 48; refine (Cm.out _).mono ?_; rintro e w1 ⟨rfl, hw⟩; rw [hw]; clear hw) 
              go_ret 
              exact ⟨by rw [Hv.out]; rfl, Below.refl _ _⟩
          · have hm : moreB s[0].toNat = -1 := by
              unfold moreB
              rw [if_neg (by omega), if_neg c1, if_neg c2, if_neg c3]
            have Hv := Lib.hid (one_zero h0 (dec_bad _ _ _ _ _ (by rw [G0.out]; omega) (by rw [G0.out]; omega) (.inl (by rw [G0.out]; omega)) (blt _ _) (blt _ _) (blt _ _))) 
            rw [hm] at cm 
            have Cm := Lib.hid cm 
            clear cm hm 
            go_enter Tryz.func36, Tryz.ntmps36 
            go_wp2_with (go_at_call 48; refine (Cm.out _).mono ?_; rintro e w1 ⟨rfl, hw⟩; rw [hw]; clear hw) 
            go_ret 
            exact ⟨by rw [Hv.out]; rfl, Below.refl _ _⟩
theorem one_bad {s : ByteArray} {n : Nat} (h : n < s.size) (h0 : oneN (s.data.toList.drop n) = 0) : checkFrom s n = n := by
  refine check_bad h ?_
  rw [badAt_drop]
  cases hb : badL (s.data.toList.drop n)
  · exfalso
    have hne : s.data.toList.drop n ≠ [] := fun e => by
      have := congrArg List.length e
      rw [List.length_drop, ← Lib.size_eq] at this
      simp at this; omega
    have hg := (good_iff _).1 hb
    unfold oneN at h0
    rw [if_neg hne, if_neg hg] at h0
    have := dec_le hne
    omega
  · rfl
theorem one_good {s : ByteArray} {n : Nat} (h : n < s.size) (h0 : oneN (s.data.toList.drop n) ≠ 0) : checkFrom s n = checkFrom s (n + oneN (s.data.toList.drop n)) ∧ n + oneN (s.data.toList.drop n) ≤ s.size := by
  have hne : s.data.toList.drop n ≠ [] := fun e => by
    have := congrArg List.length e
    rw [List.length_drop, ← Lib.size_eq] at this
    simp at this; omega
  have hg : Lib.decodeL (s.data.toList.drop n) ≠ (65533, 1) := fun e => h0 (by unfold oneN; rw [if_neg hne, if_pos e])
  have hv : oneN (s.data.toList.drop n) = (Utf8.decode s n).2 := by unfold oneN; rw [if_neg hne, if_neg hg, Lib.decodeL_drop]
  rw [hv]
  exact ⟨check_good h (by rw [badAt_drop]; exact (good_iff _).2 hg), (decode_step s n h).2⟩
set_option maxRecDepth 100000 in
set_option maxHeartbeats 2000000 in
theorem rcheck_calls (s : ByteArray) (w : World) (hs : s.size < 4611686018427387904) :
    Calls Tryz.prog 20 #[.string s] w fun e w' => e = .returned (.int .i64 (checkFrom s 0)) ∧ Below w.heap.size w w' := by
  go_enter Tryz.func20, Tryz.ntmps20
  go_wp2
  go_loopw [3] (fun i wr => ∃ n : Nat, n ≤ s.size ∧ i = .int .i64 n ∧ Hid (checkFrom s n = checkFrom s 0) ∧ Below w.heap.size w wr) (fun i _ => s.size - (intOf i).toNat)
  case atStart => exact ⟨0, by omega, rfl, Lib.hid rfl, Below.refl _ _⟩
  case round =>
    obtain ⟨n, hn, rfl, Hg, hB⟩ := hrel
    by_cases hlt : n < s.size
    · have co := fun w => rone_calls (s.extract n s.size) w (ext_lt s n s.size hs)
      rw [ext_data] at co
      by_cases hk : oneN (s.data.toList.drop n) = 0
      · have Hst := Lib.hid (one_bad hlt hk)
        rw [hk] at co
        have Co := Lib.hid co
        clear co hk
        go_wp2_with (go_at_call 36; refine (Co.out _).mono ?_; rintro e w2 ⟨rfl, hb⟩; have hB2 := hB.trans (hb.mono hB.size); clear hb)
        go_ret
        exact ⟨by rw [← Hg.out, Hst.out]; rfl, hB2⟩
      · obtain ⟨h1, h2⟩ := one_good hlt hk
        have Hst := Lib.hid h1
        generalize oneN (s.data.toList.drop n) = k at *
        have Co := Lib.hid co
        have y0 : ((k : Int) == 0) = false := by rw [beq_eq_false_iff_ne]; omega
        clear co h1
        go_wp2_with (go_at_call 36; refine (Co.out _).mono ?_; rintro e w2 ⟨rfl, hb⟩; have hB2 := hB.trans (hb.mono hB.size); clear hb)
        go_roundw
        case rel => exact ⟨n + k, h2, by go_num, Lib.hid (by rw [← Hst.out]; exact Hg.out), hB2⟩
        case measure => simp only [intOf]; omega
    · have He := Lib.hid (check_end (s := s) hlt)
      go_wp2
      go_ret
      exact ⟨by rw [← Hg.out, He.out]; rfl, hB⟩
end Go.Proofs.YtiinhkfbgecbjaaGreatDoor
namespace Go.Proofs.YtiinhkfbgecbjaaGreatDoor
set_option linter.unusedSimpArgs false
set_option linter.unusedVariables false
open Go.RowKit Go.Sub

theorem run_append_none {P : Program} (w : World) (t ty e : TypeId) (i : TypeInfo) (ht : P.underlying t = some (.slice e)) (hi : P.info? e = some i) (p : Option Addr) (n c c2 : Nat) (hn : n ≤ c) :
    (Builtin.append_ #[t, t] ty #[.slice p n c, .slice none 0 c2]).run P w = .ok (.slice p n c) w := by
  have h1 := run_firstCells_none (P := P) w i.size 0 0 c2
  cases p with
  | none => simp [Builtin.append_, run_underlying ht, sizeOf, typeInfo, hi, Builtin.lenOf, Builtin.firstCells, hn, Sem.run_pure]
  | some a => simp [Builtin.append_, run_underlying ht, sizeOf, typeInfo, hi, Builtin.lenOf, Builtin.firstCells, hn, Sem.run_pure, storeCells]
theorem row_shape {w : World} {base : Nat} {e : TypeId} {size : Nat} {v : Value} {n : Nat} {xs : List Value} (h : w.ownsRow base e size v n xs) : ∃ p c, v = .slice p n c ∧ n ≤ c := by
  rcases h.2 with ⟨rfl, rfl⟩ | ⟨g, cap, cur, rfl, _, _, hc, _⟩
  · exact ⟨none, 0, rfl, Nat.le_refl _⟩
  · exact ⟨_, cap, rfl, hc⟩
/-- a list is laid behind one's own -/
theorem run_append_any {P : Program} (w : World) (base : Nat) (t ty e : TypeId) (i : TypeInfo) (z : Value) (size bytes : Nat) (ht : P.underlying t = some (.slice e)) (hi : P.info? e = some i) (hz : i.zero = some z)
    (hsize : i.size = size) (hby : i.bytes = bytes) (hzs : z.cells.size = size) (hsz : 0 < size)
    (v : Value) (n : Nat) (xs : List Value) (hown : w.ownsRow base e size v n xs) (b2 : Nat) (v2 : Value) (m : Nat) (ys : List Value) (hown2 : w.ownsRow b2 e size v2 m ys) (h1 : ∀ u ∈ ys, u.oneCell' = true)
    (h63 : n + m ≤ maxLen) (hbytes : (n + m) * bytes ≤ 140737488355328) (hbase : base ≤ w.heap.size) :
    ∃ v' w', (Builtin.append_ #[t, t] ty #[v, v2]).run P w = .ok v' w' ∧ w'.ownsRow base e size v' (n + m) (xs ++ ys) ∧ Keeps (fun b => some b = v.ownBlock) w w' := by
  have hl2 := hown2.1
  rcases hown2.2 with ⟨rfl, rfl⟩ | ⟨g, cap, cur, rfl, h2⟩
  · obtain ⟨p, c, rfl, hc⟩ := row_shape hown
    have : ys = [] := List.length_eq_zero_iff.1 (by omega)
    subst this
    exact ⟨_, w, run_append_none w t ty e i ht hi p n c 0 hc, by rw [List.append_nil]; exact hown, Keeps.refl _ _⟩
  · obtain ⟨v', w', hr, r1, r2, r3, r4⟩ := run_append_own2 (P := P) w base t ty e i z size bytes ht hi hz hsize hby hzs hsz v n xs hown ⟨g, 0, none⟩ m cap ys hl2 (fun j u hj => hown2.cells (g := g) rfl j u hj) h1 h63 hbytes hbase
    exact ⟨v', w', hr, r1, Keeps.of_grownBy r2 fun r h => h.symm⟩
theorem wpList_append_any {P : Program} (w : World) {ops : Array Oper} {rest : List Oper} {o : Oper} {a : Act} {Q : Exit → Act → World → Prop}
    (hg : o.guard = none) (s x : Operand) (t : TypeId) (hop : o.op = Op.call { callee := Callee.builtin Builtin.append, args := #[s, x], argTypes := #[t, t] })
    (base : Nat) (e : TypeId) (i : TypeInfo) (z : Value) (size bytes : Nat) (h1 : P.underlying t = some (.slice e)) (h2 : P.info? e = some i) (h3 : i.zero = some z) (h4 : i.size = size) (h5 : i.bytes = bytes) (h6 : z.cells.size = size) (h7 : 0 < size)
    (v : Value) (k : Nat) (xs : List Value) (hs : a.eval s = v) (hown : w.ownsRow base e size v k xs) (b2 : Nat) (v2 : Value) (m : Nat) (ys : List Value) (hx : a.eval x = v2) (hown2 : w.ownsRow b2 e size v2 m ys)
    (h1c : ∀ u ∈ ys, u.oneCell' = true) (b1 : k + m ≤ maxLen) (b3 : (k + m) * bytes ≤ 140737488355328) (b4 : base ≤ w.heap.size)
    (hK : ∀ v' w', w'.ownsRow base e size v' (k + m) (xs ++ ys) → Keeps (fun b => some b = v.ownBlock) w w' → wpList P ops Q rest (a.put o.dst v') w') :
    wpList P ops Q (o :: rest) a w := by
  refine wpList_plain hg fun K hK' => ?_
  obtain ⟨v', w', hrun, r1, r2⟩ := run_append_any (P := P) w base t o.type e i z size bytes h1 h2 h3 h4 h5 h6 h7 v k xs hown b2 v2 m ys hown2 h1c b1 b3 b4
  unfold Oper.wp
  simp [execOp, hop, resolve, invoke, builtin, hs, hx, hrun, Result.andThen]
  exact hK' _ _ (hK v' w' r1 r2)
/-- a lexer of the document, as a value -/
def LV (s : ByteArray) (at' : Nat) (vL vO : Value) (inn : Bool) (er : Nat) : Value := .agg #[.string s, .int .i64 (at' : Int), vL, vO, .bool inn, .int .i64 (er : Int)]
theorem rows_apart {w : World} {b1 b2 : Nat} {e1 e2 : TypeId} {s1 s2 : Nat} {v1 v2 : Value} {n1 n2 : Nat} {x1 x2 : List Value} (h1 : w.ownsRow b1 e1 s1 v1 n1 x1) (h2 : w.ownsRow b2 e2 s2 v2 n2 x2) (he : e1 ≠ e2) : ∀ g, some g = v1.ownBlock → ¬ some g = v2.ownBlock := by
  intro g hg hg2
  rcases h1.2 with ⟨rfl, _⟩ | ⟨g1, c1, cur1, rfl, _, hb1, _⟩
  · cases hg
  · rcases h2.2 with ⟨rfl, _⟩ | ⟨g2, c2, cur2, rfl, _, hb2, _⟩
    · cases hg2
    · cases hg
      cases hg2
      rw [hb1] at hb2
      simp only [Option.some.injEq, Obj.cells.injEq] at hb2
      exact he hb2.2.1
theorem four (w : World) (a b c d : Obj) : ((((w.alloc a).alloc b).alloc c).alloc d).heap[w.heap.size]? = some a ∧ ((((w.alloc a).alloc b).alloc c).alloc d).heap[w.heap.size + 1]? = some b ∧ ((((w.alloc a).alloc b).alloc c).alloc d).heap[w.heap.size + 1 + 1]? = some c ∧ ((((w.alloc a).alloc b).alloc c).alloc d).heap[w.heap.size + 1 + 1 + 1]? = some d ∧ ((((w.alloc a).alloc b).alloc c).alloc d).heap.size = w.heap.size + 4 ∧ Below w.heap.size w ((((w.alloc a).alloc b).alloc c).alloc d) :=
  ⟨allocs_heap [a, b, c, d] w 0, allocs_heap [a, b, c, d] w 1, allocs_heap [a, b, c, d] w 2, allocs_heap [a, b, c, d] w 3, by rw [World.size_alloc, World.size_alloc, World.size_alloc, World.size_alloc], allocs_below [a, b, c, d] w⟩
/-- a lexer's value laid in a block -/
theorem six_laid {w : World} {B : Nat} {a0 a1 a2 a3 a4 a5 b0 b1 b2 b3 b4 b5 : Value} {t : TypeId} (r : w.heap[B]? = some (.cells #[a0, a1, a2, a3, a4, a5] t (0, 0))) :
    ((((((w.setCell ⟨B, 0, none⟩ b0).setCell ⟨B, 1, none⟩ b1).setCell ⟨B, 2, none⟩ b2).setCell ⟨B, 3, none⟩ b3).setCell ⟨B, 4, none⟩ b4).setCell ⟨B, 5, none⟩ b5).heap[B]? = some (.cells #[b0, b1, b2, b3, b4, b5] t (0, 0)) := by
  have e0 := heap_setCell_same w B 0 _ _ b0 r
  have e1 := heap_setCell_same _ B 1 _ _ b1 e0
  have e2 := heap_setCell_same _ B 2 _ _ b2 e1
  have e3 := heap_setCell_same _ B 3 _ _ b3 e2
  have e4 := heap_setCell_same _ B 4 _ _ b4 e3
  exact heap_setCell_same _ B 5 _ _ b5 e4
theorem six_keeps (w : World) (B : Nat) (b0 b1 b2 b3 b4 b5 : Value) {O : Nat → Prop} (hO : O B) :
    Keeps O w ((((((w.setCell ⟨B, 0, none⟩ b0).setCell ⟨B, 1, none⟩ b1).setCell ⟨B, 2, none⟩ b2).setCell ⟨B, 3, none⟩ b3).setCell ⟨B, 4, none⟩ b4).setCell ⟨B, 5, none⟩ b5) :=
  (((((keeps_setCell _ _ _ _ hO).trans (keeps_setCell _ _ _ _ hO)).trans (keeps_setCell _ _ _ _ hO)).trans (keeps_setCell _ _ _ _ hO)).trans (keeps_setCell _ _ _ _ hO)).trans (keeps_setCell _ _ _ _ hO)
set_option maxRecDepth 100000 in
set_option maxHeartbeats 2000000 in
theorem put_calls (s : ByteArray) (at' : Nat) (vL vO : Value) (inn : Bool) (er : Nat) (k : Nat) (R : ByteArray) (w : World) (base n : Nat) (xs : List Value) (hown : w.ownsRow base 29 2 vL n xs) (hn : n ≤ 70000) (hat : at' ≤ 70000) (hR : R.size ≤ 70000) (hb : base ≤ w.heap.size) (hO : ∃ p l c, vO = .slice p l c) :
    Calls Tryz.prog 38 #[LV s at' vL vO inn er, .agg #[.int .i64 (k : Int), .string R]] w fun e w' => ∃ vL', e = .returned (LV s (at' + R.size) vL' vO inn er) ∧ w'.ownsRow base 29 2 vL' (n + 1) (xs ++ [.int .i64 (k : Int), .string R]) ∧ Keeps (fun b => some b = vL.ownBlock) w w' := by
  obtain ⟨i0, hi, hz0, hz1, hz2⟩ := info_parts tok_info
  obtain ⟨p, cap, rfl, hcap⟩ := row_shape hown
  obtain ⟨pO, lO, cO, rfl⟩ := hO
  unfold LV
  obtain ⟨W4, hW4⟩ : ∃ W4, (((w.alloc (.cells #[.string s, .int .i64 (at' : Int), .slice p n cap, .slice pO lO cO, .bool inn, .int .i64 (er : Int)] 48)).alloc (.cells #[.int .i64 (k : Int), .string R] 29)).alloc (.cells #[.string ⟨#[]⟩, .int .i64 0, .slice none 0 0, .slice none 0 0, .bool false, .int .i64 0] 48)).alloc (.cells #[.int .i64 (k : Int), .string R] 29) = W4 := ⟨_, rfl⟩
  have h4 := four w (.cells #[.string s, .int .i64 (at' : Int), .slice p n cap, .slice pO lO cO, .bool inn, .int .i64 (er : Int)] 48) (.cells #[.int .i64 (k : Int), .string R] 29) (.cells #[.string ⟨#[]⟩, .int .i64 0, .slice none 0 0, .slice none 0 0, .bool false, .int .i64 0] 48) (.cells #[.int .i64 (k : Int), .string R] 29)
  rw [hW4] at h4
  obtain ⟨b1, b2, b3, b4, hs4, hB4⟩ := h4
  have hnew : ∀ (j : Nat) u, [Value.int .i64 (k : Int), .string R][j]? = some u → W4.cell? ((⟨w.heap.size + 1 + 1 + 1, 0, none⟩ : Addr).add j) = some u := by
    intro j u hu
    rw [add_plain]
    match j, hu with
    | 0, hu => rw [← hu]; exact cell_of_block b4 rfl
    | 1, hu => rw [← hu]; exact cell_of_block b4 rfl
    | j + 2, hu => simp at hu
  have hown4 : W4.ownsRow base 29 2 (.slice p n cap) n xs := ownsRow_keeps hown (Keeps.of_below' (O := fun _ => False) hB4) (fun _ _ h => h)
  have Hown4 := Lib.hid hown4
  have Hnew := Lib.hid hnew
  have B1 := Lib.hid b1
  have B2 := Lib.hid b2
  have B3 := Lib.hid b3
  have HB4 := Lib.hid hB4
  have Hs4 := Lib.hid hs4
  have Hown := Lib.hid hown
  have HW4 := Lib.hid hW4
  have q12 : W4.cell? ⟨w.heap.size, 2, none⟩ = some (.slice p n cap) := cell_of_block b1 rfl
  clear hown4 hnew b1 b2 b3 b4 hB4 hs4 hown hW4
  go_enter Tryz.func38, Tryz.ntmps38
  go_wp2_with (at_builtin; rw [show (((w.alloc (.cells #[.string s, .int .i64 (at' : Int), .slice p n cap, .slice pO lO cO, .bool inn, .int .i64 (er : Int)] 48)).alloc (.cells #[.int .i64 (k : Int), .string R] 29)).alloc (.cells #[.string ⟨#[]⟩, .int .i64 0, .slice none 0 0, .slice none 0 0, .bool false, .int .i64 0] 48)).alloc (.cells #[.int .i64 (k : Int), .string R] 29) = W4 from HW4.out]; refine wpList_append_O _ rfl _ _ 23 rfl base 29 i0 (.agg #[.int .i64 0, .string ByteArray.empty]) 2 24 toks_und hi hz0 hz1 hz2 rfl (by decide) _ n xs rfl Hown4.out ⟨w.heap.size + 1 + 1 + 1, 0, none⟩ 1 1 [.int .i64 (k : Int), .string R] rfl rfl Hnew.out (by intro u hu; simp at hu; rcases hu with rfl | rfl <;> rfl) (by simp only [maxLen]; omega) (by omega) (by have := HB4.out.size; omega) ?_; intro v' w1 hown' hkeep hblk _; obtain ⟨g', cap', rfl⟩ := own_succ hown'; have hk1 : Keeps (fun b => some b = (Value.slice p n cap).ownBlock) W4 w1 := hkeep; have hbl : (Value.slice (some ⟨g', 0, none⟩) (n + 1) cap').ownBlock = (Value.slice p n cap).ownBlock ∨ (Value.slice (some ⟨g', 0, none⟩) (n + 1) cap').ownBlock = some W4.heap.size := hblk; have hne : ∀ j, w.heap.size ≤ j → ¬ some j = (Value.slice p n cap).ownBlock := fun j hj e => (by have := (Hown.out.lt j e.symm).2; omega); have c1 := hk1.heap B1.out (hne _ (Nat.le_refl _)); have c2 := hk1.heap B2.out (hne _ (by omega)); have c3 := hk1.heap B3.out (hne _ (by omega)); have x10 := cell_of_block c1 (o := 0) rfl; have f10 := frozen_of_row w1 w.heap.size 0 _ _ c1; have x11 := cell_of_block c1 (o := 1) rfl; have f11 := frozen_of_row w1 w.heap.size 1 _ _ c1; have x12 := cell_of_block c1 (o := 2) rfl; have f12 := frozen_of_row w1 w.heap.size 2 _ _ c1; have x13 := cell_of_block c1 (o := 3) rfl; have f13 := frozen_of_row w1 w.heap.size 3 _ _ c1; have x14 := cell_of_block c1 (o := 4) rfl; have f14 := frozen_of_row w1 w.heap.size 4 _ _ c1; have x15 := cell_of_block c1 (o := 5) rfl; have f15 := frozen_of_row w1 w.heap.size 5 _ _ c1; have x20 := cell_of_block c2 (o := 0) rfl; have x21 := cell_of_block c2 (o := 1) rfl; have x30 := cell_of_block c3 (o := 0) rfl; have f30 := frozen_of_row w1 (w.heap.size + 1 + 1) 0 _ _ c3; have x31 := cell_of_block c3 (o := 1) rfl; have f31 := frozen_of_row w1 (w.heap.size + 1 + 1) 1 _ _ c3; have x32 := cell_of_block c3 (o := 2) rfl; have f32 := frozen_of_row w1 (w.heap.size + 1 + 1) 2 _ _ c3; have x33 := cell_of_block c3 (o := 3) rfl; have f33 := frozen_of_row w1 (w.heap.size + 1 + 1) 3 _ _ c3; have x34 := cell_of_block c3 (o := 4) rfl; have f34 := frozen_of_row w1 (w.heap.size + 1 + 1) 4 _ _ c3; have x35 := cell_of_block c3 (o := 5) rfl; have f35 := frozen_of_row w1 (w.heap.size + 1 + 1) 5 _ _ c3; have Hk1 := Lib.hid hk1; have Hbl := Lib.hid hbl; have C1 := Lib.hid c1; have C3 := Lib.hid c3; have Hown1 := Lib.hid hown'; clear hk1 hbl hne c1 c2 c3 hown' hkeep hblk q12)
  have kA : Keeps (fun b => b = w.heap.size) w1 ((w1.setCell ⟨w.heap.size, 2, none⟩ (.slice (some ⟨g', 0, none⟩) (n + 1) cap')).setCell ⟨w.heap.size, 1, none⟩ (.int .i64 ((at' : Int) + (R.size : Int)))) := (keeps_setCell (O := fun b => b = w.heap.size) _ _ _ _ rfl).trans (keeps_setCell (O := fun b => b = w.heap.size) _ _ _ _ rfl)
  have c3' := kA.heap C3.out (by omega)
  have kB := six_keeps ((w1.setCell ⟨w.heap.size, 2, none⟩ (.slice (some ⟨g', 0, none⟩) (n + 1) cap')).setCell ⟨w.heap.size, 1, none⟩ (.int .i64 ((at' : Int) + (R.size : Int)))) (w.heap.size + 1 + 1) (.string s) (.int .i64 ((at' : Int) + (R.size : Int))) (.slice (some ⟨g', 0, none⟩) (n + 1) cap') (.slice pO lO cO) (.bool inn) (.int .i64 (er : Int)) (O := fun b => b = w.heap.size + 1 + 1) rfl
  have e6 := six_laid (b0 := .string s) (b1 := .int .i64 ((at' : Int) + (R.size : Int))) (b2 := .slice (some ⟨g', 0, none⟩) (n + 1) cap') (b3 := .slice pO lO cO) (b4 := .bool inn) (b5 := .int .i64 (er : Int)) c3'
  have q0 := cell_of_block e6 (o := 0) rfl
  have q1 := cell_of_block e6 (o := 1) rfl
  have q2 := cell_of_block e6 (o := 2) rfl
  have q3 := cell_of_block e6 (o := 3) rfl
  have q4 := cell_of_block e6 (o := 4) rfl
  have q5 := cell_of_block e6 (o := 5) rfl
  have hk4 : Keeps (fun b => some b = (Value.slice p n cap).ownBlock) w w1 := (Keeps.of_below' HB4.out).trans Hk1.out
  have hg : ¬ g' = w.heap.size ∧ ¬ g' = w.heap.size + 1 + 1 := by
    rcases Hbl.out with e | e
    · have := (Hown.out.lt g' e.symm).2
      omega
    · have h1 : g' = W4.heap.size := Option.some.inj e
      have := Hs4.out
      omega
  refine bodyPost_ret (v := .agg #[.string s, .int .i64 ((at' : Int) + (R.size : Int)), .slice (some ⟨g', 0, none⟩) (n + 1) cap', .slice pO lO cO, .bool inn, .int .i64 (er : Int)]) (by simp [results, Tryz.results38, go_sem, q0, q1, q2, q3, q4, q5]) rfl ⟨.slice (some ⟨g', 0, none⟩) (n + 1) cap', by rw [Int.natCast_add], ?_, ?_⟩
  · exact ownsRow_keeps (ownsRow_keeps Hown1.out kA (fun g hg' e => by have e2 : g = g' := Option.some.inj hg'; exact hg.1 (e2.symm.trans e))) kB (fun g hg' e => by have e2 : g = g' := Option.some.inj hg'; exact hg.2 (e2.symm.trans e))
  · exact (hk4.trans' kA fun b hb' e => by omega).trans' kB fun b hb' e => by omega
end Go.Proofs.YtiinhkfbgecbjaaGreatDoor
namespace Go.Proofs.YtiinhkfbgecbjaaGreatDoor
set_option linter.unusedSimpArgs false
set_option linter.unusedVariables false
open Go.RowKit Go.Sub

/-- what a step of the document's lexer leaves -/
def RStep (w : World) (base : Nat) (s : ByteArray) (at' : Nat) (vL : Value) (xs : List Value) (n : Nat) (r : Step5) (e : Ending) (w' : World) : Prop :=
  ∃ vL' vO', e = .returned (LV s (if r.2.2.2.2 = 0 then at' + r.2.1 else at') vL' vO' r.2.2.2.1 r.2.2.2.2) ∧
    w'.ownsRow base 29 2 vL' (if r.2.2.2.2 = 0 then n + 1 else n) (if r.2.2.2.2 = 0 then xs ++ [.int .i64 (r.1 : Int), .string ⟨((s.data.toList.drop at').take r.2.1).toArray⟩] else xs) ∧
    w'.ownsRow base 3 1 vO' r.2.2.1.length (stackC r.2.2.1) ∧ Keeps (fun b => some b = vL.ownBlock) w w'
theorem rows_block {w : World} {base : Nat} {e : TypeId} {size : Nat} {v : Value} {n : Nat} {xs : List Value} (h : w.ownsRow base e size v n xs) {g : Nat} (hg : some g = v.ownBlock) : ∃ cur, w.heap[g]? = some (.cells cur e (0, 0)) := by
  rcases h.2 with ⟨rfl, _⟩ | ⟨g1, c1, cur1, rfl, _, hb1, _⟩
  · cases hg
  · cases hg
    exact ⟨_, hb1⟩
theorem back_strB {R : ByteArray} {l : List UInt8} (h : l = R.data.toList) : (⟨l.toArray⟩ : ByteArray) = R := by
  subst h
  cases R; rfl
theorem lvm (s : ByteArray) (a m : Nat) (vL vO : Value) (b : Bool) : LV s (a + m) vL vO b 0 = .agg #[.string s, .int .i64 ((a : Int) + (m : Int)), vL, vO, .bool b, .int .i64 0] := by
  unfold LV; rw [Int.natCast_add]; rfl
theorem lv1 (s : ByteArray) (a : Nat) (vL vO : Value) (b : Bool) : LV s (a + 1) vL vO b 0 = .agg #[.string s, .int .i64 ((a : Int) + 1), vL, vO, .bool b, .int .i64 0] := by
  unfold LV; rw [Int.natCast_add]; rfl
theorem lv2 (s : ByteArray) (a : Nat) (vL vO : Value) (b : Bool) : LV s (a + 2) vL vO b 0 = .agg #[.string s, .int .i64 ((a : Int) + 2), vL, vO, .bool b, .int .i64 0] := by
  unfold LV; rw [Int.natCast_add]; rfl
theorem stack_one (st : List Nat) : ∀ u ∈ stackC st, u.oneCell' = true := by
  intro u hu
  unfold stackC at hu
  obtain ⟨x, _, rfl⟩ := List.mem_map.1 hu
  rfl
theorem cell_one (w : World) : ∀ (j : Nat) u, [Value.int .i64 0][j]? = some u → (w.alloc (.cells #[.int .i64 0] 3)).cell? ((⟨w.heap.size, 0, none⟩ : Addr).add j) = some u := by
  intro j u hu
  rw [add_plain]
  match j, hu with
  | 0, hu => rw [← hu]; exact cell_of_block (World.alloc_heap_new w _) rfl
  | j + 1, hu => simp at hu
theorem two (w : World) (a b : Obj) : ((w.alloc a).alloc b).heap[w.heap.size]? = some a ∧ ((w.alloc a).alloc b).heap[w.heap.size + 1]? = some b ∧ ((w.alloc a).alloc b).heap.size = w.heap.size + 2 ∧ Below w.heap.size w ((w.alloc a).alloc b) :=
  ⟨allocs_heap [a, b] w 0, allocs_heap [a, b] w 1, by rw [World.size_alloc, World.size_alloc], allocs_below [a, b] w⟩
def lzero : Array Value := #[.string ⟨#[]⟩, .int .i64 0, .slice none 0 0, .slice none 0 0, .bool false, .int .i64 0]
/-- behind put: the result stored -/
theorem put_stored {w w3 w4 : World} {base n m : Nat} {vL v' : Value} {xs ys : List Value} {b0 b1 b2 b3 b4 b5 : Value} (hL : w.ownsRow base 29 2 vL n xs) (hk : Keeps (fun b => w.heap.size ≤ b) w w3) (hs : w.heap.size + 2 ≤ w3.heap.size) (h2 : w3.heap[w.heap.size + 1]? = some (.cells lzero 48 (0, 0))) (hp : Keeps (fun b => some b = vL.ownBlock) w3 w4) (ho : w4.ownsRow base 29 2 v' m ys) :
    ((((((w4.setCell ⟨w.heap.size + 1, 0, none⟩ b0).setCell ⟨w.heap.size + 1, 1, none⟩ b1).setCell ⟨w.heap.size + 1, 2, none⟩ b2).setCell ⟨w.heap.size + 1, 3, none⟩ b3).setCell ⟨w.heap.size + 1, 4, none⟩ b4).setCell ⟨w.heap.size + 1, 5, none⟩ b5).heap[w.heap.size + 1]? = some (.cells #[b0, b1, b2, b3, b4, b5] 48 (0, 0)) ∧
    ((((((w4.setCell ⟨w.heap.size + 1, 0, none⟩ b0).setCell ⟨w.heap.size + 1, 1, none⟩ b1).setCell ⟨w.heap.size + 1, 2, none⟩ b2).setCell ⟨w.heap.size + 1, 3, none⟩ b3).setCell ⟨w.heap.size + 1, 4, none⟩ b4).setCell ⟨w.heap.size + 1, 5, none⟩ b5).ownsRow base 29 2 v' m ys ∧
    Keeps (fun b => some b = vL.ownBlock) w ((((((w4.setCell ⟨w.heap.size + 1, 0, none⟩ b0).setCell ⟨w.heap.size + 1, 1, none⟩ b1).setCell ⟨w.heap.size + 1, 2, none⟩ b2).setCell ⟨w.heap.size + 1, 3, none⟩ b3).setCell ⟨w.heap.size + 1, 4, none⟩ b4).setCell ⟨w.heap.size + 1, 5, none⟩ b5) ∧
    w4.heap[w.heap.size + 1]? = some (.cells lzero 48 (0, 0)) := by
  have hne : ¬ some (w.heap.size + 1) = vL.ownBlock := fun e => by
    have := (hL.lt _ e.symm).2
    omega
  have h4 := hp.heap h2 hne
  have kB := six_keeps w4 (w.heap.size + 1) b0 b1 b2 b3 b4 b5 (O := fun b => b = w.heap.size + 1) rfl
  have hk0 : Keeps (fun b => some b = vL.ownBlock) w w3 := hk.mono fun b hb e => by omega
  refine ⟨six_laid h4, ownsRow_keeps ho kB (fun g hg e => ?_), (hk0.trans hp).trans' kB fun b hb e => by omega, h4⟩
  have hd := rows_block ho hg
  rw [e, h4] at hd
  obtain ⟨cur, hd⟩ := hd
  simp only [Option.some.injEq, Obj.cells.injEq] at hd
  exact absurd hd.2.1 (by decide)
/-- .. and the other row -/
theorem put_other {w w3 w4 : World} {base n m : Nat} {vL vO : Value} {xs ys : List Value} {b0 b1 b2 b3 b4 b5 : Value} (hp : w3.ownsRow base 29 2 vL n xs) (ho : w3.ownsRow base 3 1 vO m ys) (hk : Keeps (fun b => some b = vL.ownBlock) w3 w4) (h4 : w4.heap[w.heap.size + 1]? = some (.cells lzero 48 (0, 0))) :
    ((((((w4.setCell ⟨w.heap.size + 1, 0, none⟩ b0).setCell ⟨w.heap.size + 1, 1, none⟩ b1).setCell ⟨w.heap.size + 1, 2, none⟩ b2).setCell ⟨w.heap.size + 1, 3, none⟩ b3).setCell ⟨w.heap.size + 1, 4, none⟩ b4).setCell ⟨w.heap.size + 1, 5, none⟩ b5).ownsRow base 3 1 vO m ys := by
  have h1 := ownsRow_keeps ho hk (fun g hg e => rows_apart hp ho (by decide) g e hg)
  refine ownsRow_keeps h1 (six_keeps w4 (w.heap.size + 1) b0 b1 b2 b3 b4 b5 (O := fun b => b = w.heap.size + 1) rfl) (fun g hg e => ?_)
  have hd := rows_block h1 hg
  rw [e, h4] at hd
  obtain ⟨cur, hd⟩ := hd
  simp only [Option.some.injEq, Obj.cells.injEq] at hd
  exact absurd hd.2.1 (by decide)
/-- a cell of the boxed lexer set -/
theorem set_t1 {w w3 : World} {base n m : Nat} {vL vO : Value} {xs ys : List Value} {a : Array Value} (o : Nat) (u : Value) (hw : Keeps (fun b => w.heap.size ≤ b) w w3) (c1 : w3.heap[w.heap.size]? = some (.cells a 48 (0, 0))) (c2 : w3.heap[w.heap.size + 1]? = some (.cells lzero 48 (0, 0))) (hp : w3.ownsRow base 29 2 vL n xs) (ho : w3.ownsRow base 3 1 vO m ys) :
    (w3.setCell ⟨w.heap.size, o, none⟩ u).heap[w.heap.size + 1]? = some (.cells lzero 48 (0, 0)) ∧ (w3.setCell ⟨w.heap.size, o, none⟩ u).ownsRow base 29 2 vL n xs ∧ (w3.setCell ⟨w.heap.size, o, none⟩ u).ownsRow base 3 1 vO m ys ∧ Keeps (fun b => w.heap.size ≤ b) w (w3.setCell ⟨w.heap.size, o, none⟩ u) ∧ w3.heap.size ≤ (w3.setCell ⟨w.heap.size, o, none⟩ u).heap.size ∧ (w3.setCell ⟨w.heap.size, o, none⟩ u).heap[w.heap.size]? = some (.cells (a.setIfInBounds o u) 48 (0, 0)) := by
  have k := keeps_setCell w3 w.heap.size o u (O := fun b => b = w.heap.size) rfl
  have ap : ∀ {e : TypeId} {sz : Nat} {v : Value} {q : Nat} {zs : List Value}, w3.ownsRow base e sz v q zs → e ≠ 48 → ∀ g, some g = v.ownBlock → ¬ g = w.heap.size := fun h he g hg e => by
    have hd := rows_block h hg
    rw [e, c1] at hd
    obtain ⟨cur, hd⟩ := hd
    simp only [Option.some.injEq, Obj.cells.injEq] at hd
    exact he hd.2.1.symm
  exact ⟨k.heap c2 (by omega), ownsRow_keeps hp k (ap hp (by decide)), ownsRow_keeps ho k (ap ho (by decide)), hw.trans' k fun b hb e => by omega, k.size, heap_setCell_same w3 w.heap.size o _ _ u c1⟩
/-- behind piece: what still lies there -/
theorem in_piece {w w3 : World} {base n : Nat} {vL vO : Value} {xs ys : List Value} {m : Nat} {a : Array Value} (hL : w.ownsRow base 29 2 vL n xs) (hO : w.ownsRow base 3 1 vO m ys)
    (hb3 : Below ((w.alloc (.cells a 48)).alloc (.cells lzero 48)).heap.size ((w.alloc (.cells a 48)).alloc (.cells lzero 48)) w3) :
    w3.heap[w.heap.size]? = some (.cells a 48 (0, 0)) ∧ w3.heap[w.heap.size + 1]? = some (.cells lzero 48 (0, 0)) ∧ w3.ownsRow base 29 2 vL n xs ∧ w3.ownsRow base 3 1 vO m ys ∧ w.heap.size + 2 ≤ w3.heap.size ∧ Below w.heap.size w w3 := by
  obtain ⟨b1, b2, hs2, hB2⟩ := two w (.cells a 48) (.cells lzero 48)
  have k3 : Keeps (fun _ => False) ((w.alloc (.cells a 48)).alloc (.cells lzero 48)) w3 := Keeps.of_below' hb3
  have kw : Below w.heap.size w w3 := hB2.trans (hb3.mono hB2.size)
  have kw2 : Keeps (fun _ => False) w w3 := Keeps.of_below' kw
  exact ⟨k3.heap b1 (fun h => h), k3.heap b2 (fun h => h), ownsRow_keeps hL kw2 (fun _ _ h => h), ownsRow_keeps hO kw2 (fun _ _ h => h), by rw [← hs2]; exact k3.size, kw⟩
/-- behind the brackets' copy: what still lies there -/
theorem open_kept {w w3 w6 w7 : World} {base n k6 : Nat} {vL v6 : Value} {xs x6 : List Value} {a : Array Value} {o : Obj} (hw : Keeps (fun b => w.heap.size ≤ b) w w3) (c1 : w3.heap[w.heap.size]? = some (.cells a 48 (0, 0))) (c2 : w3.heap[w.heap.size + 1]? = some (.cells lzero 48 (0, 0))) (hp : w3.ownsRow base 29 2 vL n xs) (hs : w.heap.size + 2 ≤ w3.heap.size)
    (kk : Keeps (fun _ => False) w3 w6) (o6 : w6.ownsRow w3.heap.size 3 1 v6 k6 x6) (k7 : Keeps (fun b => some b = v6.ownBlock) (w6.alloc o) w7) :
    w7.heap[w.heap.size]? = some (.cells a 48 (0, 0)) ∧ w7.heap[w.heap.size + 1]? = some (.cells lzero 48 (0, 0)) ∧ w7.ownsRow base 29 2 vL n xs ∧ Keeps (fun b => w.heap.size ≤ b) w w7 ∧ w3.heap.size ≤ w7.heap.size := by
  have ka : Keeps (fun _ => False) w3 (w6.alloc o) := kk.trans (Keeps.alloc _ _ _)
  have ge : ∀ g, some g = v6.ownBlock → w3.heap.size ≤ g := fun g hg => (o6.lt g hg.symm).1
  have k37 : Keeps (fun b => w3.heap.size ≤ b) w3 w7 := (ka.mono (O' := fun b => w3.heap.size ≤ b) fun _ _ h => h.elim).trans' k7 fun b _ h => ge b h
  exact ⟨k37.heap c1 (by omega), k37.heap c2 (by omega), ownsRow_keeps hp k37 (fun g hg e => by have := (hp.lt g hg.symm).2; omega), hw.trans' k37 fun b _ h => by omega, k37.size⟩
set_option maxRecDepth 100000 in
set_option maxHeartbeats 1000000 in
theorem rinside_calls (s : ByteArray) (at' : Nat) (vL vO : Value) (st : List Nat) (w : World) (base n : Nat) (xs : List Value) (hL : w.ownsRow base 29 2 vL n xs) (hO : w.ownsRow base 3 1 vO st.length (stackC st)) (hn : n ≤ 65536) (hat : at' < s.size) (hs : s.size ≤ 65536) (hst : st.length ≤ 256) (hb : base ≤ w.heap.size) :
    Calls Tryz.prog 21 #[LV s at' vL vO true 0] w (RStep w base s at' vL xs n (insN (s.data.toList.drop at') st)) := by
  obtain ⟨p, cap, rfl, hcap⟩ := row_shape hL
  obtain ⟨pO, cO, rfl, hcO⟩ := row_shape hO
  have hpc := fun w => rpiece_calls (s.extract at' s.size) w (ext_lt s at' s.size (n := 4611686018427387904) (by omega))
  rw [ext_data] at hpc
  have hple := pieceN_le _ (s.data.toList.drop at') (Nat.le_refl _)
  rw [List.length_drop, ← Lib.size_eq] at hple
  have hsl : (s.extract at' s.size).size = s.size - at' := ext_size s at'
  obtain ⟨b1, b2, hs2, hB2⟩ := two w (.cells #[.string s, .int .i64 (at' : Int), .slice p n cap, .slice pO st.length cO, .bool true, .int .i64 0] 48) (.cells lzero 48)
  have HL := Lib.hid hL
  have HO := Lib.hid hO
  have B1 := Lib.hid b1
  have B2 := Lib.hid b2
  have HS2 := Lib.hid hs2
  have HB2 := Lib.hid hB2
  unfold LV
  by_cases hp0 : 0 < pieceN (s.data.toList.drop at')
  · have hr : insN (s.data.toList.drop at') st = (8, pieceN (s.data.toList.drop at'), st, true, 0) := by unfold insN; rw [if_pos hp0]
    rw [hr]
    generalize pieceN (s.data.toList.drop at') = m at *
    have Hpc := Lib.hid hpc
    clear hpc hr hL hO b1 b2 hs2 hB2
    go_enter Tryz.func21, Tryz.ntmps21
    have hext : ((s.extract at' s.size).extract 0 m) = ⟨((s.data.toList.drop at').take m).toArray⟩ := (back_strB (by rw [Lib.extract_data, ext_data]; simp)).symm
    have hexs : ((s.extract at' s.size).extract 0 m).size = m := by rw [Lib.size_eq, Lib.extract_data, ext_data, List.drop_zero, Nat.sub_zero, List.length_take, List.length_drop, ← Lib.size_eq]; omega
    have Hext := Lib.hid hext
    have Hm := Lib.hid hexs
    clear hext hexs
    go_wp2_with (go_at_call 37; refine (Hpc.out _).mono ?_; rintro e w3 ⟨rfl, hb3⟩; obtain ⟨c1, c2, hp3, hpO3, hs3, hw3⟩ := in_piece HL.out HO.out hb3; have x10 := cell_of_block c1 (o := 0) rfl; have f10 := frozen_of_row w3 w.heap.size 0 _ _ c1; have x11 := cell_of_block c1 (o := 1) rfl; have f11 := frozen_of_row w3 w.heap.size 1 _ _ c1; have x12 := cell_of_block c1 (o := 2) rfl; have f12 := frozen_of_row w3 w.heap.size 2 _ _ c1; have x13 := cell_of_block c1 (o := 3) rfl; have f13 := frozen_of_row w3 w.heap.size 3 _ _ c1; have x14 := cell_of_block c1 (o := 4) rfl; have f14 := frozen_of_row w3 w.heap.size 4 _ _ c1; have x15 := cell_of_block c1 (o := 5) rfl; have f15 := frozen_of_row w3 w.heap.size 5 _ _ c1; have x20 := cell_of_block c2 (o := 0) rfl; have f20 := frozen_of_row w3 (w.heap.size + 1) 0 _ _ c2; have x21 := cell_of_block c2 (o := 1) rfl; have f21 := frozen_of_row w3 (w.heap.size + 1) 1 _ _ c2; have x22 := cell_of_block c2 (o := 2) rfl; have f22 := frozen_of_row w3 (w.heap.size + 1) 2 _ _ c2; have x23 := cell_of_block c2 (o := 3) rfl; have f23 := frozen_of_row w3 (w.heap.size + 1) 3 _ _ c2; have x24 := cell_of_block c2 (o := 4) rfl; have f24 := frozen_of_row w3 (w.heap.size + 1) 4 _ _ c2; have x25 := cell_of_block c2 (o := 5) rfl; have f25 := frozen_of_row w3 (w.heap.size + 1) 5 _ _ c2; have Hp := Lib.hid hp3; have HpO := Lib.hid hpO3; have HS3 := Lib.hid hs3; have HW3 := Lib.hid hw3; have C2 := Lib.hid c2; have C1 := Lib.hid c1; clear c1 c2 hp3 hpO3 hs3 hw3 hb3)
    go_region_with ((go_at_call 38; refine Calls.mono (put_calls s at' (.slice p n cap) (.slice pO st.length cO) true 0 8 _ _ base n xs ?_ ?_ ?_ ?_ ?_ ⟨_, _, _, rfl⟩) ?_; exact Hp.out; omega; omega; (have := Hm.out; omega); exact Nat.le_trans hb (HW3.out.size); rintro e w4 ⟨v', rfl, ho4, hk4⟩; have h4 := hk4.heap (show (_ : World).heap[w.heap.size + 1]? = _ from C2.out) (fun e => by have := (HL.out.lt _ e.symm).2; omega); have y20 := cell_of_block h4 (o := 0) rfl; have g20 := frozen_of_row w4 (w.heap.size + 1) 0 _ _ h4; have y21 := cell_of_block h4 (o := 1) rfl; have g21 := frozen_of_row w4 (w.heap.size + 1) 1 _ _ h4; have y22 := cell_of_block h4 (o := 2) rfl; have g22 := frozen_of_row w4 (w.heap.size + 1) 2 _ _ h4; have y23 := cell_of_block h4 (o := 3) rfl; have g23 := frozen_of_row w4 (w.heap.size + 1) 3 _ _ h4; have y24 := cell_of_block h4 (o := 4) rfl; have g24 := frozen_of_row w4 (w.heap.size + 1) 4 _ _ h4; have y25 := cell_of_block h4 (o := 5) rfl; have g25 := frozen_of_row w4 (w.heap.size + 1) 5 _ _ h4; have Ho4 := Lib.hid ho4; have Hk4 := Lib.hid hk4; obtain ⟨q, c, rfl, _⟩ := row_shape ho4; clear h4 ho4 hk4; unfold LV))
    go_wp2
    have hkw := Keeps.of_below HW3.out 
    have hk4 : Keeps (fun b => some b = (Value.slice p n cap).ownBlock) (w3) w4 := by first | exact (Keeps.drew _).trans Hk4.out | exact Hk4.out 
    obtain ⟨e6, o6, k6, h4⟩ := put_stored (b0 := .string s) (b1 := .int .i64 ((at' : Int) + (m : Int))) (b2 := .slice q (n + 1) c) (b3 := (.slice pO st.length cO)) (b4 := .bool true) (b5 := .int .i64 0) HL.out hkw (HS3.out) C2.out hk4 Ho4.out 
    have oO := put_other (w := w) (b0 := .string s) (b1 := .int .i64 ((at' : Int) + (m : Int))) (b2 := .slice q (n + 1) c) (b3 := (.slice pO st.length cO)) (b4 := .bool true) (b5 := .int .i64 0) Hp.out HpO.out hk4 h4 
    have q0 := cell_of_block e6 (o := 0) rfl 
    have q1 := cell_of_block e6 (o := 1) rfl 
    have q2 := cell_of_block e6 (o := 2) rfl 
    have q3 := cell_of_block e6 (o := 3) rfl 
    have q4 := cell_of_block e6 (o := 4) rfl 
    have q5 := cell_of_block e6 (o := 5) rfl 
    rw [Hext.out] at o6 
    refine bodyPost_ret (v := .agg #[.string s, .int .i64 ((at' : Int) + (m : Int)), .slice q (n + 1) c, (.slice pO st.length cO), .bool true, .int .i64 0]) (by simp [results, Tryz.results21, go_sem, q0, q1, q2, q3, q4, q5]) rfl ⟨.slice q (n + 1) c, (.slice pO st.length cO), ?_, ?_, ?_, ?_⟩ 
    · exact congrArg Ending.returned (lvm s at' m _ _ _).symm 
    · exact o6 
    · exact oO 
    · exact k6
  · have hpz : pieceN (s.data.toList.drop at') = 0 := by omega
    rw [hpz] at hpc
    obtain ⟨L, hLL⟩ : ∃ L, s.extract at' s.size = L := ⟨_, rfl⟩
    have hLd : L.data.toList = s.data.toList.drop at' := by rw [← hLL, ext_data]
    rw [hLL] at hsl hpc
    have hL0 : 0 < L.size := by omega
    have hcons := cons_of L hL0
    have hr : insN (s.data.toList.drop at') st = if (s.data.toList.drop at')[0]? = some 34 then (11, 1, st, false, 0) else if Lib.hasPrefix (s.data.toList.drop at') [92, 40] = false then (0, 0, st, true, 12) else if 256 ≤ st.length then (0, 0, st, true, 21) else (9, 2, 0 :: st, false, 0) := by
      unfold insN
      rw [if_neg (by omega)]
    have hq : isQS L[0] = true := by
      cases hq : isQS L[0]
      · exfalso
        rw [← hLd, hcons, piece_plain _ _ hq] at hpz
        omega
      · rfl
    have hat0 : (s.data.toList.drop at')[0]? = some L[0] := by rw [← hLd, hcons]; rfl
    rw [hr, hat0]
    have hext1 : ∀ q, q ≤ L.size → (L.extract 0 q) = ⟨((s.data.toList.drop at').take q).toArray⟩ ∧ (L.extract 0 q).size = q := fun q hq => by
      have e : (L.extract 0 q).data.toList = (s.data.toList.drop at').take q := by rw [Lib.extract_data, hLd, List.drop_zero, Nat.sub_zero]
      exact ⟨(back_strB e.symm).symm, by rw [Lib.size_eq, e, ← hLd, List.length_take, ← Lib.size_eq]; omega⟩
    have Hpc := Lib.hid hpc
    have HLL := Lib.hid hLL
    cases h34 : ((L[0].toNat : Int) == 34)
    · have n34 := byte_isnt (k := 34) (by omega) h34
      have n92 : L[0] = 92 := by
        unfold isQS at hq
        rw [show (L[0] == 34) = false from beq_eq_false_iff_ne.2 n34] at hq
        simpa using hq
      rw [if_neg (by intro e; exact n34 (Option.some.inj e))]
      cases hpx : Lib.hasPrefix (s.data.toList.drop at') [92, 40]
      · rw [if_pos rfl]
        have hb1 : L.size < 2 ∨ (2 ≤ L.size ∧ ∀ h : 1 < L.size, L[1] ≠ 40) := by
          by_cases h2 : L.size < 2
          · exact .inl h2
          · refine .inr ⟨by omega, fun h e => ?_⟩
            rw [← hLd, cons2_of L (by omega), n92, e] at hpx
            simp [Lib.hasPrefix] at hpx
        clear hpc hr hL hO b1 b2 hs2 hB2 hcons hat0 hext1 hLd hpz hq n34 hp0 hple hpx n92
        rcases hb1 with h2 | ⟨h2, h40⟩
        · go_enter Tryz.func21, Tryz.ntmps21 
          go_wp2_with (go_at_call 37; refine (Hpc.out _).mono ?_; rintro e w3 ⟨rfl, hb3⟩; obtain ⟨c1, c2, hp3, hpO3, hs3, hw3⟩ := in_piece HL.out HO.out hb3; have x10 := cell_of_block c1 (o := 0) rfl; have f10 := frozen_of_row w3 w.heap.size 0 _ _ c1; have x11 := cell_of_block c1 (o := 1) rfl; have f11 := frozen_of_row w3 w.heap.size 1 _ _ c1; have x12 := cell_of_block c1 (o := 2) rfl; have f12 := frozen_of_row w3 w.heap.size 2 _ _ c1; have x13 := cell_of_block c1 (o := 3) rfl; have f13 := frozen_of_row w3 w.heap.size 3 _ _ c1; have x14 := cell_of_block c1 (o := 4) rfl; have f14 := frozen_of_row w3 w.heap.size 4 _ _ c1; have x15 := cell_of_block c1 (o := 5) rfl; have f15 := frozen_of_row w3 w.heap.size 5 _ _ c1; have x20 := cell_of_block c2 (o := 0) rfl; have f20 := frozen_of_row w3 (w.heap.size + 1) 0 _ _ c2; have x21 := cell_of_block c2 (o := 1) rfl; have f21 := frozen_of_row w3 (w.heap.size + 1) 1 _ _ c2; have x22 := cell_of_block c2 (o := 2) rfl; have f22 := frozen_of_row w3 (w.heap.size + 1) 2 _ _ c2; have x23 := cell_of_block c2 (o := 3) rfl; have f23 := frozen_of_row w3 (w.heap.size + 1) 3 _ _ c2; have x24 := cell_of_block c2 (o := 4) rfl; have f24 := frozen_of_row w3 (w.heap.size + 1) 4 _ _ c2; have x25 := cell_of_block c2 (o := 5) rfl; have f25 := frozen_of_row w3 (w.heap.size + 1) 5 _ _ c2; have Hp := Lib.hid hp3; have HpO := Lib.hid hpO3; have HS3 := Lib.hid hs3; have HW3 := Lib.hid hw3; have C2 := Lib.hid c2; have C1 := Lib.hid c1; clear c1 c2 hp3 hpO3 hs3 hw3 hb3) 
          obtain ⟨z1, z2, z3, z4, z5, z6⟩ := set_t1 5 (.int .i64 12) (Keeps.of_below HW3.out) C1.out C2.out Hp.out HpO.out 
          obtain ⟨e6, o6, k6, h4⟩ := put_stored (b0 := .string s) (b1 := .int .i64 (at' : Int)) (b2 := .slice p n cap) (b3 := .slice pO st.length cO) (b4 := .bool true) (b5 := .int .i64 12) HL.out z4 (Nat.le_trans HS3.out z5) z1 (Keeps.refl _ _) z2 
          have oO := put_other (w := w) (b0 := .string s) (b1 := .int .i64 (at' : Int)) (b2 := .slice p n cap) (b3 := .slice pO st.length cO) (b4 := .bool true) (b5 := .int .i64 12) z2 z3 (Keeps.refl _ _) h4 
          have q0 := cell_of_block e6 (o := 0) rfl 
          have q1 := cell_of_block e6 (o := 1) rfl 
          have q2 := cell_of_block e6 (o := 2) rfl 
          have q3 := cell_of_block e6 (o := 3) rfl 
          have q4 := cell_of_block e6 (o := 4) rfl 
          have q5 := cell_of_block e6 (o := 5) rfl 
          refine bodyPost_ret (v := .agg #[.string s, .int .i64 (at' : Int), .slice p n cap, .slice pO st.length cO, .bool true, .int .i64 12]) (by simp [results, Tryz.results21, go_sem, q0, q1, q2, q3, q4, q5]) rfl ⟨.slice p n cap, .slice pO st.length cO, ?_, ?_, ?_, ?_⟩ 
          · rfl 
          · exact o6 
          · exact oO 
          · exact k6
        · have h1lt : 1 < L.size := by omega
          have y40 : ((L[1].toNat : Int) != 40) = true := by
            rw [bne_iff_ne]
            intro e
            exact h40 h1lt (UInt8.toNat_inj.1 (by show L[1].toNat = 40; omega))
          go_enter Tryz.func21, Tryz.ntmps21 
          go_wp2_with (go_at_call 37; refine (Hpc.out _).mono ?_; rintro e w3 ⟨rfl, hb3⟩; obtain ⟨c1, c2, hp3, hpO3, hs3, hw3⟩ := in_piece HL.out HO.out hb3; have x10 := cell_of_block c1 (o := 0) rfl; have f10 := frozen_of_row w3 w.heap.size 0 _ _ c1; have x11 := cell_of_block c1 (o := 1) rfl; have f11 := frozen_of_row w3 w.heap.size 1 _ _ c1; have x12 := cell_of_block c1 (o := 2) rfl; have f12 := frozen_of_row w3 w.heap.size 2 _ _ c1; have x13 := cell_of_block c1 (o := 3) rfl; have f13 := frozen_of_row w3 w.heap.size 3 _ _ c1; have x14 := cell_of_block c1 (o := 4) rfl; have f14 := frozen_of_row w3 w.heap.size 4 _ _ c1; have x15 := cell_of_block c1 (o := 5) rfl; have f15 := frozen_of_row w3 w.heap.size 5 _ _ c1; have x20 := cell_of_block c2 (o := 0) rfl; have f20 := frozen_of_row w3 (w.heap.size + 1) 0 _ _ c2; have x21 := cell_of_block c2 (o := 1) rfl; have f21 := frozen_of_row w3 (w.heap.size + 1) 1 _ _ c2; have x22 := cell_of_block c2 (o := 2) rfl; have f22 := frozen_of_row w3 (w.heap.size + 1) 2 _ _ c2; have x23 := cell_of_block c2 (o := 3) rfl; have f23 := frozen_of_row w3 (w.heap.size + 1) 3 _ _ c2; have x24 := cell_of_block c2 (o := 4) rfl; have f24 := frozen_of_row w3 (w.heap.size + 1) 4 _ _ c2; have x25 := cell_of_block c2 (o := 5) rfl; have f25 := frozen_of_row w3 (w.heap.size + 1) 5 _ _ c2; have Hp := Lib.hid hp3; have HpO := Lib.hid hpO3; have HS3 := Lib.hid hs3; have HW3 := Lib.hid hw3; have C2 := Lib.hid c2; have C1 := Lib.hid c1; clear c1 c2 hp3 hpO3 hs3 hw3 hb3) 
          obtain ⟨z1, z2, z3, z4, z5, z6⟩ := set_t1 5 (.int .i64 12) (Keeps.of_below HW3.out) C1.out C2.out Hp.out HpO.out 
          obtain ⟨e6, o6, k6, h4⟩ := put_stored (b0 := .string s) (b1 := .int .i64 (at' : Int)) (b2 := .slice p n cap) (b3 := .slice pO st.length cO) (b4 := .bool true) (b5 := .int .i64 12) HL.out z4 (Nat.le_trans HS3.out z5) z1 (Keeps.refl _ _) z2 
          have oO := put_other (w := w) (b0 := .string s) (b1 := .int .i64 (at' : Int)) (b2 := .slice p n cap) (b3 := .slice pO st.length cO) (b4 := .bool true) (b5 := .int .i64 12) z2 z3 (Keeps.refl _ _) h4 
          have q0 := cell_of_block e6 (o := 0) rfl 
          have q1 := cell_of_block e6 (o := 1) rfl 
          have q2 := cell_of_block e6 (o := 2) rfl 
          have q3 := cell_of_block e6 (o := 3) rfl 
          have q4 := cell_of_block e6 (o := 4) rfl 
          have q5 := cell_of_block e6 (o := 5) rfl 
          refine bodyPost_ret (v := .agg #[.string s, .int .i64 (at' : Int), .slice p n cap, .slice pO st.length cO, .bool true, .int .i64 12]) (by simp [results, Tryz.results21, go_sem, q0, q1, q2, q3, q4, q5]) rfl ⟨.slice p n cap, .slice pO st.length cO, ?_, ?_, ?_, ?_⟩ 
          · rfl 
          · exact o6 
          · exact oO 
          · exact k6
      · rw [if_neg (by simp)]
        have hL2 : 2 ≤ L.size := by
          have := Lib.hasPrefix_le hpx
          rw [← hLd, ← Lib.size_eq] at this
          exact this
        have h1lt : 1 < L.size := by omega
        have b40 : L[1] = 40 := by
          rw [← hLd, cons2_of L hL2, n92] at hpx
          exact Eq.symm (by simpa [Lib.hasPrefix] using hpx)
        have y40 : ((L[1].toNat : Int) != 40) = false := by rw [b40]; rfl
        by_cases h256 : 256 ≤ st.length
        · rw [if_pos h256]
          clear hpc hr hL hO b1 b2 hs2 hB2 hcons hat0 hext1 hLd hpz hq n34 hp0 hple hpx n92 b40
          go_enter Tryz.func21, Tryz.ntmps21 
          go_wp2_with (go_at_call 37; refine (Hpc.out _).mono ?_; rintro e w3 ⟨rfl, hb3⟩; obtain ⟨c1, c2, hp3, hpO3, hs3, hw3⟩ := in_piece HL.out HO.out hb3; have x10 := cell_of_block c1 (o := 0) rfl; have f10 := frozen_of_row w3 w.heap.size 0 _ _ c1; have x11 := cell_of_block c1 (o := 1) rfl; have f11 := frozen_of_row w3 w.heap.size 1 _ _ c1; have x12 := cell_of_block c1 (o := 2) rfl; have f12 := frozen_of_row w3 w.heap.size 2 _ _ c1; have x13 := cell_of_block c1 (o := 3) rfl; have f13 := frozen_of_row w3 w.heap.size 3 _ _ c1; have x14 := cell_of_block c1 (o := 4) rfl; have f14 := frozen_of_row w3 w.heap.size 4 _ _ c1; have x15 := cell_of_block c1 (o := 5) rfl; have f15 := frozen_of_row w3 w.heap.size 5 _ _ c1; have x20 := cell_of_block c2 (o := 0) rfl; have f20 := frozen_of_row w3 (w.heap.size + 1) 0 _ _ c2; have x21 := cell_of_block c2 (o := 1) rfl; have f21 := frozen_of_row w3 (w.heap.size + 1) 1 _ _ c2; have x22 := cell_of_block c2 (o := 2) rfl; have f22 := frozen_of_row w3 (w.heap.size + 1) 2 _ _ c2; have x23 := cell_of_block c2 (o := 3) rfl; have f23 := frozen_of_row w3 (w.heap.size + 1) 3 _ _ c2; have x24 := cell_of_block c2 (o := 4) rfl; have f24 := frozen_of_row w3 (w.heap.size + 1) 4 _ _ c2; have x25 := cell_of_block c2 (o := 5) rfl; have f25 := frozen_of_row w3 (w.heap.size + 1) 5 _ _ c2; have Hp := Lib.hid hp3; have HpO := Lib.hid hpO3; have HS3 := Lib.hid hs3; have HW3 := Lib.hid hw3; have C2 := Lib.hid c2; have C1 := Lib.hid c1; clear c1 c2 hp3 hpO3 hs3 hw3 hb3) 
          obtain ⟨z1, z2, z3, z4, z5, z6⟩ := set_t1 5 (.int .i64 21) (Keeps.of_below HW3.out) C1.out C2.out Hp.out HpO.out 
          obtain ⟨e6, o6, k6, h4⟩ := put_stored (b0 := .string s) (b1 := .int .i64 (at' : Int)) (b2 := .slice p n cap) (b3 := .slice pO st.length cO) (b4 := .bool true) (b5 := .int .i64 21) HL.out z4 (Nat.le_trans HS3.out z5) z1 (Keeps.refl _ _) z2 
          have oO := put_other (w := w) (b0 := .string s) (b1 := .int .i64 (at' : Int)) (b2 := .slice p n cap) (b3 := .slice pO st.length cO) (b4 := .bool true) (b5 := .int .i64 21) z2 z3 (Keeps.refl _ _) h4 
          have q0 := cell_of_block e6 (o := 0) rfl 
          have q1 := cell_of_block e6 (o := 1) rfl 
          have q2 := cell_of_block e6 (o := 2) rfl 
          have q3 := cell_of_block e6 (o := 3) rfl 
          have q4 := cell_of_block e6 (o := 4) rfl 
          have q5 := cell_of_block e6 (o := 5) rfl 
          refine bodyPost_ret (v := .agg #[.string s, .int .i64 (at' : Int), .slice p n cap, .slice pO st.length cO, .bool true, .int .i64 21]) (by simp [results, Tryz.results21, go_sem, q0, q1, q2, q3, q4, q5]) rfl ⟨.slice p n cap, .slice pO st.length cO, ?_, ?_, ?_, ?_⟩ 
          · rfl 
          · exact o6 
          · exact oO 
          · exact k6
        · rw [if_neg h256]
          have Hext := Lib.hid (hext1 2 hL2).1
          have Hm := Lib.hid (hext1 2 hL2).2
          have hmn : min 2 (s.size - at') = 2 := by omega
          obtain ⟨i3, hi, hz0, hz1, hz2⟩ := info_parts hi3
          clear hpc hr hL hO b1 b2 hs2 hB2 hcons hat0 hext1 hLd hpz hq n34 hp0 hple hpx n92 b40
          go_enter Tryz.func21, Tryz.ntmps21
          go_wp2_with (first
            | (go_at_call 37; refine (Hpc.out _).mono ?_; rintro e w3 ⟨rfl, hb3⟩; obtain ⟨c1, c2, hp3, hpO3, hs3, hw3⟩ := in_piece HL.out HO.out hb3; have x10 := cell_of_block c1 (o := 0) rfl; have f10 := frozen_of_row w3 w.heap.size 0 _ _ c1; have x11 := cell_of_block c1 (o := 1) rfl; have f11 := frozen_of_row w3 w.heap.size 1 _ _ c1; have x12 := cell_of_block c1 (o := 2) rfl; have f12 := frozen_of_row w3 w.heap.size 2 _ _ c1; have x13 := cell_of_block c1 (o := 3) rfl; have f13 := frozen_of_row w3 w.heap.size 3 _ _ c1; have x14 := cell_of_block c1 (o := 4) rfl; have f14 := frozen_of_row w3 w.heap.size 4 _ _ c1; have x15 := cell_of_block c1 (o := 5) rfl; have f15 := frozen_of_row w3 w.heap.size 5 _ _ c1; have x20 := cell_of_block c2 (o := 0) rfl; have f20 := frozen_of_row w3 (w.heap.size + 1) 0 _ _ c2; have x21 := cell_of_block c2 (o := 1) rfl; have f21 := frozen_of_row w3 (w.heap.size + 1) 1 _ _ c2; have x22 := cell_of_block c2 (o := 2) rfl; have f22 := frozen_of_row w3 (w.heap.size + 1) 2 _ _ c2; have x23 := cell_of_block c2 (o := 3) rfl; have f23 := frozen_of_row w3 (w.heap.size + 1) 3 _ _ c2; have x24 := cell_of_block c2 (o := 4) rfl; have f24 := frozen_of_row w3 (w.heap.size + 1) 4 _ _ c2; have x25 := cell_of_block c2 (o := 5) rfl; have f25 := frozen_of_row w3 (w.heap.size + 1) 5 _ _ c2; have Hp := Lib.hid hp3; have HpO := Lib.hid hpO3; have HS3 := Lib.hid hs3; have HW3 := Lib.hid hw3; have C2 := Lib.hid c2; have C1 := Lib.hid c1; clear c1 c2 hp3 hpO3 hs3 hw3 hb3)
            | (at_builtin; refine wpList_append_any _ rfl _ _ 46 rfl w3.heap.size 3 i3 (.int .i64 0) 1 8 stack_und hi hz0 hz1 hz2 rfl (by decide) (.slice none 0 0) 0 [] rfl (World.ownsRow_nil _ _ _ _) base _ st.length (stackC st) rfl HpO.out (stack_one st) (by simp only [maxLen]; omega) (by omega) (Nat.le_refl _) ?_; intro v6 w6 own6 hk6; have Own6 := Lib.hid own6; have Hk6 := Lib.hid (hk6.mono (O' := fun _ => False) fun b _ h => by simp [Value.ownBlock] at h); clear own6 hk6; clear x10 x11 x12 x13 x14 x15 f10 f11 f12 f13 f14 f15 x20 x21 x22 x23 x24 x25 f20 f21 f22 f23 f24 f25)
            | (at_builtin; refine wpList_append_O _ rfl _ _ 46 rfl w3.heap.size 3 i3 (.int .i64 0) 1 8 stack_und hi hz0 hz1 hz2 rfl (by decide) v6 (0 + st.length) ([] ++ stackC st) rfl (Own6.out.alloc _) ⟨w6.heap.size, 0, none⟩ 1 1 [.int .i64 0] rfl rfl (cell_one w6) (by intro u hu; simp at hu; subst hu; rfl) (by simp only [maxLen]; omega) (by omega) (by have := Hk6.out.size; simp; omega) ?_; intro v7 w7 own7 hk7 _ _; obtain ⟨c1, c2, o2, kw, sw⟩ := open_kept (Keeps.of_below HW3.out) C1.out C2.out Hp.out HS3.out Hk6.out Own6.out hk7; have own7' : w7.ownsRow base 3 1 v7 (st.length + 1) (stackC (0 :: st)) := (by rw [← stack_push]; have := ownsRow_base own7 (Nat.le_trans hb HW3.out.size); rwa [Nat.zero_add, List.nil_append] at this); obtain ⟨p7, c7, rfl, _⟩ := row_shape own7'; have x10 := cell_of_block c1 (o := 0) rfl; have f10 := frozen_of_row w7 w.heap.size 0 _ _ c1; have x11 := cell_of_block c1 (o := 1) rfl; have f11 := frozen_of_row w7 w.heap.size 1 _ _ c1; have x12 := cell_of_block c1 (o := 2) rfl; have f12 := frozen_of_row w7 w.heap.size 2 _ _ c1; have x13 := cell_of_block c1 (o := 3) rfl; have f13 := frozen_of_row w7 w.heap.size 3 _ _ c1; have x14 := cell_of_block c1 (o := 4) rfl; have f14 := frozen_of_row w7 w.heap.size 4 _ _ c1; have x15 := cell_of_block c1 (o := 5) rfl; have f15 := frozen_of_row w7 w.heap.size 5 _ _ c1; have x20 := cell_of_block c2 (o := 0) rfl; have f20 := frozen_of_row w7 (w.heap.size + 1) 0 _ _ c2; have x21 := cell_of_block c2 (o := 1) rfl; have f21 := frozen_of_row w7 (w.heap.size + 1) 1 _ _ c2; have x22 := cell_of_block c2 (o := 2) rfl; have f22 := frozen_of_row w7 (w.heap.size + 1) 2 _ _ c2; have x23 := cell_of_block c2 (o := 3) rfl; have f23 := frozen_of_row w7 (w.heap.size + 1) 3 _ _ c2; have x24 := cell_of_block c2 (o := 4) rfl; have f24 := frozen_of_row w7 (w.heap.size + 1) 4 _ _ c2; have x25 := cell_of_block c2 (o := 5) rfl; have f25 := frozen_of_row w7 (w.heap.size + 1) 5 _ _ c2; have Own7 := Lib.hid own7'; have D1 := Lib.hid c1; have D2 := Lib.hid c2; have O2 := Lib.hid o2; have KW := Lib.hid kw; have SW := Lib.hid sw; clear c1 c2 o2 kw sw own7 own7' hk7))
          obtain ⟨z1, z2, z3, z4, z5, z6⟩ := set_t1 3 (.slice p7 (st.length + 1) c7) KW.out D1.out D2.out O2.out Own7.out
          obtain ⟨u1, u2, u3, u4, u5, u6⟩ := set_t1 4 (.bool false) z4 z6 z1 z2 z3
          have U1 := Lib.hid u1
          have U2 := Lib.hid u2
          have U3 := Lib.hid u3
          have U4 := Lib.hid u4
          have U5 := Lib.hid (Nat.le_trans (Nat.le_trans HS3.out SW.out) (Nat.le_trans z5 u5))
          clear z1 z2 z3 z4 z5 z6 u1 u2 u3 u4 u5 u6
          go_region_with ((go_at_call 38; refine Calls.mono (put_calls s at' (.slice p n cap) (.slice p7 (st.length + 1) c7) false 0 9 _ _ base n xs ?_ ?_ ?_ ?_ ?_ ⟨_, _, _, rfl⟩) ?_; exact U2.out; omega; omega; (have := Hm.out; omega); exact Nat.le_trans hb (U4.out.size); rintro e w4 ⟨v', rfl, ho4, hk4⟩; have h4 := hk4.heap (show (_ : World).heap[w.heap.size + 1]? = _ from U1.out) (fun e => by have := (HL.out.lt _ e.symm).2; omega); have y20 := cell_of_block h4 (o := 0) rfl; have g20 := frozen_of_row w4 (w.heap.size + 1) 0 _ _ h4; have y21 := cell_of_block h4 (o := 1) rfl; have g21 := frozen_of_row w4 (w.heap.size + 1) 1 _ _ h4; have y22 := cell_of_block h4 (o := 2) rfl; have g22 := frozen_of_row w4 (w.heap.size + 1) 2 _ _ h4; have y23 := cell_of_block h4 (o := 3) rfl; have g23 := frozen_of_row w4 (w.heap.size + 1) 3 _ _ h4; have y24 := cell_of_block h4 (o := 4) rfl; have g24 := frozen_of_row w4 (w.heap.size + 1) 4 _ _ h4; have y25 := cell_of_block h4 (o := 5) rfl; have g25 := frozen_of_row w4 (w.heap.size + 1) 5 _ _ h4; have Ho4 := Lib.hid ho4; have Hk4 := Lib.hid hk4; obtain ⟨q, c, rfl, _⟩ := row_shape ho4; clear h4 ho4 hk4; unfold LV))
          all_goals
           go_wp2
           have hkw := U4.out 
           have hk4 : Keeps (fun b => some b = (Value.slice p n cap).ownBlock) ((w7.setCell ⟨w.heap.size, 3, none⟩ (.slice p7 (st.length + 1) c7)).setCell ⟨w.heap.size, 4, none⟩ (.bool false)) w4 := by first | exact (Keeps.drew _).trans Hk4.out | exact Hk4.out 
           obtain ⟨e6, o6, k6, h4⟩ := put_stored (b0 := .string s) (b1 := .int .i64 ((at' : Int) + 2)) (b2 := .slice q (n + 1) c) (b3 := (.slice p7 (st.length + 1) c7)) (b4 := .bool false) (b5 := .int .i64 0) HL.out hkw (U5.out) U1.out hk4 Ho4.out 
           have oO := put_other (w := w) (b0 := .string s) (b1 := .int .i64 ((at' : Int) + 2)) (b2 := .slice q (n + 1) c) (b3 := (.slice p7 (st.length + 1) c7)) (b4 := .bool false) (b5 := .int .i64 0) U2.out U3.out hk4 h4 
           have q0 := cell_of_block e6 (o := 0) rfl 
           have q1 := cell_of_block e6 (o := 1) rfl 
           have q2 := cell_of_block e6 (o := 2) rfl 
           have q3 := cell_of_block e6 (o := 3) rfl 
           have q4 := cell_of_block e6 (o := 4) rfl 
           have q5 := cell_of_block e6 (o := 5) rfl 
           rw [Hext.out] at o6 
           refine bodyPost_ret (v := .agg #[.string s, .int .i64 ((at' : Int) + 2), .slice q (n + 1) c, (.slice p7 (st.length + 1) c7), .bool false, .int .i64 0]) (by simp [results, Tryz.results21, go_sem, q0, q1, q2, q3, q4, q5]) rfl ⟨.slice q (n + 1) c, (.slice p7 (st.length + 1) c7), ?_, ?_, ?_, ?_⟩ 
           · exact congrArg Ending.returned (lv2 s at' _ _ _).symm 
           · exact o6 
           · exact oO 
           · exact k6
    · have n34 := byte_is (k := 34) (by omega) h34
      rw [if_pos (by rw [n34]; rfl)]
      have Hext := Lib.hid (hext1 1 (by omega)).1
      have Hm := Lib.hid (hext1 1 (by omega)).2
      have hmn : min 1 (s.size - at') = 1 := by omega
      clear hpc hr hL hO b1 b2 hs2 hB2 hcons hat0 hext1 hLd hpz hq n34 hp0 hple
      go_enter Tryz.func21, Tryz.ntmps21
      go_wp2_with (go_at_call 37; refine (Hpc.out _).mono ?_; rintro e w3 ⟨rfl, hb3⟩; obtain ⟨c1, c2, hp3, hpO3, hs3, hw3⟩ := in_piece HL.out HO.out hb3; have x10 := cell_of_block c1 (o := 0) rfl; have f10 := frozen_of_row w3 w.heap.size 0 _ _ c1; have x11 := cell_of_block c1 (o := 1) rfl; have f11 := frozen_of_row w3 w.heap.size 1 _ _ c1; have x12 := cell_of_block c1 (o := 2) rfl; have f12 := frozen_of_row w3 w.heap.size 2 _ _ c1; have x13 := cell_of_block c1 (o := 3) rfl; have f13 := frozen_of_row w3 w.heap.size 3 _ _ c1; have x14 := cell_of_block c1 (o := 4) rfl; have f14 := frozen_of_row w3 w.heap.size 4 _ _ c1; have x15 := cell_of_block c1 (o := 5) rfl; have f15 := frozen_of_row w3 w.heap.size 5 _ _ c1; have x20 := cell_of_block c2 (o := 0) rfl; have f20 := frozen_of_row w3 (w.heap.size + 1) 0 _ _ c2; have x21 := cell_of_block c2 (o := 1) rfl; have f21 := frozen_of_row w3 (w.heap.size + 1) 1 _ _ c2; have x22 := cell_of_block c2 (o := 2) rfl; have f22 := frozen_of_row w3 (w.heap.size + 1) 2 _ _ c2; have x23 := cell_of_block c2 (o := 3) rfl; have f23 := frozen_of_row w3 (w.heap.size + 1) 3 _ _ c2; have x24 := cell_of_block c2 (o := 4) rfl; have f24 := frozen_of_row w3 (w.heap.size + 1) 4 _ _ c2; have x25 := cell_of_block c2 (o := 5) rfl; have f25 := frozen_of_row w3 (w.heap.size + 1) 5 _ _ c2; have Hp := Lib.hid hp3; have HpO := Lib.hid hpO3; have HS3 := Lib.hid hs3; have HW3 := Lib.hid hw3; have C2 := Lib.hid c2; have C1 := Lib.hid c1; clear c1 c2 hp3 hpO3 hs3 hw3 hb3)
      obtain ⟨z1, z2, z3, z4, z5, z6⟩ := set_t1 4 (.bool false) (Keeps.of_below HW3.out) C1.out C2.out Hp.out HpO.out
      have Z1 := Lib.hid z1
      have Z2 := Lib.hid z2
      have Z3 := Lib.hid z3
      have Z4 := Lib.hid z4
      have Z5 := Lib.hid z5
      clear z1 z2 z3 z4 z5 z6
      go_region_with ((go_at_call 38; refine Calls.mono (put_calls s at' (.slice p n cap) (.slice pO st.length cO) false 0 11 _ _ base n xs ?_ ?_ ?_ ?_ ?_ ⟨_, _, _, rfl⟩) ?_; exact Z2.out; omega; omega; (have := Hm.out; omega); exact Nat.le_trans hb (Z4.out.size); rintro e w4 ⟨v', rfl, ho4, hk4⟩; have h4 := hk4.heap (show (_ : World).heap[w.heap.size + 1]? = _ from Z1.out) (fun e => by have := (HL.out.lt _ e.symm).2; omega); have y20 := cell_of_block h4 (o := 0) rfl; have g20 := frozen_of_row w4 (w.heap.size + 1) 0 _ _ h4; have y21 := cell_of_block h4 (o := 1) rfl; have g21 := frozen_of_row w4 (w.heap.size + 1) 1 _ _ h4; have y22 := cell_of_block h4 (o := 2) rfl; have g22 := frozen_of_row w4 (w.heap.size + 1) 2 _ _ h4; have y23 := cell_of_block h4 (o := 3) rfl; have g23 := frozen_of_row w4 (w.heap.size + 1) 3 _ _ h4; have y24 := cell_of_block h4 (o := 4) rfl; have g24 := frozen_of_row w4 (w.heap.size + 1) 4 _ _ h4; have y25 := cell_of_block h4 (o := 5) rfl; have g25 := frozen_of_row w4 (w.heap.size + 1) 5 _ _ h4; have Ho4 := Lib.hid ho4; have Hk4 := Lib.hid hk4; obtain ⟨q, c, rfl, _⟩ := row_shape ho4; clear h4 ho4 hk4; unfold LV))
      all_goals
       go_wp2
       have hkw := Z4.out 
       have hk4 : Keeps (fun b => some b = (Value.slice p n cap).ownBlock) (w3.setCell ⟨w.heap.size, 4, none⟩ (.bool false)) w4 := by first | exact (Keeps.drew _).trans Hk4.out | exact Hk4.out 
       obtain ⟨e6, o6, k6, h4⟩ := put_stored (b0 := .string s) (b1 := .int .i64 ((at' : Int) + 1)) (b2 := .slice q (n + 1) c) (b3 := (.slice pO st.length cO)) (b4 := .bool false) (b5 := .int .i64 0) HL.out hkw (Nat.le_trans HS3.out Z5.out) Z1.out hk4 Ho4.out 
       have oO := put_other (w := w) (b0 := .string s) (b1 := .int .i64 ((at' : Int) + 1)) (b2 := .slice q (n + 1) c) (b3 := (.slice pO st.length cO)) (b4 := .bool false) (b5 := .int .i64 0) Z2.out Z3.out hk4 h4 
       have q0 := cell_of_block e6 (o := 0) rfl 
       have q1 := cell_of_block e6 (o := 1) rfl 
       have q2 := cell_of_block e6 (o := 2) rfl 
       have q3 := cell_of_block e6 (o := 3) rfl 
       have q4 := cell_of_block e6 (o := 4) rfl 
       have q5 := cell_of_block e6 (o := 5) rfl 
       rw [Hext.out] at o6 
       refine bodyPost_ret (v := .agg #[.string s, .int .i64 ((at' : Int) + 1), .slice q (n + 1) c, (.slice pO st.length cO), .bool false, .int .i64 0]) (by simp [results, Tryz.results21, go_sem, q0, q1, q2, q3, q4, q5]) rfl ⟨.slice q (n + 1) c, (.slice pO st.length cO), ?_, ?_, ?_, ?_⟩ 
       · exact congrArg Ending.returned (lv1 s at' _ _ _).symm 
       · exact o6 
       · exact oO 
       · exact k6
end Go.Proofs.YtiinhkfbgecbjaaGreatDoor
namespace Go.Proofs.YtiinhkfbgecbjaaGreatDoor
set_option linter.unusedSimpArgs false
set_option linter.unusedVariables false
open Go.RowKit Go.Sub

/-- how all lies at a place of the step -/
structure OutAt (w W : World) (base n m : Nat) (vL vO : Value) (xs ys : List Value) (a b : Array Value) (B : Nat) : Prop where
  c1 : W.heap[w.heap.size]? = some (.cells a 48 (0, 0))
  c2 : W.heap[w.heap.size + 1]? = some (.cells lzero 48 (0, 0))
  c3 : W.heap[B]? = some (.cells b 29 (0, 0))
  hB : w.heap.size + 2 ≤ B
  hp : W.ownsRow base 29 2 vL n xs
  ho : W.ownsRow base 3 1 vO m ys
  old : ∀ g, some g = vL.ownBlock → g < w.heap.size
  kw : Keeps (fun b => w.heap.size ≤ b) w W
  sz : w.heap.size + 2 ≤ W.heap.size
variable {w W : World} {base n m : Nat} {vL vO : Value} {xs ys : List Value} {a b : Array Value} {B : Nat}
/-- a cell of the token set -/
theorem OutAt.tok (h : OutAt w W base n m vL vO xs ys a b B) (o : Nat) (u : Value) : OutAt w (W.setCell ⟨B, o, none⟩ u) base n m vL vO xs ys a (b.setIfInBounds o u) B := by
  have hB := h.hB
  have k := keeps_setCell W B o u (O := fun b => b = B) rfl
  refine ⟨k.heap h.c1 (by omega), k.heap h.c2 (by omega), heap_setCell_same W _ o _ _ u h.c3, hB, ownsRow_keeps h.hp k (fun g hg e => by have := h.old g hg; omega), ownsRow_keeps h.ho k (fun g hg e => ?_), h.old, h.kw.trans' k fun b hb e => by omega, Nat.le_trans h.sz k.size⟩
  have hd := rows_block h.ho hg
  rw [e, h.c3] at hd
  obtain ⟨cur, hd⟩ := hd
  simp only [Option.some.injEq, Obj.cells.injEq] at hd
  exact absurd hd.2.1 (by decide)
/-- a cell of the boxed lexer set -/
theorem OutAt.lex (h : OutAt w W base n m vL vO xs ys a b B) (o : Nat) (u : Value) : OutAt w (W.setCell ⟨w.heap.size, o, none⟩ u) base n m vL vO xs ys (a.setIfInBounds o u) b B := by
  have hB := h.hB
  obtain ⟨z1, z2, z3, z4, z5, z6⟩ := set_t1 o u h.kw h.c1 h.c2 h.hp h.ho
  have k := keeps_setCell W w.heap.size o u (O := fun b => b = w.heap.size) rfl
  exact ⟨z6, z1, k.heap h.c3 (by omega), hB, z2, z3, h.old, z4, Nat.le_trans h.sz z5⟩
theorem OutAt.row {m' : Nat} {vO' : Value} {ys' : List Value} (h : OutAt w W base n m vL vO xs ys a b B) (h2 : W.ownsRow base 3 1 vO' m' ys') : OutAt w W base n m' vL vO' xs ys' a b B := ⟨h.c1, h.c2, h.c3, h.hB, h.hp, h2, h.old, h.kw, h.sz⟩
theorem OutAt.keeps {W' : World} (h : OutAt w W base n m vL vO xs ys a b B) (k : Keeps (fun _ => False) W W') : OutAt w W' base n m vL vO xs ys a b B :=
  ⟨k.heap h.c1 (fun h => h), k.heap h.c2 (fun h => h), k.heap h.c3 (fun h => h), h.hB, ownsRow_keeps h.hp k (fun _ _ h => h), ownsRow_keeps h.ho k (fun _ _ h => h), h.old, h.kw.trans' k fun _ _ h => h.elim, Nat.le_trans h.sz k.size⟩
/-- the bracket on top set -/
theorem OutAt.brk {t u : Nat} {rest : List Nat} {g cap : Nat} (h : OutAt w W base n (rest.length + 1) vL (.slice (some ⟨g, 0, none⟩) (rest.length + 1) cap) xs (stackC (t :: rest)) a b B) (hg : w.heap.size ≤ g) :
    OutAt w (W.setCell ⟨g, rest.length, none⟩ (.int .i64 (u : Int))) base n (rest.length + 1) vL (.slice (some ⟨g, 0, none⟩) (rest.length + 1) cap) xs (stackC (u :: rest)) a b B := by
  obtain ⟨_, _, h3⟩ := own_set (u := u) h.ho
  have k := keeps_setCell W g rest.length (.int .i64 (u : Int)) (O := fun b => b = g) rfl
  obtain ⟨cur, hd⟩ := rows_block h.ho (g := g) rfl
  have ne : ∀ {q : Nat} {cs : Array Value} {e : TypeId}, W.heap[q]? = some (.cells cs e (0, 0)) → e ≠ 3 → ¬ q = g := fun hq he e => by
    rw [e, hd] at hq
    simp only [Option.some.injEq, Obj.cells.injEq] at hq
    exact he hq.2.1.symm
  exact ⟨k.heap h.c1 (ne h.c1 (by decide)), k.heap h.c2 (ne h.c2 (by decide)), k.heap h.c3 (ne h.c3 (by decide)), h.hB, ownsRow_keeps h.hp k (fun q hq e => rows_apart h.hp h.ho (by decide) q hq (by rw [e]; rfl)), h3, h.old, h.kw.trans' k fun b hb e => by omega, Nat.le_trans h.sz k.size⟩
theorem OutAt.ne {k : Nat} {g cap : Nat} {cs : Array Value} {e : TypeId} {q : Nat} (h : OutAt w W base n k vL (.slice (some ⟨g, 0, none⟩) k cap) xs ys a b B) (hq : W.heap[q]? = some (.cells cs e (0, 0))) (he : e ≠ 3) : q ≠ g := fun e2 => by
  obtain ⟨cur, hd⟩ := rows_block h.ho (g := g) rfl
  rw [e2, hd] at hq
  simp only [Option.some.injEq, Obj.cells.injEq] at hq
  exact he hq.2.1.symm
theorem OutAt.ne1 {k : Nat} {g cap : Nat} (h : OutAt w W base n k vL (.slice (some ⟨g, 0, none⟩) k cap) xs ys a b B) : w.heap.size ≠ g := h.ne h.c1 (by decide)
theorem OutAt.ne2 {k : Nat} {g cap : Nat} (h : OutAt w W base n k vL (.slice (some ⟨g, 0, none⟩) k cap) xs ys a b B) : w.heap.size + 1 ≠ g := h.ne h.c2 (by decide)
theorem OutAt.ne3 {k : Nat} {g cap : Nat} (h : OutAt w W base n k vL (.slice (some ⟨g, 0, none⟩) k cap) xs ys a b B) : B ≠ g := h.ne h.c3 (by decide)
theorem outAt_plain {w3 : World} {x y : Value} (hL : w.ownsRow base 29 2 vL n xs) (hO : w.ownsRow base 3 1 vO m ys)
    (hb3 : Below ((w.alloc (.cells a 48)).alloc (.cells lzero 48)).heap.size ((w.alloc (.cells a 48)).alloc (.cells lzero 48)) w3) : OutAt w (w3.alloc (.cells #[x, y] 29)) base n m vL vO xs ys a #[x, y] w3.heap.size := by
  obtain ⟨c1, c2, hp, ho, hs, hw⟩ := in_piece hL hO hb3
  have ka : Keeps (fun _ => False) w3 (w3.alloc (.cells #[x, y] 29)) := Keeps.alloc _ _ _
  exact ⟨ka.heap c1 (fun h => h), ka.heap c2 (fun h => h), World.alloc_heap_new _ _, hs, ownsRow_keeps hp ka (fun _ _ h => h), ownsRow_keeps ho ka (fun _ _ h => h), fun g hg => (hL.lt g hg.symm).2, (Keeps.of_below hw).trans' ka fun _ _ h => h.elim, Nat.le_trans hs ka.size⟩
theorem out_find {l : List UInt8} {st : List Nat} : ((kindsL l).find? (fun x => decide (0 < x.2)) = none ∧ plainN l = (13, 0) ∧ outN l st = (0, 0, st, false, 11)) ∨
    ∃ k m, plainN l = (k, m) ∧ 0 < m ∧ m ≤ l.length ∧ k ≤ 13 ∧ outN l st = ((brkN st k (l.take m)).2.1, m, (brkN st k (l.take m)).1, (brkN st k (l.take m)).2.2 || (k == 7), 0) := by
  cases hf : (kindsL l).find? fun x => decide (0 < x.2) with
  | none =>
    refine .inl ⟨rfl, by unfold plainN; rw [hf]; rfl, ?_⟩
    rw [outM_eq]; unfold outM; rw [hf]
  | some x =>
    obtain ⟨k, m⟩ := x
    have h0 : 0 < m := by simpa using List.find?_some hf
    have hm := List.mem_of_find?_eq_some hf
    rw [← kinds_eq] at hm
    obtain ⟨y, hy, he⟩ := List.mem_map.1 hm
    have hle := tries_le y hy l
    have hk := tries_kind y hy
    simp only [Prod.mk.injEq] at he
    refine .inr ⟨k, m, by unfold plainN; rw [hf]; rfl, h0, by omega, by omega, ?_⟩
    rw [outM_eq]; unfold outM; rw [hf]
theorem rplain_at (s : ByteArray) (at' : Nat) (hat : at' < s.size) (hs : s.size ≤ 65536) {k m : Nat} (hp : plainN (s.data.toList.drop at') = (k, m)) (w : World) :
    Calls Tryz.prog 39 #[.string (s.extract at' s.size)] w fun e w' => e = .returned (.agg #[.int .i64 (k : Int), .string ⟨((s.data.toList.drop at').take m).toArray⟩]) ∧ Below w.heap.size w w' := by
  have hsz := ext_size s at'
  have h := rplainTok_calls (s.extract at' s.size) w (by omega) (by omega)
  rw [ext_data, hp] at h
  refine h.mono fun e w' hh => ?_
  obtain ⟨R, he, hR, hb⟩ := hh
  rw [ext_data] at hR
  exact ⟨by rw [he, back_strB hR.symm], hb⟩
set_option maxRecDepth 100000 in
set_option maxHeartbeats 2000000 in
theorem routside_calls (s : ByteArray) (at' : Nat) (vL vO : Value) (st : List Nat) (w : World) (base n : Nat) (xs : List Value) (hL : w.ownsRow base 29 2 vL n xs) (hO : w.ownsRow base 3 1 vO st.length (stackC st)) (hn : n ≤ 65536) (hat : at' < s.size) (hs : s.size ≤ 65536) (hst : st.length ≤ 256) (hbt : ∀ x ∈ st, x ≤ 70000) (hb : base ≤ w.heap.size) :
    Calls Tryz.prog 22 #[LV s at' vL vO false 0] w (RStep w base s at' vL xs n (outN (s.data.toList.drop at') st)) := by
  obtain ⟨p, cap, rfl, hcap⟩ := row_shape hL
  obtain ⟨pO, cO, rfl, hcO⟩ := row_shape hO
  have hsl : (s.extract at' s.size).size = s.size - at' := ext_size s at'
  have HL := Lib.hid hL
  have HO := Lib.hid hO
  unfold LV
  rcases out_find (l := s.data.toList.drop at') (st := st) with ⟨_, hp, hr⟩ | ⟨k, m, hp, h0, hml, hk13, hr⟩
  · rw [hr]
    have hpl := rplain_at s at' hat hs hp
    rw [List.take_zero] at hpl
    have Hpl := Lib.hid hpl
    clear hpl hp hr hL hO
    go_enter Tryz.func22, Tryz.ntmps22
    go_wp2_with (go_at_call 39; refine (Hpl.out _).mono ?_; rintro e w3 ⟨rfl, hb3⟩; have oa := outAt_plain (x := .int .i64 (13 : Int)) (y := .string (⟨#[]⟩)) HL.out HO.out hb3; have c1 := oa.c1; have c2 := oa.c2; have c3 := oa.c3; have x10 := cell_of_block c1 (o := 0) rfl; have f10 := frozen_of_row (w3.alloc (.cells #[.int .i64 (13 : Int), .string (⟨#[]⟩)] 29)) (w.heap.size) 0 _ _ c1; have x11 := cell_of_block c1 (o := 1) rfl; have f11 := frozen_of_row (w3.alloc (.cells #[.int .i64 (13 : Int), .string (⟨#[]⟩)] 29)) (w.heap.size) 1 _ _ c1; have x12 := cell_of_block c1 (o := 2) rfl; have f12 := frozen_of_row (w3.alloc (.cells #[.int .i64 (13 : Int), .string (⟨#[]⟩)] 29)) (w.heap.size) 2 _ _ c1; have x13 := cell_of_block c1 (o := 3) rfl; have f13 := frozen_of_row (w3.alloc (.cells #[.int .i64 (13 : Int), .string (⟨#[]⟩)] 29)) (w.heap.size) 3 _ _ c1; have x14 := cell_of_block c1 (o := 4) rfl; have f14 := frozen_of_row (w3.alloc (.cells #[.int .i64 (13 : Int), .string (⟨#[]⟩)] 29)) (w.heap.size) 4 _ _ c1; have x15 := cell_of_block c1 (o := 5) rfl; have f15 := frozen_of_row (w3.alloc (.cells #[.int .i64 (13 : Int), .string (⟨#[]⟩)] 29)) (w.heap.size) 5 _ _ c1; have x20 := cell_of_block c2 (o := 0) rfl; have f20 := frozen_of_row (w3.alloc (.cells #[.int .i64 (13 : Int), .string (⟨#[]⟩)] 29)) (w.heap.size + 1) 0 _ _ c2; have x21 := cell_of_block c2 (o := 1) rfl; have f21 := frozen_of_row (w3.alloc (.cells #[.int .i64 (13 : Int), .string (⟨#[]⟩)] 29)) (w.heap.size + 1) 1 _ _ c2; have x22 := cell_of_block c2 (o := 2) rfl; have f22 := frozen_of_row (w3.alloc (.cells #[.int .i64 (13 : Int), .string (⟨#[]⟩)] 29)) (w.heap.size + 1) 2 _ _ c2; have x23 := cell_of_block c2 (o := 3) rfl; have f23 := frozen_of_row (w3.alloc (.cells #[.int .i64 (13 : Int), .string (⟨#[]⟩)] 29)) (w.heap.size + 1) 3 _ _ c2; have x24 := cell_of_block c2 (o := 4) rfl; have f24 := frozen_of_row (w3.alloc (.cells #[.int .i64 (13 : Int), .string (⟨#[]⟩)] 29)) (w.heap.size + 1) 4 _ _ c2; have x25 := cell_of_block c2 (o := 5) rfl; have f25 := frozen_of_row (w3.alloc (.cells #[.int .i64 (13 : Int), .string (⟨#[]⟩)] 29)) (w.heap.size + 1) 5 _ _ c2; have x30 := cell_of_block c3 (o := 0) rfl; have f30 := frozen_of_row (w3.alloc (.cells #[.int .i64 (13 : Int), .string (⟨#[]⟩)] 29)) (w3.heap.size) 0 _ _ c3; have x31 := cell_of_block c3 (o := 1) rfl; have f31 := frozen_of_row (w3.alloc (.cells #[.int .i64 (13 : Int), .string (⟨#[]⟩)] 29)) (w3.heap.size) 1 _ _ c3; have OA := Lib.hid oa; clear c1 c2 c3 oa hb3)
    have oe := OA.out.lex 5 (.int .i64 11)
    obtain ⟨e6, o6, k6, h4⟩ := put_stored (b0 := .string s) (b1 := .int .i64 (at' : Int)) (b2 := .slice p n cap) (b3 := .slice pO st.length cO) (b4 := .bool false) (b5 := .int .i64 11) HL.out oe.kw oe.sz oe.c2 (Keeps.refl _ _) oe.hp
    have oO := put_other (w := w) (b0 := .string s) (b1 := .int .i64 (at' : Int)) (b2 := .slice p n cap) (b3 := .slice pO st.length cO) (b4 := .bool false) (b5 := .int .i64 11) oe.hp oe.ho (Keeps.refl _ _) h4
    have q0 := cell_of_block e6 (o := 0) rfl
    have q1 := cell_of_block e6 (o := 1) rfl
    have q2 := cell_of_block e6 (o := 2) rfl
    have q3 := cell_of_block e6 (o := 3) rfl
    have q4 := cell_of_block e6 (o := 4) rfl
    have q5 := cell_of_block e6 (o := 5) rfl
    refine bodyPost_ret (v := .agg #[.string s, .int .i64 (at' : Int), .slice p n cap, .slice pO st.length cO, .bool false, .int .i64 11]) (by simp [results, Tryz.results22, go_sem, q0, q1, q2, q3, q4, q5]) rfl ⟨.slice p n cap, .slice pO st.length cO, ?_, ?_, ?_, ?_⟩
    · rfl
    · exact o6
    · exact oO
    · exact k6
  · have hpl := rplain_at s at' hat hs hp
    rw [List.length_drop, ← Lib.size_eq] at hml
    obtain ⟨T, hT⟩ : ∃ T : ByteArray, (⟨((s.data.toList.drop at').take m).toArray⟩ : ByteArray) = T := ⟨_, rfl⟩
    have hTd : T.data.toList = (s.data.toList.drop at').take m := by rw [← hT]
    have hTs : T.size = m := by rw [Lib.size_eq, hTd, List.length_take, List.length_drop, ← Lib.size_eq]; omega
    rw [hT] at hpl
    rw [← hTd] at hr
    have HTe := Lib.hid hT
    have HTm := Lib.hid hTs
    have Hpl := Lib.hid hpl
    obtain ⟨n1, n2⟩ := not_empty T (by omega)
    have n3 : (T = ByteArray.empty) = False := by apply eq_false; intro e; rw [e] at hTs; have : ByteArray.empty.size = 0 := rfl; omega
    clear hpl hp hL hO hT
    match st, HO, hst, hbt, hcO, hr with
    | [], HO, hst, hbt, hcO, hr =>
      have hr2 : outN (s.data.toList.drop at') [] = (k, m, [], k == 7, 0) := by rw [hr]; rfl
      rw [hr2]
      clear hr hr2 hTd
      by_cases h7 : k = 7
      · subst h7
        go_enter Tryz.func22, Tryz.ntmps22
        go_wp2_with (first
          | (go_at_call 39; refine (Hpl.out _).mono ?_; rintro e w3 ⟨rfl, hb3⟩; have oa := outAt_plain (x := .int .i64 (7 : Int)) (y := .string (T)) HL.out HO.out hb3; have c1 := oa.c1; have c2 := oa.c2; have c3 := oa.c3; have x10 := cell_of_block c1 (o := 0) rfl; have f10 := frozen_of_row (w3.alloc (.cells #[.int .i64 (7 : Int), .string (T)] 29)) (w.heap.size) 0 _ _ c1; have x11 := cell_of_block c1 (o := 1) rfl; have f11 := frozen_of_row (w3.alloc (.cells #[.int .i64 (7 : Int), .string (T)] 29)) (w.heap.size) 1 _ _ c1; have x12 := cell_of_block c1 (o := 2) rfl; have f12 := frozen_of_row (w3.alloc (.cells #[.int .i64 (7 : Int), .string (T)] 29)) (w.heap.size) 2 _ _ c1; have x13 := cell_of_block c1 (o := 3) rfl; have f13 := frozen_of_row (w3.alloc (.cells #[.int .i64 (7 : Int), .string (T)] 29)) (w.heap.size) 3 _ _ c1; have x14 := cell_of_block c1 (o := 4) rfl; have f14 := frozen_of_row (w3.alloc (.cells #[.int .i64 (7 : Int), .string (T)] 29)) (w.heap.size) 4 _ _ c1; have x15 := cell_of_block c1 (o := 5) rfl; have f15 := frozen_of_row (w3.alloc (.cells #[.int .i64 (7 : Int), .string (T)] 29)) (w.heap.size) 5 _ _ c1; have x20 := cell_of_block c2 (o := 0) rfl; have f20 := frozen_of_row (w3.alloc (.cells #[.int .i64 (7 : Int), .string (T)] 29)) (w.heap.size + 1) 0 _ _ c2; have x21 := cell_of_block c2 (o := 1) rfl; have f21 := frozen_of_row (w3.alloc (.cells #[.int .i64 (7 : Int), .string (T)] 29)) (w.heap.size + 1) 1 _ _ c2; have x22 := cell_of_block c2 (o := 2) rfl; have f22 := frozen_of_row (w3.alloc (.cells #[.int .i64 (7 : Int), .string (T)] 29)) (w.heap.size + 1) 2 _ _ c2; have x23 := cell_of_block c2 (o := 3) rfl; have f23 := frozen_of_row (w3.alloc (.cells #[.int .i64 (7 : Int), .string (T)] 29)) (w.heap.size + 1) 3 _ _ c2; have x24 := cell_of_block c2 (o := 4) rfl; have f24 := frozen_of_row (w3.alloc (.cells #[.int .i64 (7 : Int), .string (T)] 29)) (w.heap.size + 1) 4 _ _ c2; have x25 := cell_of_block c2 (o := 5) rfl; have f25 := frozen_of_row (w3.alloc (.cells #[.int .i64 (7 : Int), .string (T)] 29)) (w.heap.size + 1) 5 _ _ c2; have x30 := cell_of_block c3 (o := 0) rfl; have f30 := frozen_of_row (w3.alloc (.cells #[.int .i64 (7 : Int), .string (T)] 29)) (w3.heap.size) 0 _ _ c3; have x31 := cell_of_block c3 (o := 1) rfl; have f31 := frozen_of_row (w3.alloc (.cells #[.int .i64 (7 : Int), .string (T)] 29)) (w3.heap.size) 1 _ _ c3; have OA := Lib.hid oa; clear c1 c2 c3 oa hb3)
          | (go_at_call 38; have hOA := OA.out.lex 4 (.bool true); refine Calls.mono (put_calls s at' (.slice p n cap) (.slice pO 0 cO) true 0 7 T _ base n xs ?_ ?_ ?_ ?_ ?_ ⟨_, _, _, rfl⟩) ?_; exact hOA.hp; omega; omega; omega; exact Nat.le_trans hb hOA.kw.size; rintro e w4 ⟨v', rfl, ho4, hk4⟩; have h4 := hk4.heap (show (_ : World).heap[w.heap.size + 1]? = _ from hOA.c2) (fun e => by have := (HL.out.lt _ e.symm).2; omega); have y20 := cell_of_block h4 (o := 0) rfl; have g20 := frozen_of_row w4 (w.heap.size + 1) 0 _ _ h4; have y21 := cell_of_block h4 (o := 1) rfl; have g21 := frozen_of_row w4 (w.heap.size + 1) 1 _ _ h4; have y22 := cell_of_block h4 (o := 2) rfl; have g22 := frozen_of_row w4 (w.heap.size + 1) 2 _ _ h4; have y23 := cell_of_block h4 (o := 3) rfl; have g23 := frozen_of_row w4 (w.heap.size + 1) 3 _ _ h4; have y24 := cell_of_block h4 (o := 4) rfl; have g24 := frozen_of_row w4 (w.heap.size + 1) 4 _ _ h4; have y25 := cell_of_block h4 (o := 5) rfl; have g25 := frozen_of_row w4 (w.heap.size + 1) 5 _ _ h4; have HOA := Lib.hid hOA; have Ho4 := Lib.hid ho4; have Hk4 := Lib.hid hk4; obtain ⟨q, c, rfl, _⟩ := row_shape ho4; clear h4 ho4 hk4 hOA; unfold LV))
        obtain ⟨e6, o6, k6, h4⟩ := put_stored (b0 := .string s) (b1 := .int .i64 ((at' : Int) + (m : Int))) (b2 := .slice q (n + 1) c) (b3 := (.slice pO 0 cO)) (b4 := .bool true) (b5 := .int .i64 0) HL.out HOA.out.kw HOA.out.sz HOA.out.c2 Hk4.out Ho4.out 
        have oO := put_other (w := w) (b0 := .string s) (b1 := .int .i64 ((at' : Int) + (m : Int))) (b2 := .slice q (n + 1) c) (b3 := (.slice pO 0 cO)) (b4 := .bool true) (b5 := .int .i64 0) HOA.out.hp HOA.out.ho Hk4.out h4 
        have q0 := cell_of_block e6 (o := 0) rfl 
        have q1 := cell_of_block e6 (o := 1) rfl 
        have q2 := cell_of_block e6 (o := 2) rfl 
        have q3 := cell_of_block e6 (o := 3) rfl 
        have q4 := cell_of_block e6 (o := 4) rfl 
        have q5 := cell_of_block e6 (o := 5) rfl 
        rw [← HTe.out] at o6 
        refine bodyPost_ret (v := .agg #[.string s, .int .i64 ((at' : Int) + (m : Int)), .slice q (n + 1) c, (.slice pO 0 cO), .bool true, .int .i64 0]) (by simp [results, Tryz.results22, go_sem, q0, q1, q2, q3, q4, q5]) rfl ⟨.slice q (n + 1) c, (.slice pO 0 cO), ?_, ?_, ?_, ?_⟩ 
        · exact congrArg Ending.returned (lvm s at' m _ _ _).symm 
        · exact o6 
        · exact oO 
        · exact k6
      · have y7 : ((k : Int) == 7) = false := by rw [beq_eq_false_iff_ne]; omega
        have y7' : ((k : Int) = 7) = False := by apply eq_false; omega
        rw [show (k == 7) = false from beq_eq_false_iff_ne.2 h7]
        go_enter Tryz.func22, Tryz.ntmps22
        go_wp2_with (first
          | (go_at_call 39; refine (Hpl.out _).mono ?_; rintro e w3 ⟨rfl, hb3⟩; have oa := outAt_plain (x := .int .i64 (k : Int)) (y := .string (T)) HL.out HO.out hb3; have c1 := oa.c1; have c2 := oa.c2; have c3 := oa.c3; have x10 := cell_of_block c1 (o := 0) rfl; have f10 := frozen_of_row (w3.alloc (.cells #[.int .i64 (k : Int), .string (T)] 29)) (w.heap.size) 0 _ _ c1; have x11 := cell_of_block c1 (o := 1) rfl; have f11 := frozen_of_row (w3.alloc (.cells #[.int .i64 (k : Int), .string (T)] 29)) (w.heap.size) 1 _ _ c1; have x12 := cell_of_block c1 (o := 2) rfl; have f12 := frozen_of_row (w3.alloc (.cells #[.int .i64 (k : Int), .string (T)] 29)) (w.heap.size) 2 _ _ c1; have x13 := cell_of_block c1 (o := 3) rfl; have f13 := frozen_of_row (w3.alloc (.cells #[.int .i64 (k : Int), .string (T)] 29)) (w.heap.size) 3 _ _ c1; have x14 := cell_of_block c1 (o := 4) rfl; have f14 := frozen_of_row (w3.alloc (.cells #[.int .i64 (k : Int), .string (T)] 29)) (w.heap.size) 4 _ _ c1; have x15 := cell_of_block c1 (o := 5) rfl; have f15 := frozen_of_row (w3.alloc (.cells #[.int .i64 (k : Int), .string (T)] 29)) (w.heap.size) 5 _ _ c1; have x20 := cell_of_block c2 (o := 0) rfl; have f20 := frozen_of_row (w3.alloc (.cells #[.int .i64 (k : Int), .string (T)] 29)) (w.heap.size + 1) 0 _ _ c2; have x21 := cell_of_block c2 (o := 1) rfl; have f21 := frozen_of_row (w3.alloc (.cells #[.int .i64 (k : Int), .string (T)] 29)) (w.heap.size + 1) 1 _ _ c2; have x22 := cell_of_block c2 (o := 2) rfl; have f22 := frozen_of_row (w3.alloc (.cells #[.int .i64 (k : Int), .string (T)] 29)) (w.heap.size + 1) 2 _ _ c2; have x23 := cell_of_block c2 (o := 3) rfl; have f23 := frozen_of_row (w3.alloc (.cells #[.int .i64 (k : Int), .string (T)] 29)) (w.heap.size + 1) 3 _ _ c2; have x24 := cell_of_block c2 (o := 4) rfl; have f24 := frozen_of_row (w3.alloc (.cells #[.int .i64 (k : Int), .string (T)] 29)) (w.heap.size + 1) 4 _ _ c2; have x25 := cell_of_block c2 (o := 5) rfl; have f25 := frozen_of_row (w3.alloc (.cells #[.int .i64 (k : Int), .string (T)] 29)) (w.heap.size + 1) 5 _ _ c2; have x30 := cell_of_block c3 (o := 0) rfl; have f30 := frozen_of_row (w3.alloc (.cells #[.int .i64 (k : Int), .string (T)] 29)) (w3.heap.size) 0 _ _ c3; have x31 := cell_of_block c3 (o := 1) rfl; have f31 := frozen_of_row (w3.alloc (.cells #[.int .i64 (k : Int), .string (T)] 29)) (w3.heap.size) 1 _ _ c3; have OA := Lib.hid oa; clear c1 c2 c3 oa hb3)
          | (go_at_call 38; have hOA := OA.out; refine Calls.mono (put_calls s at' (.slice p n cap) (.slice pO 0 cO) false 0 k T _ base n xs ?_ ?_ ?_ ?_ ?_ ⟨_, _, _, rfl⟩) ?_; exact hOA.hp; omega; omega; omega; exact Nat.le_trans hb hOA.kw.size; rintro e w4 ⟨v', rfl, ho4, hk4⟩; have h4 := hk4.heap (show (_ : World).heap[w.heap.size + 1]? = _ from hOA.c2) (fun e => by have := (HL.out.lt _ e.symm).2; omega); have y20 := cell_of_block h4 (o := 0) rfl; have g20 := frozen_of_row w4 (w.heap.size + 1) 0 _ _ h4; have y21 := cell_of_block h4 (o := 1) rfl; have g21 := frozen_of_row w4 (w.heap.size + 1) 1 _ _ h4; have y22 := cell_of_block h4 (o := 2) rfl; have g22 := frozen_of_row w4 (w.heap.size + 1) 2 _ _ h4; have y23 := cell_of_block h4 (o := 3) rfl; have g23 := frozen_of_row w4 (w.heap.size + 1) 3 _ _ h4; have y24 := cell_of_block h4 (o := 4) rfl; have g24 := frozen_of_row w4 (w.heap.size + 1) 4 _ _ h4; have y25 := cell_of_block h4 (o := 5) rfl; have g25 := frozen_of_row w4 (w.heap.size + 1) 5 _ _ h4; have HOA := Lib.hid hOA; have Ho4 := Lib.hid ho4; have Hk4 := Lib.hid hk4; obtain ⟨q, c, rfl, _⟩ := row_shape ho4; clear h4 ho4 hk4 hOA; unfold LV))
        obtain ⟨e6, o6, k6, h4⟩ := put_stored (b0 := .string s) (b1 := .int .i64 ((at' : Int) + (m : Int))) (b2 := .slice q (n + 1) c) (b3 := (.slice pO 0 cO)) (b4 := .bool false) (b5 := .int .i64 0) HL.out HOA.out.kw HOA.out.sz HOA.out.c2 Hk4.out Ho4.out 
        have oO := put_other (w := w) (b0 := .string s) (b1 := .int .i64 ((at' : Int) + (m : Int))) (b2 := .slice q (n + 1) c) (b3 := (.slice pO 0 cO)) (b4 := .bool false) (b5 := .int .i64 0) HOA.out.hp HOA.out.ho Hk4.out h4 
        have q0 := cell_of_block e6 (o := 0) rfl 
        have q1 := cell_of_block e6 (o := 1) rfl 
        have q2 := cell_of_block e6 (o := 2) rfl 
        have q3 := cell_of_block e6 (o := 3) rfl 
        have q4 := cell_of_block e6 (o := 4) rfl 
        have q5 := cell_of_block e6 (o := 5) rfl 
        rw [← HTe.out] at o6 
        refine bodyPost_ret (v := .agg #[.string s, .int .i64 ((at' : Int) + (m : Int)), .slice q (n + 1) c, (.slice pO 0 cO), .bool false, .int .i64 0]) (by simp [results, Tryz.results22, go_sem, q0, q1, q2, q3, q4, q5]) rfl ⟨.slice q (n + 1) c, (.slice pO 0 cO), ?_, ?_, ?_, ?_⟩ 
        · exact congrArg Ending.returned (lvm s at' m _ _ _).symm 
        · exact o6 
        · exact oO 
        · exact k6
    | t :: rest, HO, hst, hbt, hcO, hr =>
      obtain ⟨g, cO', hge⟩ := own_succ HO.out
      have hpO : pO = some ⟨g, 0, none⟩ ∧ cO = cO' := by injection hge with a1 a2 a3; exact ⟨a1, a3⟩
      obtain ⟨rfl, rfl⟩ := hpO
      have ht : t ≤ 70000 := hbt t (by simp)
      simp only [List.length_cons] at hst hcO
      have w1' : IntKind.i64.wrap (((rest.length : Int) + 1) - 1) = (rest.length : Int) := by rw [IntWalk.i64_in _ (by omega)]; omega
      have w2' : ((rest.length : Int) + 1) - 1 = (rest.length : Int) := by omega
      by_cases h13 : k = 13
      · subst h13
        obtain ⟨i3, hi, hz0, hz1, hz2⟩ := info_parts hi3
        cases h40 : (T.data.toList == [40])
        · have b40 : (T.toList == [40]) = false := by rw [Lib.toList_data]; exact h40
          have b40' : (T.toList = [40]) = False := by apply eq_false; intro e; rw [e] at b40; simp at b40
          cases h41 : (T.data.toList == [41])
          · have b41 : (T.toList == [41]) = false := by rw [Lib.toList_data]; exact h41
            have b41' : (T.toList = [41]) = False := by apply eq_false; intro e; rw [e] at b41; simp at b41
            rw [brk_other h40 h41] at hr
            rw [hr]
            clear hr h40 h41 hTd hge hbt
            go_enter Tryz.func22, Tryz.ntmps22
            go_wp2_with (first
              | (go_at_call 39; refine (Hpl.out _).mono ?_; rintro e w3 ⟨rfl, hb3⟩; have oa := outAt_plain (x := .int .i64 (13 : Int)) (y := .string (T)) HL.out HO.out hb3; have c1 := oa.c1; have c2 := oa.c2; have c3 := oa.c3; have x10 := cell_of_block c1 (o := 0) rfl; have f10 := frozen_of_row (w3.alloc (.cells #[.int .i64 (13 : Int), .string (T)] 29)) (w.heap.size) 0 _ _ c1; have x11 := cell_of_block c1 (o := 1) rfl; have f11 := frozen_of_row (w3.alloc (.cells #[.int .i64 (13 : Int), .string (T)] 29)) (w.heap.size) 1 _ _ c1; have x12 := cell_of_block c1 (o := 2) rfl; have f12 := frozen_of_row (w3.alloc (.cells #[.int .i64 (13 : Int), .string (T)] 29)) (w.heap.size) 2 _ _ c1; have x13 := cell_of_block c1 (o := 3) rfl; have f13 := frozen_of_row (w3.alloc (.cells #[.int .i64 (13 : Int), .string (T)] 29)) (w.heap.size) 3 _ _ c1; have x14 := cell_of_block c1 (o := 4) rfl; have f14 := frozen_of_row (w3.alloc (.cells #[.int .i64 (13 : Int), .string (T)] 29)) (w.heap.size) 4 _ _ c1; have x15 := cell_of_block c1 (o := 5) rfl; have f15 := frozen_of_row (w3.alloc (.cells #[.int .i64 (13 : Int), .string (T)] 29)) (w.heap.size) 5 _ _ c1; have x20 := cell_of_block c2 (o := 0) rfl; have f20 := frozen_of_row (w3.alloc (.cells #[.int .i64 (13 : Int), .string (T)] 29)) (w.heap.size + 1) 0 _ _ c2; have x21 := cell_of_block c2 (o := 1) rfl; have f21 := frozen_of_row (w3.alloc (.cells #[.int .i64 (13 : Int), .string (T)] 29)) (w.heap.size + 1) 1 _ _ c2; have x22 := cell_of_block c2 (o := 2) rfl; have f22 := frozen_of_row (w3.alloc (.cells #[.int .i64 (13 : Int), .string (T)] 29)) (w.heap.size + 1) 2 _ _ c2; have x23 := cell_of_block c2 (o := 3) rfl; have f23 := frozen_of_row (w3.alloc (.cells #[.int .i64 (13 : Int), .string (T)] 29)) (w.heap.size + 1) 3 _ _ c2; have x24 := cell_of_block c2 (o := 4) rfl; have f24 := frozen_of_row (w3.alloc (.cells #[.int .i64 (13 : Int), .string (T)] 29)) (w.heap.size + 1) 4 _ _ c2; have x25 := cell_of_block c2 (o := 5) rfl; have f25 := frozen_of_row (w3.alloc (.cells #[.int .i64 (13 : Int), .string (T)] 29)) (w.heap.size + 1) 5 _ _ c2; have x30 := cell_of_block c3 (o := 0) rfl; have f30 := frozen_of_row (w3.alloc (.cells #[.int .i64 (13 : Int), .string (T)] 29)) (w3.heap.size) 0 _ _ c3; have x31 := cell_of_block c3 (o := 1) rfl; have f31 := frozen_of_row (w3.alloc (.cells #[.int .i64 (13 : Int), .string (T)] 29)) (w3.heap.size) 1 _ _ c3; obtain ⟨kt, ft, _⟩ := own_set (u := 0) oa.ho; have OA := Lib.hid oa; clear c1 c2 c3 oa hb3)
              | (go_at_call 38; have hOA := OA.out; refine Calls.mono (put_calls s at' (.slice p n cap) (.slice (some ⟨g, 0, none⟩) (rest.length + 1) cO) false 0 13 T _ base n xs ?_ ?_ ?_ ?_ ?_ ⟨_, _, _, rfl⟩) ?_; exact hOA.hp; omega; omega; omega; exact Nat.le_trans hb hOA.kw.size; rintro e w4 ⟨v', rfl, ho4, hk4⟩; have h4 := hk4.heap (show (_ : World).heap[w.heap.size + 1]? = _ from hOA.c2) (fun e => by have := (HL.out.lt _ e.symm).2; omega); have y20 := cell_of_block h4 (o := 0) rfl; have g20 := frozen_of_row w4 (w.heap.size + 1) 0 _ _ h4; have y21 := cell_of_block h4 (o := 1) rfl; have g21 := frozen_of_row w4 (w.heap.size + 1) 1 _ _ h4; have y22 := cell_of_block h4 (o := 2) rfl; have g22 := frozen_of_row w4 (w.heap.size + 1) 2 _ _ h4; have y23 := cell_of_block h4 (o := 3) rfl; have g23 := frozen_of_row w4 (w.heap.size + 1) 3 _ _ h4; have y24 := cell_of_block h4 (o := 4) rfl; have g24 := frozen_of_row w4 (w.heap.size + 1) 4 _ _ h4; have y25 := cell_of_block h4 (o := 5) rfl; have g25 := frozen_of_row w4 (w.heap.size + 1) 5 _ _ h4; have HOA := Lib.hid hOA; have Ho4 := Lib.hid ho4; have Hk4 := Lib.hid hk4; obtain ⟨q, c, rfl, _⟩ := row_shape ho4; clear h4 ho4 hk4 hOA; unfold LV))
            obtain ⟨e6, o6, k6, h4⟩ := put_stored (b0 := .string s) (b1 := .int .i64 ((at' : Int) + (m : Int))) (b2 := .slice q (n + 1) c) (b3 := (.slice (some ⟨g, 0, none⟩) (rest.length + 1) cO)) (b4 := .bool false) (b5 := .int .i64 0) HL.out HOA.out.kw HOA.out.sz HOA.out.c2 Hk4.out Ho4.out 
            have oO := put_other (w := w) (b0 := .string s) (b1 := .int .i64 ((at' : Int) + (m : Int))) (b2 := .slice q (n + 1) c) (b3 := (.slice (some ⟨g, 0, none⟩) (rest.length + 1) cO)) (b4 := .bool false) (b5 := .int .i64 0) HOA.out.hp HOA.out.ho Hk4.out h4 
            have q0 := cell_of_block e6 (o := 0) rfl 
            have q1 := cell_of_block e6 (o := 1) rfl 
            have q2 := cell_of_block e6 (o := 2) rfl 
            have q3 := cell_of_block e6 (o := 3) rfl 
            have q4 := cell_of_block e6 (o := 4) rfl 
            have q5 := cell_of_block e6 (o := 5) rfl 
            rw [← HTe.out] at o6 
            refine bodyPost_ret (v := .agg #[.string s, .int .i64 ((at' : Int) + (m : Int)), .slice q (n + 1) c, (.slice (some ⟨g, 0, none⟩) (rest.length + 1) cO), .bool false, .int .i64 0]) (by simp [results, Tryz.results22, go_sem, q0, q1, q2, q3, q4, q5]) rfl ⟨.slice q (n + 1) c, (.slice (some ⟨g, 0, none⟩) (rest.length + 1) cO), ?_, ?_, ?_, ?_⟩ 
            · exact congrArg Ending.returned (lvm s at' m _ _ _).symm 
            · exact o6 
            · exact oO 
            · exact k6
          · have b41 : (T.toList == [41]) = true := by rw [Lib.toList_data]; exact h41
            have b41' : (T.toList = [41]) = True := eq_true (eq_of_beq b41)
            have e41 : T.data.toList = [41] := eq_of_beq h41
            rw [e41] at hr
            by_cases ht0 : t = 0
            · subst ht0
              rw [brk_end] at hr
              rw [hr]
              clear hr h40 h41 hTd hge hbt e41
              go_enter Tryz.func22, Tryz.ntmps22
              go_wp2_with (first
                | (go_at_call 39; refine (Hpl.out _).mono ?_; rintro e w3 ⟨rfl, hb3⟩; have oa := outAt_plain (x := .int .i64 (13 : Int)) (y := .string (T)) HL.out HO.out hb3; have c1 := oa.c1; have c2 := oa.c2; have c3 := oa.c3; have x10 := cell_of_block c1 (o := 0) rfl; have f10 := frozen_of_row (w3.alloc (.cells #[.int .i64 (13 : Int), .string (T)] 29)) (w.heap.size) 0 _ _ c1; have x11 := cell_of_block c1 (o := 1) rfl; have f11 := frozen_of_row (w3.alloc (.cells #[.int .i64 (13 : Int), .string (T)] 29)) (w.heap.size) 1 _ _ c1; have x12 := cell_of_block c1 (o := 2) rfl; have f12 := frozen_of_row (w3.alloc (.cells #[.int .i64 (13 : Int), .string (T)] 29)) (w.heap.size) 2 _ _ c1; have x13 := cell_of_block c1 (o := 3) rfl; have f13 := frozen_of_row (w3.alloc (.cells #[.int .i64 (13 : Int), .string (T)] 29)) (w.heap.size) 3 _ _ c1; have x14 := cell_of_block c1 (o := 4) rfl; have f14 := frozen_of_row (w3.alloc (.cells #[.int .i64 (13 : Int), .string (T)] 29)) (w.heap.size) 4 _ _ c1; have x15 := cell_of_block c1 (o := 5) rfl; have f15 := frozen_of_row (w3.alloc (.cells #[.int .i64 (13 : Int), .string (T)] 29)) (w.heap.size) 5 _ _ c1; have x20 := cell_of_block c2 (o := 0) rfl; have f20 := frozen_of_row (w3.alloc (.cells #[.int .i64 (13 : Int), .string (T)] 29)) (w.heap.size + 1) 0 _ _ c2; have x21 := cell_of_block c2 (o := 1) rfl; have f21 := frozen_of_row (w3.alloc (.cells #[.int .i64 (13 : Int), .string (T)] 29)) (w.heap.size + 1) 1 _ _ c2; have x22 := cell_of_block c2 (o := 2) rfl; have f22 := frozen_of_row (w3.alloc (.cells #[.int .i64 (13 : Int), .string (T)] 29)) (w.heap.size + 1) 2 _ _ c2; have x23 := cell_of_block c2 (o := 3) rfl; have f23 := frozen_of_row (w3.alloc (.cells #[.int .i64 (13 : Int), .string (T)] 29)) (w.heap.size + 1) 3 _ _ c2; have x24 := cell_of_block c2 (o := 4) rfl; have f24 := frozen_of_row (w3.alloc (.cells #[.int .i64 (13 : Int), .string (T)] 29)) (w.heap.size + 1) 4 _ _ c2; have x25 := cell_of_block c2 (o := 5) rfl; have f25 := frozen_of_row (w3.alloc (.cells #[.int .i64 (13 : Int), .string (T)] 29)) (w.heap.size + 1) 5 _ _ c2; have x30 := cell_of_block c3 (o := 0) rfl; have f30 := frozen_of_row (w3.alloc (.cells #[.int .i64 (13 : Int), .string (T)] 29)) (w3.heap.size) 0 _ _ c3; have x31 := cell_of_block c3 (o := 1) rfl; have f31 := frozen_of_row (w3.alloc (.cells #[.int .i64 (13 : Int), .string (T)] 29)) (w3.heap.size) 1 _ _ c3; obtain ⟨kt, ft, _⟩ := own_set (u := 0) oa.ho; have OA := Lib.hid oa; have oa2 := outAt_plain (x := .int .i64 10) (y := .string T) HL.out HO.out hb3; have d1 := oa2.c1; have d2 := oa2.c2; have d3 := oa2.c3; have x40 := cell_of_block d1 (o := 0) rfl; have f40 := frozen_of_row (w3.alloc (.cells #[.int .i64 10, .string T] 29)) (w.heap.size) 0 _ _ d1; have x41 := cell_of_block d1 (o := 1) rfl; have f41 := frozen_of_row (w3.alloc (.cells #[.int .i64 10, .string T] 29)) (w.heap.size) 1 _ _ d1; have x42 := cell_of_block d1 (o := 2) rfl; have f42 := frozen_of_row (w3.alloc (.cells #[.int .i64 10, .string T] 29)) (w.heap.size) 2 _ _ d1; have x43 := cell_of_block d1 (o := 3) rfl; have f43 := frozen_of_row (w3.alloc (.cells #[.int .i64 10, .string T] 29)) (w.heap.size) 3 _ _ d1; have x44 := cell_of_block d1 (o := 4) rfl; have f44 := frozen_of_row (w3.alloc (.cells #[.int .i64 10, .string T] 29)) (w.heap.size) 4 _ _ d1; have x45 := cell_of_block d1 (o := 5) rfl; have f45 := frozen_of_row (w3.alloc (.cells #[.int .i64 10, .string T] 29)) (w.heap.size) 5 _ _ d1; have x50 := cell_of_block d2 (o := 0) rfl; have f50 := frozen_of_row (w3.alloc (.cells #[.int .i64 10, .string T] 29)) (w.heap.size + 1) 0 _ _ d2; have x51 := cell_of_block d2 (o := 1) rfl; have f51 := frozen_of_row (w3.alloc (.cells #[.int .i64 10, .string T] 29)) (w.heap.size + 1) 1 _ _ d2; have x52 := cell_of_block d2 (o := 2) rfl; have f52 := frozen_of_row (w3.alloc (.cells #[.int .i64 10, .string T] 29)) (w.heap.size + 1) 2 _ _ d2; have x53 := cell_of_block d2 (o := 3) rfl; have f53 := frozen_of_row (w3.alloc (.cells #[.int .i64 10, .string T] 29)) (w.heap.size + 1) 3 _ _ d2; have x54 := cell_of_block d2 (o := 4) rfl; have f54 := frozen_of_row (w3.alloc (.cells #[.int .i64 10, .string T] 29)) (w.heap.size + 1) 4 _ _ d2; have x55 := cell_of_block d2 (o := 5) rfl; have f55 := frozen_of_row (w3.alloc (.cells #[.int .i64 10, .string T] 29)) (w.heap.size + 1) 5 _ _ d2; have x60 := cell_of_block d3 (o := 0) rfl; have f60 := frozen_of_row (w3.alloc (.cells #[.int .i64 10, .string T] 29)) (w3.heap.size) 0 _ _ d3; have x61 := cell_of_block d3 (o := 1) rfl; have f61 := frozen_of_row (w3.alloc (.cells #[.int .i64 10, .string T] 29)) (w3.heap.size) 1 _ _ d3; have OA2 := Lib.hid oa2; clear c1 c2 c3 oa hb3 d1 d2 d3 oa2)
                | (go_at_call 38; have hOA := ((OA2.out.lex 3 (.slice (some ⟨g, 0, none⟩) rest.length cO)).lex 4 (.bool true)).row (own_pop ((OA2.out.lex 3 (.slice (some ⟨g, 0, none⟩) rest.length cO)).lex 4 (.bool true)).ho); refine Calls.mono (put_calls s at' (.slice p n cap) (.slice (some ⟨g, 0, none⟩) rest.length cO) true 0 10 T _ base n xs ?_ ?_ ?_ ?_ ?_ ⟨_, _, _, rfl⟩) ?_; exact hOA.hp; omega; omega; omega; exact Nat.le_trans hb hOA.kw.size; rintro e w4 ⟨v', rfl, ho4, hk4⟩; have h4 := hk4.heap (show (_ : World).heap[w.heap.size + 1]? = _ from hOA.c2) (fun e => by have := (HL.out.lt _ e.symm).2; omega); have y20 := cell_of_block h4 (o := 0) rfl; have g20 := frozen_of_row w4 (w.heap.size + 1) 0 _ _ h4; have y21 := cell_of_block h4 (o := 1) rfl; have g21 := frozen_of_row w4 (w.heap.size + 1) 1 _ _ h4; have y22 := cell_of_block h4 (o := 2) rfl; have g22 := frozen_of_row w4 (w.heap.size + 1) 2 _ _ h4; have y23 := cell_of_block h4 (o := 3) rfl; have g23 := frozen_of_row w4 (w.heap.size + 1) 3 _ _ h4; have y24 := cell_of_block h4 (o := 4) rfl; have g24 := frozen_of_row w4 (w.heap.size + 1) 4 _ _ h4; have y25 := cell_of_block h4 (o := 5) rfl; have g25 := frozen_of_row w4 (w.heap.size + 1) 5 _ _ h4; have HOA := Lib.hid hOA; have Ho4 := Lib.hid ho4; have Hk4 := Lib.hid hk4; obtain ⟨q, c, rfl, _⟩ := row_shape ho4; clear h4 ho4 hk4 hOA; unfold LV))
              obtain ⟨e6, o6, k6, h4⟩ := put_stored (b0 := .string s) (b1 := .int .i64 ((at' : Int) + (m : Int))) (b2 := .slice q (n + 1) c) (b3 := (.slice (some ⟨g, 0, none⟩) rest.length cO)) (b4 := .bool true) (b5 := .int .i64 0) HL.out HOA.out.kw HOA.out.sz HOA.out.c2 Hk4.out Ho4.out 
              have oO := put_other (w := w) (b0 := .string s) (b1 := .int .i64 ((at' : Int) + (m : Int))) (b2 := .slice q (n + 1) c) (b3 := (.slice (some ⟨g, 0, none⟩) rest.length cO)) (b4 := .bool true) (b5 := .int .i64 0) HOA.out.hp HOA.out.ho Hk4.out h4 
              have q0 := cell_of_block e6 (o := 0) rfl 
              have q1 := cell_of_block e6 (o := 1) rfl 
              have q2 := cell_of_block e6 (o := 2) rfl 
              have q3 := cell_of_block e6 (o := 3) rfl 
              have q4 := cell_of_block e6 (o := 4) rfl 
              have q5 := cell_of_block e6 (o := 5) rfl 
              rw [← HTe.out] at o6 
              refine bodyPost_ret (v := .agg #[.string s, .int .i64 ((at' : Int) + (m : Int)), .slice q (n + 1) c, (.slice (some ⟨g, 0, none⟩) rest.length cO), .bool true, .int .i64 0]) (by simp [results, Tryz.results22, go_sem, q0, q1, q2, q3, q4, q5]) rfl ⟨.slice q (n + 1) c, (.slice (some ⟨g, 0, none⟩) rest.length cO), ?_, ?_, ?_, ?_⟩ 
              · exact congrArg Ending.returned (lvm s at' m _ _ _).symm 
              · exact o6 
              · exact oO 
              · exact k6
            · rw [brk_close ht0] at hr
              rw [hr]
              have yt : ((t : Int) == 0) = false := by rw [beq_eq_false_iff_ne]; omega
              have yt' : ((t : Int) = 0) = False := by apply eq_false; omega
              have Hd := Lib.hid (show ((t - 1 : Nat) : Int) = (t : Int) - 1 by omega)
              clear hr h40 h41 hTd hge hbt e41
              go_enter Tryz.func22, Tryz.ntmps22
              go_wp2_with (first
                | (go_at_call 39; refine (Hpl.out _).mono ?_; rintro e w3 ⟨rfl, hb3⟩; have oa := outAt_plain (x := .int .i64 (13 : Int)) (y := .string (T)) HL.out HO.out hb3; have c1 := oa.c1; have c2 := oa.c2; have c3 := oa.c3; have x10 := cell_of_block c1 (o := 0) rfl; have f10 := frozen_of_row (w3.alloc (.cells #[.int .i64 (13 : Int), .string (T)] 29)) (w.heap.size) 0 _ _ c1; have x11 := cell_of_block c1 (o := 1) rfl; have f11 := frozen_of_row (w3.alloc (.cells #[.int .i64 (13 : Int), .string (T)] 29)) (w.heap.size) 1 _ _ c1; have x12 := cell_of_block c1 (o := 2) rfl; have f12 := frozen_of_row (w3.alloc (.cells #[.int .i64 (13 : Int), .string (T)] 29)) (w.heap.size) 2 _ _ c1; have x13 := cell_of_block c1 (o := 3) rfl; have f13 := frozen_of_row (w3.alloc (.cells #[.int .i64 (13 : Int), .string (T)] 29)) (w.heap.size) 3 _ _ c1; have x14 := cell_of_block c1 (o := 4) rfl; have f14 := frozen_of_row (w3.alloc (.cells #[.int .i64 (13 : Int), .string (T)] 29)) (w.heap.size) 4 _ _ c1; have x15 := cell_of_block c1 (o := 5) rfl; have f15 := frozen_of_row (w3.alloc (.cells #[.int .i64 (13 : Int), .string (T)] 29)) (w.heap.size) 5 _ _ c1; have x20 := cell_of_block c2 (o := 0) rfl; have f20 := frozen_of_row (w3.alloc (.cells #[.int .i64 (13 : Int), .string (T)] 29)) (w.heap.size + 1) 0 _ _ c2; have x21 := cell_of_block c2 (o := 1) rfl; have f21 := frozen_of_row (w3.alloc (.cells #[.int .i64 (13 : Int), .string (T)] 29)) (w.heap.size + 1) 1 _ _ c2; have x22 := cell_of_block c2 (o := 2) rfl; have f22 := frozen_of_row (w3.alloc (.cells #[.int .i64 (13 : Int), .string (T)] 29)) (w.heap.size + 1) 2 _ _ c2; have x23 := cell_of_block c2 (o := 3) rfl; have f23 := frozen_of_row (w3.alloc (.cells #[.int .i64 (13 : Int), .string (T)] 29)) (w.heap.size + 1) 3 _ _ c2; have x24 := cell_of_block c2 (o := 4) rfl; have f24 := frozen_of_row (w3.alloc (.cells #[.int .i64 (13 : Int), .string (T)] 29)) (w.heap.size + 1) 4 _ _ c2; have x25 := cell_of_block c2 (o := 5) rfl; have f25 := frozen_of_row (w3.alloc (.cells #[.int .i64 (13 : Int), .string (T)] 29)) (w.heap.size + 1) 5 _ _ c2; have x30 := cell_of_block c3 (o := 0) rfl; have f30 := frozen_of_row (w3.alloc (.cells #[.int .i64 (13 : Int), .string (T)] 29)) (w3.heap.size) 0 _ _ c3; have x31 := cell_of_block c3 (o := 1) rfl; have f31 := frozen_of_row (w3.alloc (.cells #[.int .i64 (13 : Int), .string (T)] 29)) (w3.heap.size) 1 _ _ c3; obtain ⟨kt, ft, _⟩ := own_set (u := 0) oa.ho; have OA := Lib.hid oa; clear c1 c2 c3 oa hb3)
                | (at_builtin; refine wpList_append_any _ rfl _ _ 46 rfl w.heap.size 3 i3 (.int .i64 0) 1 8 stack_und hi hz0 hz1 hz2 rfl (by decide) (.slice none 0 0) 0 [] rfl (World.ownsRow_nil _ _ _ _) base _ (rest.length + 1) (stackC (t :: rest)) rfl OA.out.ho (stack_one _) (by simp only [maxLen]; omega) (by omega) OA.out.kw.size ?_; intro v6 w6 own6 hk6; have oa6 := OA.out.keeps (hk6.mono (O' := fun _ => False) fun b _ h => by simp [Value.ownBlock] at h); rw [Nat.zero_add, List.nil_append] at own6; obtain ⟨g6, c6, rfl⟩ := own_succ own6; have hg6 : w.heap.size ≤ g6 := (own6.lt g6 rfl).1; have oa7 := oa6.row (ownsRow_base own6 hb); clear x10 x11 x12 x13 x14 x15 f10 f11 f12 f13 f14 f15 x20 x21 x22 x23 x24 x25 f20 f21 f22 f23 f24 f25 x30 x31 f30 f31 kt ft; have d1 := oa7.c1; have d2 := oa7.c2; have d3 := oa7.c3; have x10 := cell_of_block d1 (o := 0) rfl; have f10 := frozen_of_row (w6) (w.heap.size) 0 _ _ d1; have x11 := cell_of_block d1 (o := 1) rfl; have f11 := frozen_of_row (w6) (w.heap.size) 1 _ _ d1; have x12 := cell_of_block d1 (o := 2) rfl; have f12 := frozen_of_row (w6) (w.heap.size) 2 _ _ d1; have x13 := cell_of_block d1 (o := 3) rfl; have f13 := frozen_of_row (w6) (w.heap.size) 3 _ _ d1; have x14 := cell_of_block d1 (o := 4) rfl; have f14 := frozen_of_row (w6) (w.heap.size) 4 _ _ d1; have x15 := cell_of_block d1 (o := 5) rfl; have f15 := frozen_of_row (w6) (w.heap.size) 5 _ _ d1; have x20 := cell_of_block d2 (o := 0) rfl; have f20 := frozen_of_row (w6) (w.heap.size + 1) 0 _ _ d2; have x21 := cell_of_block d2 (o := 1) rfl; have f21 := frozen_of_row (w6) (w.heap.size + 1) 1 _ _ d2; have x22 := cell_of_block d2 (o := 2) rfl; have f22 := frozen_of_row (w6) (w.heap.size + 1) 2 _ _ d2; have x23 := cell_of_block d2 (o := 3) rfl; have f23 := frozen_of_row (w6) (w.heap.size + 1) 3 _ _ d2; have x24 := cell_of_block d2 (o := 4) rfl; have f24 := frozen_of_row (w6) (w.heap.size + 1) 4 _ _ d2; have x25 := cell_of_block d2 (o := 5) rfl; have f25 := frozen_of_row (w6) (w.heap.size + 1) 5 _ _ d2; have x30 := cell_of_block d3 (o := 0) rfl; have f30 := frozen_of_row (w6) (w3.heap.size) 0 _ _ d3; have x31 := cell_of_block d3 (o := 1) rfl; have f31 := frozen_of_row (w6) (w3.heap.size) 1 _ _ d3; obtain ⟨kt, ft, _⟩ := own_set (u := 0) oa7.ho; have ne1 := oa7.ne1; have ne2 := oa7.ne2; have ne3 := oa7.ne3; have ne1' := Ne.symm ne1; have ne2' := Ne.symm ne2; have ne3' := Ne.symm ne3; have OA7 := Lib.hid oa7; have Hg6 := Lib.hid hg6; clear d1 d2 d3 oa6 oa7 own6 hk6 hg6)
                | (go_at_call 38; have hOA := (Hd.out ▸ OA7.out.brk (u := t - 1) Hg6.out).lex 3 (.slice (some ⟨g6, 0, none⟩) (rest.length + 1) c6); refine Calls.mono (put_calls s at' (.slice p n cap) (.slice (some ⟨g6, 0, none⟩) (rest.length + 1) c6) false 0 13 T _ base n xs ?_ ?_ ?_ ?_ ?_ ⟨_, _, _, rfl⟩) ?_; exact hOA.hp; omega; omega; omega; exact Nat.le_trans hb hOA.kw.size; rintro e w4 ⟨v', rfl, ho4, hk4⟩; have h4 := hk4.heap (show (_ : World).heap[w.heap.size + 1]? = _ from hOA.c2) (fun e => by have := (HL.out.lt _ e.symm).2; omega); have y20 := cell_of_block h4 (o := 0) rfl; have g20 := frozen_of_row w4 (w.heap.size + 1) 0 _ _ h4; have y21 := cell_of_block h4 (o := 1) rfl; have g21 := frozen_of_row w4 (w.heap.size + 1) 1 _ _ h4; have y22 := cell_of_block h4 (o := 2) rfl; have g22 := frozen_of_row w4 (w.heap.size + 1) 2 _ _ h4; have y23 := cell_of_block h4 (o := 3) rfl; have g23 := frozen_of_row w4 (w.heap.size + 1) 3 _ _ h4; have y24 := cell_of_block h4 (o := 4) rfl; have g24 := frozen_of_row w4 (w.heap.size + 1) 4 _ _ h4; have y25 := cell_of_block h4 (o := 5) rfl; have g25 := frozen_of_row w4 (w.heap.size + 1) 5 _ _ h4; have HOA := Lib.hid hOA; have Ho4 := Lib.hid ho4; have Hk4 := Lib.hid hk4; obtain ⟨q, c, rfl, _⟩ := row_shape ho4; clear h4 ho4 hk4 hOA; unfold LV))
              obtain ⟨e6, o6, k6, h4⟩ := put_stored (b0 := .string s) (b1 := .int .i64 ((at' : Int) + (m : Int))) (b2 := .slice q (n + 1) c) (b3 := (.slice (some ⟨g6, 0, none⟩) (rest.length + 1) c6)) (b4 := .bool false) (b5 := .int .i64 0) HL.out HOA.out.kw HOA.out.sz HOA.out.c2 Hk4.out Ho4.out 
              have oO := put_other (w := w) (b0 := .string s) (b1 := .int .i64 ((at' : Int) + (m : Int))) (b2 := .slice q (n + 1) c) (b3 := (.slice (some ⟨g6, 0, none⟩) (rest.length + 1) c6)) (b4 := .bool false) (b5 := .int .i64 0) HOA.out.hp HOA.out.ho Hk4.out h4 
              have q0 := cell_of_block e6 (o := 0) rfl 
              have q1 := cell_of_block e6 (o := 1) rfl 
              have q2 := cell_of_block e6 (o := 2) rfl 
              have q3 := cell_of_block e6 (o := 3) rfl 
              have q4 := cell_of_block e6 (o := 4) rfl 
              have q5 := cell_of_block e6 (o := 5) rfl 
              rw [← HTe.out] at o6 
              refine bodyPost_ret (v := .agg #[.string s, .int .i64 ((at' : Int) + (m : Int)), .slice q (n + 1) c, (.slice (some ⟨g6, 0, none⟩) (rest.length + 1) c6), .bool false, .int .i64 0]) (by simp [results, Tryz.results22, go_sem, q0, q1, q2, q3, q4, q5]) rfl ⟨.slice q (n + 1) c, (.slice (some ⟨g6, 0, none⟩) (rest.length + 1) c6), ?_, ?_, ?_, ?_⟩ 
              · exact congrArg Ending.returned (lvm s at' m _ _ _).symm 
              · exact o6 
              · exact oO 
              · exact k6
        · have b40 : (T.toList == [40]) = true := by rw [Lib.toList_data]; exact h40
          have b40' : (T.toList = [40]) = True := eq_true (eq_of_beq b40)
          have e40 : T.data.toList = [40] := eq_of_beq h40
          have b41 : (T.toList == [41]) = false := by rw [Lib.toList_data, e40]; rfl
          have b41' : (T.toList = [41]) = False := by apply eq_false; intro e; rw [e] at b41; simp at b41
          rw [e40, brk_open] at hr
          rw [hr]
          have Hd := Lib.hid (show ((t + 1 : Nat) : Int) = (t : Int) + 1 by omega)
          clear hr h40 hTd hge hbt e40
          go_enter Tryz.func22, Tryz.ntmps22
          go_wp2_with (first
            | (go_at_call 39; refine (Hpl.out _).mono ?_; rintro e w3 ⟨rfl, hb3⟩; have oa := outAt_plain (x := .int .i64 (13 : Int)) (y := .string (T)) HL.out HO.out hb3; have c1 := oa.c1; have c2 := oa.c2; have c3 := oa.c3; have x10 := cell_of_block c1 (o := 0) rfl; have f10 := frozen_of_row (w3.alloc (.cells #[.int .i64 (13 : Int), .string (T)] 29)) (w.heap.size) 0 _ _ c1; have x11 := cell_of_block c1 (o := 1) rfl; have f11 := frozen_of_row (w3.alloc (.cells #[.int .i64 (13 : Int), .string (T)] 29)) (w.heap.size) 1 _ _ c1; have x12 := cell_of_block c1 (o := 2) rfl; have f12 := frozen_of_row (w3.alloc (.cells #[.int .i64 (13 : Int), .string (T)] 29)) (w.heap.size) 2 _ _ c1; have x13 := cell_of_block c1 (o := 3) rfl; have f13 := frozen_of_row (w3.alloc (.cells #[.int .i64 (13 : Int), .string (T)] 29)) (w.heap.size) 3 _ _ c1; have x14 := cell_of_block c1 (o := 4) rfl; have f14 := frozen_of_row (w3.alloc (.cells #[.int .i64 (13 : Int), .string (T)] 29)) (w.heap.size) 4 _ _ c1; have x15 := cell_of_block c1 (o := 5) rfl; have f15 := frozen_of_row (w3.alloc (.cells #[.int .i64 (13 : Int), .string (T)] 29)) (w.heap.size) 5 _ _ c1; have x20 := cell_of_block c2 (o := 0) rfl; have f20 := frozen_of_row (w3.alloc (.cells #[.int .i64 (13 : Int), .string (T)] 29)) (w.heap.size + 1) 0 _ _ c2; have x21 := cell_of_block c2 (o := 1) rfl; have f21 := frozen_of_row (w3.alloc (.cells #[.int .i64 (13 : Int), .string (T)] 29)) (w.heap.size + 1) 1 _ _ c2; have x22 := cell_of_block c2 (o := 2) rfl; have f22 := frozen_of_row (w3.alloc (.cells #[.int .i64 (13 : Int), .string (T)] 29)) (w.heap.size + 1) 2 _ _ c2; have x23 := cell_of_block c2 (o := 3) rfl; have f23 := frozen_of_row (w3.alloc (.cells #[.int .i64 (13 : Int), .string (T)] 29)) (w.heap.size + 1) 3 _ _ c2; have x24 := cell_of_block c2 (o := 4) rfl; have f24 := frozen_of_row (w3.alloc (.cells #[.int .i64 (13 : Int), .string (T)] 29)) (w.heap.size + 1) 4 _ _ c2; have x25 := cell_of_block c2 (o := 5) rfl; have f25 := frozen_of_row (w3.alloc (.cells #[.int .i64 (13 : Int), .string (T)] 29)) (w.heap.size + 1) 5 _ _ c2; have x30 := cell_of_block c3 (o := 0) rfl; have f30 := frozen_of_row (w3.alloc (.cells #[.int .i64 (13 : Int), .string (T)] 29)) (w3.heap.size) 0 _ _ c3; have x31 := cell_of_block c3 (o := 1) rfl; have f31 := frozen_of_row (w3.alloc (.cells #[.int .i64 (13 : Int), .string (T)] 29)) (w3.heap.size) 1 _ _ c3; obtain ⟨kt, ft, _⟩ := own_set (u := 0) oa.ho; have OA := Lib.hid oa; clear c1 c2 c3 oa hb3)
            | (at_builtin; refine wpList_append_any _ rfl _ _ 46 rfl w.heap.size 3 i3 (.int .i64 0) 1 8 stack_und hi hz0 hz1 hz2 rfl (by decide) (.slice none 0 0) 0 [] rfl (World.ownsRow_nil _ _ _ _) base _ (rest.length + 1) (stackC (t :: rest)) rfl OA.out.ho (stack_one _) (by simp only [maxLen]; omega) (by omega) OA.out.kw.size ?_; intro v6 w6 own6 hk6; have oa6 := OA.out.keeps (hk6.mono (O' := fun _ => False) fun b _ h => by simp [Value.ownBlock] at h); rw [Nat.zero_add, List.nil_append] at own6; obtain ⟨g6, c6, rfl⟩ := own_succ own6; have hg6 : w.heap.size ≤ g6 := (own6.lt g6 rfl).1; have oa7 := oa6.row (ownsRow_base own6 hb); clear x10 x11 x12 x13 x14 x15 f10 f11 f12 f13 f14 f15 x20 x21 x22 x23 x24 x25 f20 f21 f22 f23 f24 f25 x30 x31 f30 f31 kt ft; have d1 := oa7.c1; have d2 := oa7.c2; have d3 := oa7.c3; have x10 := cell_of_block d1 (o := 0) rfl; have f10 := frozen_of_row (w6) (w.heap.size) 0 _ _ d1; have x11 := cell_of_block d1 (o := 1) rfl; have f11 := frozen_of_row (w6) (w.heap.size) 1 _ _ d1; have x12 := cell_of_block d1 (o := 2) rfl; have f12 := frozen_of_row (w6) (w.heap.size) 2 _ _ d1; have x13 := cell_of_block d1 (o := 3) rfl; have f13 := frozen_of_row (w6) (w.heap.size) 3 _ _ d1; have x14 := cell_of_block d1 (o := 4) rfl; have f14 := frozen_of_row (w6) (w.heap.size) 4 _ _ d1; have x15 := cell_of_block d1 (o := 5) rfl; have f15 := frozen_of_row (w6) (w.heap.size) 5 _ _ d1; have x20 := cell_of_block d2 (o := 0) rfl; have f20 := frozen_of_row (w6) (w.heap.size + 1) 0 _ _ d2; have x21 := cell_of_block d2 (o := 1) rfl; have f21 := frozen_of_row (w6) (w.heap.size + 1) 1 _ _ d2; have x22 := cell_of_block d2 (o := 2) rfl; have f22 := frozen_of_row (w6) (w.heap.size + 1) 2 _ _ d2; have x23 := cell_of_block d2 (o := 3) rfl; have f23 := frozen_of_row (w6) (w.heap.size + 1) 3 _ _ d2; have x24 := cell_of_block d2 (o := 4) rfl; have f24 := frozen_of_row (w6) (w.heap.size + 1) 4 _ _ d2; have x25 := cell_of_block d2 (o := 5) rfl; have f25 := frozen_of_row (w6) (w.heap.size + 1) 5 _ _ d2; have x30 := cell_of_block d3 (o := 0) rfl; have f30 := frozen_of_row (w6) (w3.heap.size) 0 _ _ d3; have x31 := cell_of_block d3 (o := 1) rfl; have f31 := frozen_of_row (w6) (w3.heap.size) 1 _ _ d3; obtain ⟨kt, ft, _⟩ := own_set (u := 0) oa7.ho; have ne1 := oa7.ne1; have ne2 := oa7.ne2; have ne3 := oa7.ne3; have ne1' := Ne.symm ne1; have ne2' := Ne.symm ne2; have ne3' := Ne.symm ne3; have OA7 := Lib.hid oa7; have Hg6 := Lib.hid hg6; clear d1 d2 d3 oa6 oa7 own6 hk6 hg6)
            | (go_at_call 38; have hOA := (Hd.out ▸ OA7.out.brk (u := t + 1) Hg6.out).lex 3 (.slice (some ⟨g6, 0, none⟩) (rest.length + 1) c6); refine Calls.mono (put_calls s at' (.slice p n cap) (.slice (some ⟨g6, 0, none⟩) (rest.length + 1) c6) false 0 13 T _ base n xs ?_ ?_ ?_ ?_ ?_ ⟨_, _, _, rfl⟩) ?_; exact hOA.hp; omega; omega; omega; exact Nat.le_trans hb hOA.kw.size; rintro e w4 ⟨v', rfl, ho4, hk4⟩; have h4 := hk4.heap (show (_ : World).heap[w.heap.size + 1]? = _ from hOA.c2) (fun e => by have := (HL.out.lt _ e.symm).2; omega); have y20 := cell_of_block h4 (o := 0) rfl; have g20 := frozen_of_row w4 (w.heap.size + 1) 0 _ _ h4; have y21 := cell_of_block h4 (o := 1) rfl; have g21 := frozen_of_row w4 (w.heap.size + 1) 1 _ _ h4; have y22 := cell_of_block h4 (o := 2) rfl; have g22 := frozen_of_row w4 (w.heap.size + 1) 2 _ _ h4; have y23 := cell_of_block h4 (o := 3) rfl; have g23 := frozen_of_row w4 (w.heap.size + 1) 3 _ _ h4; have y24 := cell_of_block h4 (o := 4) rfl; have g24 := frozen_of_row w4 (w.heap.size + 1) 4 _ _ h4; have y25 := cell_of_block h4 (o := 5) rfl; have g25 := frozen_of_row w4 (w.heap.size + 1) 5 _ _ h4; have HOA := Lib.hid hOA; have Ho4 := Lib.hid ho4; have Hk4 := Lib.hid hk4; obtain ⟨q, c, rfl, _⟩ := row_shape ho4; clear h4 ho4 hk4 hOA; unfold LV))
          obtain ⟨e6, o6, k6, h4⟩ := put_stored (b0 := .string s) (b1 := .int .i64 ((at' : Int) + (m : Int))) (b2 := .slice q (n + 1) c) (b3 := (.slice (some ⟨g6, 0, none⟩) (rest.length + 1) c6)) (b4 := .bool false) (b5 := .int .i64 0) HL.out HOA.out.kw HOA.out.sz HOA.out.c2 Hk4.out Ho4.out 
          have oO := put_other (w := w) (b0 := .string s) (b1 := .int .i64 ((at' : Int) + (m : Int))) (b2 := .slice q (n + 1) c) (b3 := (.slice (some ⟨g6, 0, none⟩) (rest.length + 1) c6)) (b4 := .bool false) (b5 := .int .i64 0) HOA.out.hp HOA.out.ho Hk4.out h4 
          have q0 := cell_of_block e6 (o := 0) rfl 
          have q1 := cell_of_block e6 (o := 1) rfl 
          have q2 := cell_of_block e6 (o := 2) rfl 
          have q3 := cell_of_block e6 (o := 3) rfl 
          have q4 := cell_of_block e6 (o := 4) rfl 
          have q5 := cell_of_block e6 (o := 5) rfl 
          rw [← HTe.out] at o6 
          refine bodyPost_ret (v := .agg #[.string s, .int .i64 ((at' : Int) + (m : Int)), .slice q (n + 1) c, (.slice (some ⟨g6, 0, none⟩) (rest.length + 1) c6), .bool false, .int .i64 0]) (by simp [results, Tryz.results22, go_sem, q0, q1, q2, q3, q4, q5]) rfl ⟨.slice q (n + 1) c, (.slice (some ⟨g6, 0, none⟩) (rest.length + 1) c6), ?_, ?_, ?_, ?_⟩ 
          · exact congrArg Ending.returned (lvm s at' m _ _ _).symm 
          · exact o6 
          · exact oO 
          · exact k6
      · have y13 : ((k : Int) == 13) = false := by rw [beq_eq_false_iff_ne]; omega
        have y13' : ((k : Int) = 13) = False := by apply eq_false; omega
        rw [brk_kind h13] at hr
        rw [hr]
        clear hr hTd hge hbt
        by_cases h7 : k = 7
        · subst h7
          go_enter Tryz.func22, Tryz.ntmps22
          go_wp2_with (first
            | (go_at_call 39; refine (Hpl.out _).mono ?_; rintro e w3 ⟨rfl, hb3⟩; have oa := outAt_plain (x := .int .i64 (7 : Int)) (y := .string (T)) HL.out HO.out hb3; have c1 := oa.c1; have c2 := oa.c2; have c3 := oa.c3; have x10 := cell_of_block c1 (o := 0) rfl; have f10 := frozen_of_row (w3.alloc (.cells #[.int .i64 (7 : Int), .string (T)] 29)) (w.heap.size) 0 _ _ c1; have x11 := cell_of_block c1 (o := 1) rfl; have f11 := frozen_of_row (w3.alloc (.cells #[.int .i64 (7 : Int), .string (T)] 29)) (w.heap.size) 1 _ _ c1; have x12 := cell_of_block c1 (o := 2) rfl; have f12 := frozen_of_row (w3.alloc (.cells #[.int .i64 (7 : Int), .string (T)] 29)) (w.heap.size) 2 _ _ c1; have x13 := cell_of_block c1 (o := 3) rfl; have f13 := frozen_of_row (w3.alloc (.cells #[.int .i64 (7 : Int), .string (T)] 29)) (w.heap.size) 3 _ _ c1; have x14 := cell_of_block c1 (o := 4) rfl; have f14 := frozen_of_row (w3.alloc (.cells #[.int .i64 (7 : Int), .string (T)] 29)) (w.heap.size) 4 _ _ c1; have x15 := cell_of_block c1 (o := 5) rfl; have f15 := frozen_of_row (w3.alloc (.cells #[.int .i64 (7 : Int), .string (T)] 29)) (w.heap.size) 5 _ _ c1; have x20 := cell_of_block c2 (o := 0) rfl; have f20 := frozen_of_row (w3.alloc (.cells #[.int .i64 (7 : Int), .string (T)] 29)) (w.heap.size + 1) 0 _ _ c2; have x21 := cell_of_block c2 (o := 1) rfl; have f21 := frozen_of_row (w3.alloc (.cells #[.int .i64 (7 : Int), .string (T)] 29)) (w.heap.size + 1) 1 _ _ c2; have x22 := cell_of_block c2 (o := 2) rfl; have f22 := frozen_of_row (w3.alloc (.cells #[.int .i64 (7 : Int), .string (T)] 29)) (w.heap.size + 1) 2 _ _ c2; have x23 := cell_of_block c2 (o := 3) rfl; have f23 := frozen_of_row (w3.alloc (.cells #[.int .i64 (7 : Int), .string (T)] 29)) (w.heap.size + 1) 3 _ _ c2; have x24 := cell_of_block c2 (o := 4) rfl; have f24 := frozen_of_row (w3.alloc (.cells #[.int .i64 (7 : Int), .string (T)] 29)) (w.heap.size + 1) 4 _ _ c2; have x25 := cell_of_block c2 (o := 5) rfl; have f25 := frozen_of_row (w3.alloc (.cells #[.int .i64 (7 : Int), .string (T)] 29)) (w.heap.size + 1) 5 _ _ c2; have x30 := cell_of_block c3 (o := 0) rfl; have f30 := frozen_of_row (w3.alloc (.cells #[.int .i64 (7 : Int), .string (T)] 29)) (w3.heap.size) 0 _ _ c3; have x31 := cell_of_block c3 (o := 1) rfl; have f31 := frozen_of_row (w3.alloc (.cells #[.int .i64 (7 : Int), .string (T)] 29)) (w3.heap.size) 1 _ _ c3; obtain ⟨kt, ft, _⟩ := own_set (u := 0) oa.ho; have OA := Lib.hid oa; clear c1 c2 c3 oa hb3)
            | (go_at_call 38; have hOA := OA.out.lex 4 (.bool true); refine Calls.mono (put_calls s at' (.slice p n cap) (.slice (some ⟨g, 0, none⟩) (rest.length + 1) cO) true 0 7 T _ base n xs ?_ ?_ ?_ ?_ ?_ ⟨_, _, _, rfl⟩) ?_; exact hOA.hp; omega; omega; omega; exact Nat.le_trans hb hOA.kw.size; rintro e w4 ⟨v', rfl, ho4, hk4⟩; have h4 := hk4.heap (show (_ : World).heap[w.heap.size + 1]? = _ from hOA.c2) (fun e => by have := (HL.out.lt _ e.symm).2; omega); have y20 := cell_of_block h4 (o := 0) rfl; have g20 := frozen_of_row w4 (w.heap.size + 1) 0 _ _ h4; have y21 := cell_of_block h4 (o := 1) rfl; have g21 := frozen_of_row w4 (w.heap.size + 1) 1 _ _ h4; have y22 := cell_of_block h4 (o := 2) rfl; have g22 := frozen_of_row w4 (w.heap.size + 1) 2 _ _ h4; have y23 := cell_of_block h4 (o := 3) rfl; have g23 := frozen_of_row w4 (w.heap.size + 1) 3 _ _ h4; have y24 := cell_of_block h4 (o := 4) rfl; have g24 := frozen_of_row w4 (w.heap.size + 1) 4 _ _ h4; have y25 := cell_of_block h4 (o := 5) rfl; have g25 := frozen_of_row w4 (w.heap.size + 1) 5 _ _ h4; have HOA := Lib.hid hOA; have Ho4 := Lib.hid ho4; have Hk4 := Lib.hid hk4; obtain ⟨q, c, rfl, _⟩ := row_shape ho4; clear h4 ho4 hk4 hOA; unfold LV))
          obtain ⟨e6, o6, k6, h4⟩ := put_stored (b0 := .string s) (b1 := .int .i64 ((at' : Int) + (m : Int))) (b2 := .slice q (n + 1) c) (b3 := (.slice (some ⟨g, 0, none⟩) (rest.length + 1) cO)) (b4 := .bool true) (b5 := .int .i64 0) HL.out HOA.out.kw HOA.out.sz HOA.out.c2 Hk4.out Ho4.out 
          have oO := put_other (w := w) (b0 := .string s) (b1 := .int .i64 ((at' : Int) + (m : Int))) (b2 := .slice q (n + 1) c) (b3 := (.slice (some ⟨g, 0, none⟩) (rest.length + 1) cO)) (b4 := .bool true) (b5 := .int .i64 0) HOA.out.hp HOA.out.ho Hk4.out h4 
          have q0 := cell_of_block e6 (o := 0) rfl 
          have q1 := cell_of_block e6 (o := 1) rfl 
          have q2 := cell_of_block e6 (o := 2) rfl 
          have q3 := cell_of_block e6 (o := 3) rfl 
          have q4 := cell_of_block e6 (o := 4) rfl 
          have q5 := cell_of_block e6 (o := 5) rfl 
          rw [← HTe.out] at o6 
          refine bodyPost_ret (v := .agg #[.string s, .int .i64 ((at' : Int) + (m : Int)), .slice q (n + 1) c, (.slice (some ⟨g, 0, none⟩) (rest.length + 1) cO), .bool true, .int .i64 0]) (by simp [results, Tryz.results22, go_sem, q0, q1, q2, q3, q4, q5]) rfl ⟨.slice q (n + 1) c, (.slice (some ⟨g, 0, none⟩) (rest.length + 1) cO), ?_, ?_, ?_, ?_⟩ 
          · exact congrArg Ending.returned (lvm s at' m _ _ _).symm 
          · exact o6 
          · exact oO 
          · exact k6
        · have y7 : ((k : Int) == 7) = false := by rw [beq_eq_false_iff_ne]; omega
          have y7' : ((k : Int) = 7) = False := by apply eq_false; omega
          rw [show (k == 7) = false from beq_eq_false_iff_ne.2 h7]
          go_enter Tryz.func22, Tryz.ntmps22
          go_wp2_with (first
            | (go_at_call 39; refine (Hpl.out _).mono ?_; rintro e w3 ⟨rfl, hb3⟩; have oa := outAt_plain (x := .int .i64 (k : Int)) (y := .string (T)) HL.out HO.out hb3; have c1 := oa.c1; have c2 := oa.c2; have c3 := oa.c3; have x10 := cell_of_block c1 (o := 0) rfl; have f10 := frozen_of_row (w3.alloc (.cells #[.int .i64 (k : Int), .string (T)] 29)) (w.heap.size) 0 _ _ c1; have x11 := cell_of_block c1 (o := 1) rfl; have f11 := frozen_of_row (w3.alloc (.cells #[.int .i64 (k : Int), .string (T)] 29)) (w.heap.size) 1 _ _ c1; have x12 := cell_of_block c1 (o := 2) rfl; have f12 := frozen_of_row (w3.alloc (.cells #[.int .i64 (k : Int), .string (T)] 29)) (w.heap.size) 2 _ _ c1; have x13 := cell_of_block c1 (o := 3) rfl; have f13 := frozen_of_row (w3.alloc (.cells #[.int .i64 (k : Int), .string (T)] 29)) (w.heap.size) 3 _ _ c1; have x14 := cell_of_block c1 (o := 4) rfl; have f14 := frozen_of_row (w3.alloc (.cells #[.int .i64 (k : Int), .string (T)] 29)) (w.heap.size) 4 _ _ c1; have x15 := cell_of_block c1 (o := 5) rfl; have f15 := frozen_of_row (w3.alloc (.cells #[.int .i64 (k : Int), .string (T)] 29)) (w.heap.size) 5 _ _ c1; have x20 := cell_of_block c2 (o := 0) rfl; have f20 := frozen_of_row (w3.alloc (.cells #[.int .i64 (k : Int), .string (T)] 29)) (w.heap.size + 1) 0 _ _ c2; have x21 := cell_of_block c2 (o := 1) rfl; have f21 := frozen_of_row (w3.alloc (.cells #[.int .i64 (k : Int), .string (T)] 29)) (w.heap.size + 1) 1 _ _ c2; have x22 := cell_of_block c2 (o := 2) rfl; have f22 := frozen_of_row (w3.alloc (.cells #[.int .i64 (k : Int), .string (T)] 29)) (w.heap.size + 1) 2 _ _ c2; have x23 := cell_of_block c2 (o := 3) rfl; have f23 := frozen_of_row (w3.alloc (.cells #[.int .i64 (k : Int), .string (T)] 29)) (w.heap.size + 1) 3 _ _ c2; have x24 := cell_of_block c2 (o := 4) rfl; have f24 := frozen_of_row (w3.alloc (.cells #[.int .i64 (k : Int), .string (T)] 29)) (w.heap.size + 1) 4 _ _ c2; have x25 := cell_of_block c2 (o := 5) rfl; have f25 := frozen_of_row (w3.alloc (.cells #[.int .i64 (k : Int), .string (T)] 29)) (w.heap.size + 1) 5 _ _ c2; have x30 := cell_of_block c3 (o := 0) rfl; have f30 := frozen_of_row (w3.alloc (.cells #[.int .i64 (k : Int), .string (T)] 29)) (w3.heap.size) 0 _ _ c3; have x31 := cell_of_block c3 (o := 1) rfl; have f31 := frozen_of_row (w3.alloc (.cells #[.int .i64 (k : Int), .string (T)] 29)) (w3.heap.size) 1 _ _ c3; obtain ⟨kt, ft, _⟩ := own_set (u := 0) oa.ho; have OA := Lib.hid oa; clear c1 c2 c3 oa hb3)
            | (go_at_call 38; have hOA := OA.out; refine Calls.mono (put_calls s at' (.slice p n cap) (.slice (some ⟨g, 0, none⟩) (rest.length + 1) cO) false 0 k T _ base n xs ?_ ?_ ?_ ?_ ?_ ⟨_, _, _, rfl⟩) ?_; exact hOA.hp; omega; omega; omega; exact Nat.le_trans hb hOA.kw.size; rintro e w4 ⟨v', rfl, ho4, hk4⟩; have h4 := hk4.heap (show (_ : World).heap[w.heap.size + 1]? = _ from hOA.c2) (fun e => by have := (HL.out.lt _ e.symm).2; omega); have y20 := cell_of_block h4 (o := 0) rfl; have g20 := frozen_of_row w4 (w.heap.size + 1) 0 _ _ h4; have y21 := cell_of_block h4 (o := 1) rfl; have g21 := frozen_of_row w4 (w.heap.size + 1) 1 _ _ h4; have y22 := cell_of_block h4 (o := 2) rfl; have g22 := frozen_of_row w4 (w.heap.size + 1) 2 _ _ h4; have y23 := cell_of_block h4 (o := 3) rfl; have g23 := frozen_of_row w4 (w.heap.size + 1) 3 _ _ h4; have y24 := cell_of_block h4 (o := 4) rfl; have g24 := frozen_of_row w4 (w.heap.size + 1) 4 _ _ h4; have y25 := cell_of_block h4 (o := 5) rfl; have g25 := frozen_of_row w4 (w.heap.size + 1) 5 _ _ h4; have HOA := Lib.hid hOA; have Ho4 := Lib.hid ho4; have Hk4 := Lib.hid hk4; obtain ⟨q, c, rfl, _⟩ := row_shape ho4; clear h4 ho4 hk4 hOA; unfold LV))
          obtain ⟨e6, o6, k6, h4⟩ := put_stored (b0 := .string s) (b1 := .int .i64 ((at' : Int) + (m : Int))) (b2 := .slice q (n + 1) c) (b3 := (.slice (some ⟨g, 0, none⟩) (rest.length + 1) cO)) (b4 := .bool false) (b5 := .int .i64 0) HL.out HOA.out.kw HOA.out.sz HOA.out.c2 Hk4.out Ho4.out 
          have oO := put_other (w := w) (b0 := .string s) (b1 := .int .i64 ((at' : Int) + (m : Int))) (b2 := .slice q (n + 1) c) (b3 := (.slice (some ⟨g, 0, none⟩) (rest.length + 1) cO)) (b4 := .bool false) (b5 := .int .i64 0) HOA.out.hp HOA.out.ho Hk4.out h4 
          have q0 := cell_of_block e6 (o := 0) rfl 
          have q1 := cell_of_block e6 (o := 1) rfl 
          have q2 := cell_of_block e6 (o := 2) rfl 
          have q3 := cell_of_block e6 (o := 3) rfl 
          have q4 := cell_of_block e6 (o := 4) rfl 
          have q5 := cell_of_block e6 (o := 5) rfl 
          rw [← HTe.out] at o6 
          refine bodyPost_ret (v := .agg #[.string s, .int .i64 ((at' : Int) + (m : Int)), .slice q (n + 1) c, (.slice (some ⟨g, 0, none⟩) (rest.length + 1) cO), .bool false, .int .i64 0]) (by simp [results, Tryz.results22, go_sem, q0, q1, q2, q3, q4, q5]) rfl ⟨.slice q (n + 1) c, (.slice (some ⟨g, 0, none⟩) (rest.length + 1) cO), ?_, ?_, ?_, ?_⟩ 
          · exact congrArg Ending.returned (lvm s at' m _ _ _).symm 
          · exact o6 
          · exact oO 
          · exact k6
end Go.Proofs.YtiinhkfbgecbjaaGreatDoor
namespace Go.Proofs.YtiinhkfbgecbjaaGreatDoor
set_option linter.unusedSimpArgs false
set_option linter.unusedVariables false
open Go.RowKit Go.Sub

theorem told_end {l : List UInt8} {ys : List Tok3} {a : Nat} {st : List Nat} {inn : Bool} (h : Reach l ys a st inn) (ha : a = l.length) : lexN (l.length + 1) l 0 [] false = (ys, (if inn || !st.isEmpty then 13 else 0), l.length) := by
  obtain ⟨f1, f2, f3, f4⟩ := reach_facts h
  have e : lexN (l.length - ys.length + 1) l a st inn = ([], (if inn || !st.isEmpty then 13 else 0), l.length) := by rw [lexN, if_pos (by omega), ha]
  have hr := reach_run h (l.length - ys.length + 1)
  rw [e, show ys.length + (l.length - ys.length + 1) = l.length + 1 by omega] at hr
  rw [hr]; simp
theorem told_err {l : List UInt8} {ys : List Tok3} {a : Nat} {st : List Nat} {inn : Bool} {er : Nat} (h : Reach l ys a st inn) (ha : a < l.length) (he : (stepN (l.drop a) st inn).2.2.2.2 = er) (h0 : er ≠ 0) : lexN (l.length + 1) l 0 [] false = (ys, er, a) := by
  obtain ⟨f1, f2, f3, f4⟩ := reach_facts h
  have e : lexN (l.length - ys.length + 1) l a st inn = ([], er, a) := by
    generalize hs : stepN (l.drop a) st inn = r at he
    obtain ⟨k, n, st3, inn3, e⟩ := r
    dsimp only at he
    subst he
    cases e with
    | zero => exact absurd rfl h0
    | succ e => rw [lexN, if_neg (by omega), hs]
  have hr := reach_run h (l.length - ys.length + 1)
  rw [e, show ys.length + (l.length - ys.length + 1) = l.length + 1 by omega] at hr
  rw [hr]; simp
/-- how the document's lexer lies -/
structure RSt (w : World) (B : Nat) (s : ByteArray) (ys : List Tok3) (a : Nat) (st : List Nat) (inn : Bool) (vL vO : Value) (er : Nat) (W : World) : Prop where
  blk : W.heap[B]? = some (.cells #[.string s, .int .i64 (a : Int), vL, vO, .bool inn, .int .i64 (er : Int)] 48 (0, 0))
  rL : W.ownsRow w.heap.size 29 2 vL ys.length (tokC s.data.toList ys)
  rO : W.ownsRow w.heap.size 3 1 vO st.length (stackC st)
  bel : Below w.heap.size w W
  hB : w.heap.size ≤ B
theorem RSt.keep {w W W2 : World} {B : Nat} {s : ByteArray} {ys : List Tok3} {a : Nat} {st : List Nat} {inn : Bool} {vL vO : Value} {er : Nat} (h : RSt w B s ys a st inn vL vO er W) (k : Keeps (fun b => some b = vL.ownBlock) W W2) :
    W2.heap[B]? = some (.cells #[.string s, .int .i64 (a : Int), vL, vO, .bool inn, .int .i64 (er : Int)] 48 (0, 0)) ∧ Below w.heap.size w W2 := by
  refine ⟨k.heap h.blk fun e => ?_, h.bel.trans (k.below h.bel.size fun b hb => (h.rL.lt b hb.symm).1)⟩
  obtain ⟨cur, hd⟩ := rows_block h.rL e
  have hb := h.blk
  rw [hd] at hb
  simp only [Option.some.injEq, Obj.cells.injEq] at hb
  exact absurd hb.2.1 (by decide)
theorem RSt.next {w W2 : World} {B : Nat} {s : ByteArray} {ys2 : List Tok3} {a2 : Nat} {st2 : List Nat} {inn2 : Bool} {vL2 vO2 : Value} {er2 : Nat} {c : Array Value} {c0 c1 c2 c3 c4 c5 : Value} (hc : c = #[c0, c1, c2, c3, c4, c5]) (hb : W2.heap[B]? = some (.cells c 48 (0, 0))) (bel : Below w.heap.size w W2) (hB : w.heap.size ≤ B)
    (rL : W2.ownsRow w.heap.size 29 2 vL2 ys2.length (tokC s.data.toList ys2)) (rO : W2.ownsRow w.heap.size 3 1 vO2 st2.length (stackC st2)) {x : Value} (hx : x = .int .i64 (a2 : Int)) {y : Value} (hy : y = .int .i64 (er2 : Int)) :
    RSt w B s ys2 a2 st2 inn2 vL2 vO2 er2 ((((((W2.setCell ⟨B, 0, none⟩ (.string s)).setCell ⟨B, 1, none⟩ x).setCell ⟨B, 2, none⟩ vL2).setCell ⟨B, 3, none⟩ vO2).setCell ⟨B, 4, none⟩ (.bool inn2)).setCell ⟨B, 5, none⟩ y) := by
  subst hc hx hy
  have k := six_keeps W2 B (.string s) (.int .i64 (a2 : Int)) vL2 vO2 (.bool inn2) (.int .i64 (er2 : Int)) (O := fun b => b = B) rfl
  have ap : ∀ {e : TypeId} {sz : Nat} {v : Value} {q : Nat} {zs : List Value}, W2.ownsRow w.heap.size e sz v q zs → e ≠ 48 → ∀ g, some g = v.ownBlock → ¬ g = B := fun h he g hg e => by
    obtain ⟨cur, hd⟩ := rows_block h hg
    rw [e, hb] at hd
    simp only [Option.some.injEq, Obj.cells.injEq] at hd
    exact he hd.2.1.symm
  exact ⟨six_laid hb, ownsRow_keeps rL k (ap rL (by decide)), ownsRow_keeps rO k (ap rO (by decide)), bel.trans (k.below bel.size fun b h => by omega), hB⟩
def RNext (w wr : World) (s : ByteArray) (vL : Value) (ys2 : List Tok3) (a2 : Nat) (st2 : List Nat) (inn2 : Bool) (er2 : Nat) (e : Ending) (w' : World) : Prop :=
  ∃ vL' vO', e = .returned (LV s a2 vL' vO' inn2 er2) ∧ w'.ownsRow w.heap.size 29 2 vL' ys2.length (tokC s.data.toList ys2) ∧ w'.ownsRow w.heap.size 3 1 vO' st2.length (stackC st2) ∧ Keeps (fun b => some b = vL.ownBlock) wr w'
def RFact (s : ByteArray) (ys : List Tok3) (a : Nat) (st : List Nat) (inn : Bool) (er : Nat) : Prop :=
  (er = 0 ∧ Reach s.data.toList ys a st inn) ∨ (er ≠ 0 ∧ ∃ st0 inn0, Reach s.data.toList ys a st0 inn0 ∧ a < s.size ∧ (stepN (s.data.toList.drop a) st0 inn0).2.2.2.2 = er)
theorem rstep_next {F : FuncId} {args : Array Value} {w wr : World} {s : ByteArray} {ys : List Tok3} {a : Nat} {st : List Nat} {inn : Bool} {vL : Value} (hr : Reach s.data.toList ys a st inn) (hlt : a < s.size)
    (hc : Calls Tryz.prog F args wr (RStep wr w.heap.size s a vL (tokC s.data.toList ys) ys.length (stepN (s.data.toList.drop a) st inn))) :
    ∃ ys2 a2 st2 inn2 er2, Calls Tryz.prog F args wr (RNext w wr s vL ys2 a2 st2 inn2 er2) ∧ RFact s ys2 a2 st2 inn2 er2 ∧ ((er2 = 0 ∧ a < a2) ∨ (er2 ≠ 0 ∧ a2 = a)) ∧ a2 ≤ s.size := by
  have hsz := Lib.size_eq s
  generalize hs : stepN (s.data.toList.drop a) st inn = r at hc
  obtain ⟨k, n, st2, inn2, e⟩ := r
  cases e with
  | zero =>
    have h2 : Reach s.data.toList (ys ++ [(k, a, n)]) (a + n) st2 inn2 := .snoc hr (by omega) hs
    have hf := reach_facts h2
    have hg := (reach_facts hr)
    have hn : 0 < n := by
      have hg := stepN_good (s.data.toList.drop a) st inn a (fun e => by have := congrArg List.length e; rw [List.length_drop] at this; simp at this; omega) hg.2.1 hg.2.2.1
      rw [hs] at hg
      exact (hg rfl).1
    refine ⟨_, a + n, st2, inn2, 0, hc.mono ?_, .inl ⟨rfl, h2⟩, .inl ⟨rfl, by omega⟩, by omega⟩
    rintro e w' ⟨vL', vO', rfl, o1, o2, hk⟩
    refine ⟨vL', vO', rfl, ?_, o2, hk⟩
    rw [tokC_snoc, List.length_append]
    exact o1
  | succ e =>
    refine ⟨ys, a, st2, inn2, e + 1, hc.mono ?_, .inr ⟨Nat.succ_ne_zero _, st, inn, hr, hlt, by rw [hs]⟩, .inr ⟨Nat.succ_ne_zero _, rfl⟩, by omega⟩
    rintro e w' ⟨vL', vO', rfl, o1, o2, hk⟩
    exact ⟨vL', vO', rfl, o1, o2, hk⟩
theorem meas1 {S a a2 e2 : Nat} (h : (e2 = 0 ∧ a < a2) ∨ (e2 ≠ 0 ∧ a2 = a)) (h2 : a2 ≤ S) (h3 : a < S) :
    (S - cellInt (some (.int .i64 (a2 : Int)))) + (if cellInt (some (.int .i64 (e2 : Int))) = 0 then 1 else 0) < (S - cellInt (some (.int .i64 (a : Int)))) + (if cellInt (some (.int .i64 ((0 : Nat) : Int))) = 0 then 1 else 0) := by
  simp only [cellInt, Int.toNat_natCast]
  rcases h with ⟨rfl, h⟩ | ⟨h, rfl⟩
  · simp; omega
  · simp [h]
def RPost (s : ByteArray) (w : World) (r : List Tok3 × Nat × Int) (e : Ending) (w' : World) : Prop :=
  ∃ v, e = .returned (.tuple #[v, .int .i64 (r.2.1 : Int), .int .i64 r.2.2]) ∧ w'.ownsRow w.heap.size 29 2 v r.1.length (tokC s.data.toList r.1) ∧ Below w.heap.size w w'
set_option maxRecDepth 100000 in
set_option maxHeartbeats 2000000 in
theorem rtokens_calls (s : ByteArray) (w : World) (hs : s.size < 4611686018427387904) :
    Calls Tryz.prog 9 #[.string s] w (RPost s w (tokensN s)) := by
  by_cases h1 : 65536 < s.size
  · have hr : tokensN s = ([], 3, 0) := by unfold tokensN; rw [if_pos h1]
    rw [hr]
    go_enter Tryz.func9, Tryz.ntmps9
    go_wp2
    exact bodyPost_ret (v := .tuple #[.slice none 0 0, .int .i64 3, .int .i64 0]) (by simp [results, Tryz.results9, go_sem]) rfl ⟨_, rfl, World.ownsRow_nil _ _ _ _, Below.refl _ _⟩
  · have hck := rcheck_calls s w hs
    by_cases h2 : 0 ≤ checkFrom s 0
    · have hr : tokensN s = ([], 10, checkFrom s 0) := by unfold tokensN; rw [if_neg h1, if_pos h2]
      rw [hr]
      have Hck := Lib.hid hck
      generalize checkFrom s 0 = k at *
      clear hck hr
      go_enter Tryz.func9, Tryz.ntmps9
      go_wp2_with (go_at_call 20; refine (Hck.out).mono ?_; rintro e w' ⟨rfl, hb⟩)
      exact bodyPost_ret (v := .tuple #[.slice none 0 0, .int .i64 10, .int .i64 k]) (by simp [results, Tryz.results9, go_sem]) rfl ⟨_, rfl, World.ownsRow_nil _ _ _ _, hb⟩
    · have hr : tokensN s = if (lexN (s.size + 1) s.data.toList 0 [] false).2.1 = 0 then ((lexN (s.size + 1) s.data.toList 0 [] false).1, 0, 0)
          else ([], (lexN (s.size + 1) s.data.toList 0 [] false).2.1, ((lexN (s.size + 1) s.data.toList 0 [] false).2.2 : Int)) := by unfold tokensN; rw [if_neg h1, if_neg h2]
      have Hr := Lib.hid hr
      have Hck := Lib.hid hck
      have Hsz := Lib.hid (Lib.size_eq s)
      have hs2 : s.size ≤ 65536 := by omega
      generalize checkFrom s 0 = kk at *
      clear hck hr
      go_enter Tryz.func9, Tryz.ntmps9
      go_wp2_with (go_at_call 20; refine (Hck.out).mono ?_; rintro e w1 ⟨rfl, hb⟩; have Hb := Lib.hid hb; clear hb)
      have hst0 : RSt w w1.heap.size s [] 0 [] false (.slice none 0 0) (.slice none 0 0) 0 (w1.alloc (.cells #[.string s, .int .i64 0, .slice none 0 0, .slice none 0 0, .bool false, .int .i64 0] 48)) :=
        ⟨World.alloc_heap_new _ _, World.ownsRow_nil _ _ _ _, World.ownsRow_nil _ _ _ _, Hb.out.trans (((Below.refl _ _).alloc (Nat.le_refl _) _).mono Hb.out.size), Hb.out.size⟩
      go_loopw [] (fun wr => ∃ (ys : List Tok3) (a : Nat) (st : List Nat) (inn : Bool) (vL vO : Value) (er : Nat), Hid (RSt w w1.heap.size s ys a st inn vL vO er wr) ∧ Hid (RFact s ys a st inn er))
        (fun wr => (s.size - cellInt (wr.cell? ⟨w1.heap.size, 1, none⟩)) + (if cellInt (wr.cell? ⟨w1.heap.size, 5, none⟩) = 0 then 1 else 0))
      case atStart => exact ⟨[], 0, [], false, _, _, 0, Lib.hid hst0, Lib.hid (.inl ⟨rfl, .nil⟩)⟩
      case round =>
        clear hst0
        obtain ⟨ys, a, st, inn, vL, vO, er, HS, HR⟩ := hrel
        obtain ⟨p, cap, rfl, _⟩ := row_shape HS.out.rL
        obtain ⟨pO, cO, rfl, _⟩ := row_shape HS.out.rO
        have hblk := HS.out.blk
        have x10 := cell_of_block hblk (o := 0) rfl
        have f10 := frozen_of_row (wr) (w1.heap.size) 0 _ _ hblk
        have x11 := cell_of_block hblk (o := 1) rfl
        have f11 := frozen_of_row (wr) (w1.heap.size) 1 _ _ hblk
        have x12 := cell_of_block hblk (o := 2) rfl
        have f12 := frozen_of_row (wr) (w1.heap.size) 2 _ _ hblk
        have x13 := cell_of_block hblk (o := 3) rfl
        have f13 := frozen_of_row (wr) (w1.heap.size) 3 _ _ hblk
        have x14 := cell_of_block hblk (o := 4) rfl
        have f14 := frozen_of_row (wr) (w1.heap.size) 4 _ _ hblk
        have x15 := cell_of_block hblk (o := 5) rfl
        have f15 := frozen_of_row (wr) (w1.heap.size) 5 _ _ hblk
        clear hblk
        rcases HR.out with ⟨rfl, hreach⟩ | ⟨he, st0, inn0, hreach, hat, hstep⟩
        · obtain ⟨r1, r2, r3, r4⟩ := reach_facts hreach
          rw [← Hsz.out] at r1
          by_cases hlt : a < s.size
          · cases inn
            · have hc := routside_calls s a (.slice p ys.length cap) (.slice pO st.length cO) st wr w.heap.size ys.length _ HS.out.rL HS.out.rO (by omega) hlt hs2 r2 (fun x hx => by have := r3 x hx; omega) HS.out.bel.size
              obtain ⟨ys2, a2, st2, inn2, er2, hc2, hf2, hm2, hle2⟩ := rstep_next (w := w) (inn := false) hreach hlt hc
              have HC := Lib.hid hc2
              have HF := Lib.hid hf2
              clear hc hc2 hf2 hreach HR
              unfold LV at HC
              go_wp2_with (go_at_call 22; refine (HC.out).mono ?_; rintro e w2 ⟨vL', vO', rfl, o1, o2, hk⟩; obtain ⟨hb2, hbel2⟩ := HS.out.keep hk; obtain ⟨q1, c1, rfl, _⟩ := row_shape o1; obtain ⟨q2, c2, rfl, _⟩ := row_shape o2; have x20 := cell_of_block hb2 (o := 0) rfl; have f20 := frozen_of_row (w2) (w1.heap.size) 0 _ _ hb2; have x21 := cell_of_block hb2 (o := 1) rfl; have f21 := frozen_of_row (w2) (w1.heap.size) 1 _ _ hb2; have x22 := cell_of_block hb2 (o := 2) rfl; have f22 := frozen_of_row (w2) (w1.heap.size) 2 _ _ hb2; have x23 := cell_of_block hb2 (o := 3) rfl; have f23 := frozen_of_row (w2) (w1.heap.size) 3 _ _ hb2; have x24 := cell_of_block hb2 (o := 4) rfl; have f24 := frozen_of_row (w2) (w1.heap.size) 4 _ _ hb2; have x25 := cell_of_block hb2 (o := 5) rfl; have f25 := frozen_of_row (w2) (w1.heap.size) 5 _ _ hb2; have O1 := Lib.hid o1; have O2 := Lib.hid o2; have HB2 := Lib.hid hb2; have HBL2 := Lib.hid hbel2; clear o1 o2 hk hb2 hbel2; unfold LV)
              have hnx := RSt.next (w := w) (s := s) (ys2 := ys2) (a2 := a2) (er2 := er2) (inn2 := inn2) rfl HB2.out HBL2.out Hb.out.size O1.out O2.out rfl rfl
              have m1 : _ = some (Value.int .i64 (a2 : Int)) := cell_of_block hnx.blk (o := 1) rfl
              have m5 : _ = some (Value.int .i64 (er2 : Int)) := cell_of_block hnx.blk (o := 5) rfl
              have HN := Lib.hid hnx
              clear hnx
              go_roundw
              case rel => exact ⟨ys2, a2, st2, inn2, _, _, er2, HN, HF⟩
              case measure =>
                rw [m1, m5, x11, x15]
                exact meas1 hm2 hle2 hlt
            · have hc := rinside_calls s a (.slice p ys.length cap) (.slice pO st.length cO) st wr w.heap.size ys.length _ HS.out.rL HS.out.rO (by omega) hlt hs2 r2 HS.out.bel.size
              obtain ⟨ys2, a2, st2, inn2, er2, hc2, hf2, hm2, hle2⟩ := rstep_next (w := w) (inn := true) hreach hlt hc
              have HC := Lib.hid hc2
              have HF := Lib.hid hf2
              clear hc hc2 hf2 hreach HR
              unfold LV at HC
              go_wp2_with (go_at_call 21; refine (HC.out).mono ?_; rintro e w2 ⟨vL', vO', rfl, o1, o2, hk⟩; obtain ⟨hb2, hbel2⟩ := HS.out.keep hk; obtain ⟨q1, c1, rfl, _⟩ := row_shape o1; obtain ⟨q2, c2, rfl, _⟩ := row_shape o2; have x20 := cell_of_block hb2 (o := 0) rfl; have f20 := frozen_of_row (w2) (w1.heap.size) 0 _ _ hb2; have x21 := cell_of_block hb2 (o := 1) rfl; have f21 := frozen_of_row (w2) (w1.heap.size) 1 _ _ hb2; have x22 := cell_of_block hb2 (o := 2) rfl; have f22 := frozen_of_row (w2) (w1.heap.size) 2 _ _ hb2; have x23 := cell_of_block hb2 (o := 3) rfl; have f23 := frozen_of_row (w2) (w1.heap.size) 3 _ _ hb2; have x24 := cell_of_block hb2 (o := 4) rfl; have f24 := frozen_of_row (w2) (w1.heap.size) 4 _ _ hb2; have x25 := cell_of_block hb2 (o := 5) rfl; have f25 := frozen_of_row (w2) (w1.heap.size) 5 _ _ hb2; have O1 := Lib.hid o1; have O2 := Lib.hid o2; have HB2 := Lib.hid hb2; have HBL2 := Lib.hid hbel2; clear o1 o2 hk hb2 hbel2; unfold LV)
              have hnx := RSt.next (w := w) (s := s) (ys2 := ys2) (a2 := a2) (er2 := er2) (inn2 := inn2) rfl HB2.out HBL2.out Hb.out.size O1.out O2.out rfl rfl
              have m1 : _ = some (Value.int .i64 (a2 : Int)) := cell_of_block hnx.blk (o := 1) rfl
              have m5 : _ = some (Value.int .i64 (er2 : Int)) := cell_of_block hnx.blk (o := 5) rfl
              have HN := Lib.hid hnx
              clear hnx
              go_roundw
              case rel => exact ⟨ys2, a2, st2, inn2, _, _, er2, HN, HF⟩
              case measure =>
                rw [m1, m5, x11, x15]
                exact meas1 hm2 hle2 hlt
          · have hae : a = s.size := by omega
            subst hae
            have htold := told_end hreach Hsz.out
            rw [← Hsz.out] at htold
            have Ht := Lib.hid htold
            clear htold hreach
            cases inn
            · cases st with
              | nil =>
                go_wp2
                rw [Hr.out, Ht.out]
                exact bodyPost_ret (v := .tuple #[_, .int .i64 0, .int .i64 0]) (by simp [results, Tryz.results9, go_sem]) rfl ⟨_, rfl, HS.out.rL, HS.out.bel⟩
              | cons t rest =>
                go_wp2
                rw [Hr.out, Ht.out]
                exact bodyPost_ret (v := .tuple #[.slice none 0 0, .int .i64 13, .int .i64 (s.size : Int)]) (by simp [results, Tryz.results9, go_sem]) rfl ⟨_, rfl, World.ownsRow_nil _ _ _ _, HS.out.bel⟩
            · go_wp2
              rw [Hr.out, Ht.out]
              exact bodyPost_ret (v := .tuple #[.slice none 0 0, .int .i64 13, .int .i64 (s.size : Int)]) (by simp [results, Tryz.results9, go_sem]) rfl ⟨_, rfl, World.ownsRow_nil _ _ _ _, HS.out.bel⟩
        · have y1 : ((er : Int) == 0) = false := by rw [beq_eq_false_iff_ne]; omega
          have y2 : ((er : Int) != 0) = true := by rw [bne_iff_ne]; omega
          have y3 : ((er : Int) = 0) = False := by apply eq_false; omega
          have htold := told_err hreach (by rw [← Hsz.out]; exact hat) hstep he
          rw [← Hsz.out] at htold
          have Ht := Lib.hid htold
          clear htold hstep hreach
          go_wp2
          go_quiet (fail)
          go_wp2
          rw [Hr.out, Ht.out, if_neg he]
          exact bodyPost_ret (v := .tuple #[.slice none 0 0, .int .i64 (er : Int), .int .i64 (a : Int)]) (by simp [results, Tryz.results9, go_sem]) rfl ⟨_, rfl, World.ownsRow_nil _ _ _ _, by first | exact HS.out.bel | exact below_drewN HS.out.bel _⟩
end Go.Proofs.YtiinhkfbgecbjaaGreatDoor
namespace Go.Proofs.YtiinhkfbgecbjaaGreatDoor
set_option linter.unusedSimpArgs false
set_option linter.unusedVariables false
open Go.RowKit Go.Sub

/-- how many tokens and bytes there are -/
def sumT (xs : List TokB) : Nat := (xs.map fun x => 1 + x.2.size).sum
theorem sumT_take {xs : List TokB} {n : Nat} {x : TokB} (h : xs[n]? = some x) : sumT (xs.take (n + 1)) = sumT (xs.take n) + (1 + x.2.size) := by
  unfold sumT
  rw [List.take_add_one, h]
  simp
theorem sumT_le (xs : List TokB) (n : Nat) : sumT (xs.take n) ≤ sumT xs := by
  have h : sumT xs = sumT (xs.take n) + sumT (xs.drop n) := by
    unfold sumT
    rw [← List.sum_append, ← List.map_append, List.take_append_drop]
  omega
theorem sumT_join : ∀ xs : List TokB, xs.length + (joinL xs).length = sumT xs
  | [] => rfl
  | x :: xs => by
    have ih := sumT_join xs
    have e1 : sumT (x :: xs) = 1 + x.2.size + sumT xs := rfl
    have e2 : (joinL (x :: xs)).length = x.2.size + (joinL xs).length := by
      unfold joinL
      rw [List.map_cons, List.flatten_cons, List.length_append, Lib.size_eq]
    rw [e1, e2, List.length_cons]; omega
set_option maxHeartbeats 1000000 in
set_option maxRecDepth 100000 in
theorem many_calls (v : Value) (xs : List TokB) (w : World) (h : TokRow w v xs) (hlen : sumT xs ≤ 1048576) :
    Calls Tryz.prog 14 #[v] w fun e w' => e = .returned (.bool (decide (300 < sumT xs))) ∧ w' = w := by
  obtain ⟨p, cap, rfl, hl, hc⟩ := h
  go_enter Tryz.func14, Tryz.ntmps14
  go_wp2
  go_loopw [3, 4] (fun v i wr => ∃ (n m : Nat), v = .int .i64 m ∧ i = .int .i64 n ∧ n ≤ xs.length ∧ Hid (m = sumT (xs.take n)) ∧ m ≤ 1048576 ∧ wr = w) (fun _ i _ => xs.length - (intOf i).toNat)
  case atStart => exact ⟨0, 0, rfl, rfl, by omega, Lib.hid rfl, by decide, rfl⟩
  case round =>
    obtain ⟨n, m, rfl, rfl, hn, HR, hR, rfl⟩ := hrel
    by_cases hlt : n < xs.length
    · obtain ⟨x, hx⟩ : ∃ x, xs[n]? = some x := ⟨_, List.getElem?_eq_getElem hlt⟩
      obtain ⟨a, o1, rfl, ca1, ca2⟩ := hc n x hx
      have Hx1 := Lib.hid (sumT_take hx)
      have hle := sumT_le xs (n + 1)
      rw [sumT_take hx, ← HR.out] at hle
      clear hc ca1 hx
      go_wp2
      go_roundw
      case rel => exact ⟨n + 1, m + (1 + x.2.size), by go_num, by go_num, by omega, Lib.hid (by rw [Hx1.out, ← HR.out]), by omega, by first | rfl | trivial⟩
      case measure => simp only [intOf]; omega
    · obtain rfl : n = xs.length := by omega
      clear hc
      have hm : m = sumT xs := by have := HR.out; rwa [List.take_length] at this
      have Hm := Lib.hid hm
      clear HR hm
      by_cases h3 : 300 < m
      · have hd : decide (300 < sumT xs) = true := decide_eq_true (by rw [← Hm.out]; exact h3)
        have Hd := Lib.hid hd
        clear hd
        go_wp2
        go_ret
        exact ⟨by rw [Hd.out]; show Ending.returned (.bool (decide ((300 : Int) < (m : Int)))) = _; rw [decide_eq_true (by omega)], rfl⟩
      · have hd : decide (300 < sumT xs) = false := decide_eq_false (by rw [← Hm.out]; exact h3)
        have Hd := Lib.hid hd
        clear hd
        go_wp2
        go_ret
        exact ⟨by rw [Hd.out]; show Ending.returned (.bool (decide ((300 : Int) < (m : Int)))) = _; rw [decide_eq_false (by omega)], rfl⟩
end Go.Proofs.YtiinhkfbgecbjaaGreatDoor
