/- The law LexSplit, walked. Its condition: the choices' cells hold bytes. -/
import Derived.Test.YtfaocpcbejgfjaaDoorLl5
import Derived.Test.YtfaocpcbejgfjaaDoorSm1
namespace Go.Proofs.YtfaocpcbejgfjaaDoor
open Go.RowKit Go.Sub

theorem tokB_map {l : List UInt8} : ∀ {ys zs : List Tok3} {l' : List UInt8}, tokC l ys = tokC l' zs → ys.length = zs.length → ys.map (tokB l) = zs.map (tokB l')
  | [], [], _, _, _ => rfl
  | y :: ys, z :: zs, l', h, hl => by
    have e : ∀ (l : List UInt8) y ys, tokC l (y :: ys) = .int .i64 (y.1 : Int) :: .string ⟨((l.drop y.2.1).take y.2.2).toArray⟩ :: tokC l ys := fun _ _ _ => rfl
    rw [e, e] at h
    simp only [List.cons.injEq, Value.int.injEq, Value.string.injEq, true_and] at h
    rw [List.map_cons, List.map_cons, tokB_map h.2.2 (by simpa using hl)]
    congr 1
    unfold tokB
    rw [h.1, h.2.1]
theorem tokC_len (l : List UInt8) : ∀ ys : List Tok3, (tokC l ys).length = 2 * ys.length
  | [] => rfl
  | y :: ys => by
    have e : tokC l (y :: ys) = .int .i64 (y.1 : Int) :: .string ⟨((l.drop y.2.1).take y.2.2).toArray⟩ :: tokC l ys := rfl
    rw [e]; simp only [List.length_cons, tokC_len l ys]; omega
theorem tokC_one (l : List UInt8) (ys : List Tok3) : ∀ u ∈ tokC l ys, u.oneCell' = true := by
  intro u hu
  unfold tokC at hu
  obtain ⟨x, _, h⟩ := List.mem_flatMap.1 hu
  rcases List.mem_cons.1 h with rfl | h
  · rfl
  · rw [List.mem_singleton.1 h]; rfl
theorem last_get {ys : List Tok3} {n : Nat} (h : ys.length = n + 1) {l : List UInt8} : ∃ y, ys.getLast? = some y ∧ (tokC l ys)[n * 2]? = some (.int .i64 (y.1 : Int)) := by
  obtain ⟨y, hy⟩ : ∃ y, ys[n]? = some y := ⟨_, List.getElem?_eq_getElem (by omega)⟩
  refine ⟨y, ?_, ?_⟩
  · rw [List.getLast?_eq_getElem?, h]; exact hy
  · have := (tokC_get (l := l) (ys := ys) (i := n) (x := tokB l y) (by rw [List.getElem?_map, hy]; rfl)).1
    exact this
theorem run_append_none {P : Program} (w : World) (t ty e : TypeId) (i : TypeInfo) (ht : P.underlying t = some (.slice e)) (hi : P.info? e = some i) (p : Option Addr) (n c c2 : Nat) (hn : n ≤ c) :
    (Builtin.append_ #[t, t] ty #[.slice p n c, .slice none 0 c2]).run P w = .ok (.slice p n c) w := by
  have h1 := run_firstCells_none (P := P) w i.size 0 0 c2
  cases p with
  | none => simp [Builtin.append_, run_underlying ht, sizeOf, typeInfo, hi, Builtin.lenOf, Builtin.firstCells, hn, Sem.run_pure]
  | some a => simp [Builtin.append_, run_underlying ht, sizeOf, typeInfo, hi, Builtin.lenOf, Builtin.firstCells, hn, Sem.run_pure, storeCells]
theorem row_shape {w : World} {base : Nat} {e : TypeId} {size : Nat} {v : Value} {n : Nat} {xs : List Value} (h : w.ownsRow base e size v n xs) : ∃ p c, v = .slice p n c ∧ n ≤ c := by
  rcases h.2 with ⟨rfl, rfl⟩ | ⟨g, cap, cur, rfl, _, _, hc, _⟩
  · exact ⟨none, 0, rfl, Nat.le_refl _⟩
  · exact ⟨_, cap, rfl, hc⟩
/-- a list is laid behind one's own -/
theorem run_append_any {P : Program} (w : World) (base : Nat) (t ty e : TypeId) (i : TypeInfo) (z : Value) (size bytes : Nat) (ht : P.underlying t = some (.slice e)) (hi : P.info? e = some i) (hz : i.zero = some z)
    (hsize : i.size = size) (hby : i.bytes = bytes) (hzs : z.cells.size = size) (hsz : 0 < size)
    (v : Value) (n : Nat) (xs : List Value) (hown : w.ownsRow base e size v n xs) (b2 : Nat) (v2 : Value) (m : Nat) (ys : List Value) (hown2 : w.ownsRow b2 e size v2 m ys) (h1 : ∀ u ∈ ys, u.oneCell' = true)
    (h63 : n + m ≤ maxLen) (hbytes : (n + m) * bytes ≤ 140737488355328) (hbase : base ≤ w.heap.size) :
    ∃ v' w', (Builtin.append_ #[t, t] ty #[v, v2]).run P w = .ok v' w' ∧ w'.ownsRow base e size v' (n + m) (xs ++ ys) ∧ Keeps (fun b => some b = v.ownBlock) w w' := by
  have hl2 := hown2.1
  rcases hown2.2 with ⟨rfl, rfl⟩ | ⟨g, cap, cur, rfl, h2⟩
  · obtain ⟨p, c, rfl, hc⟩ := row_shape hown
    have : ys = [] := List.length_eq_zero_iff.1 (by omega)
    subst this
    exact ⟨_, w, run_append_none w t ty e i ht hi p n c 0 hc, by rw [List.append_nil]; exact hown, Keeps.refl _ _⟩
  · obtain ⟨v', w', hr, r1, r2, r3, r4⟩ := run_append_own2 (P := P) w base t ty e i z size bytes ht hi hz hsize hby hzs hsz v n xs hown ⟨g, 0, none⟩ m cap ys hl2 (fun j u hj => hown2.cells (g := g) rfl j u hj) h1 h63 hbytes hbase
    exact ⟨v', w', hr, r1, Keeps.of_grownBy r2 fun r h => h.symm⟩
theorem wpList_append_any {P : Program} (w : World) {ops : Array Oper} {rest : List Oper} {o : Oper} {a : Act} {Q : Exit → Act → World → Prop}
    (hg : o.guard = none) (s x : Operand) (t : TypeId) (hop : o.op = Op.call { callee := Callee.builtin Builtin.append, args := #[s, x], argTypes := #[t, t] })
    (base : Nat) (e : TypeId) (i : TypeInfo) (z : Value) (size bytes : Nat) (h1 : P.underlying t = some (.slice e)) (h2 : P.info? e = some i) (h3 : i.zero = some z) (h4 : i.size = size) (h5 : i.bytes = bytes) (h6 : z.cells.size = size) (h7 : 0 < size)
    (v : Value) (k : Nat) (xs : List Value) (hs : a.eval s = v) (hown : w.ownsRow base e size v k xs) (b2 : Nat) (v2 : Value) (m : Nat) (ys : List Value) (hx : a.eval x = v2) (hown2 : w.ownsRow b2 e size v2 m ys)
    (h1c : ∀ u ∈ ys, u.oneCell' = true) (b1 : k + m ≤ maxLen) (b3 : (k + m) * bytes ≤ 140737488355328) (b4 : base ≤ w.heap.size)
    (hK : ∀ v' w', w'.ownsRow base e size v' (k + m) (xs ++ ys) → Keeps (fun b => some b = v.ownBlock) w w' → wpList P ops Q rest (a.put o.dst v') w') :
    wpList P ops Q (o :: rest) a w := by
  refine wpList_plain hg fun K hK' => ?_
  obtain ⟨v', w', hrun, r1, r2⟩ := run_append_any (P := P) w base t o.type e i z size bytes h1 h2 h3 h4 h5 h6 h7 v k xs hown b2 v2 m ys hown2 h1c b1 b3 b4
  unfold Oper.wp
  simp [execOp, hop, resolve, invoke, builtin, hs, hx, hrun, Result.andThen]
  exact hK' _ _ (hK v' w' r1 r2)
/-- behind the two appends: both lists of tokens, as they lie -/
theorem split_rows {w5 w6 w7 w8 : World} {v3 v6 v7 : Value} {b3 n m : Nat} {x : List Value} {l : List UInt8} {X3 : List Tok3} (hl : X3.length ≤ 1000) (r3 : w5.ownsRow b3 32 2 v3 X3.length (tokC l X3)) (k6 : Keeps (fun _ => False) w5 w6) (o6 : w6.ownsRow w5.heap.size 32 2 v6 n x) (k7 : Keeps (fun b => some b = v6.ownBlock) w6 w7)
    (o7 : w7.ownsRow w5.heap.size 32 2 v7 m (tokC l X3)) (hm : m = X3.length) (b8 : Below w7.heap.size w7 w8) :
    TokRow w8 v3 (X3.map (tokB l)) ∧ TokRow w8 v7 (X3.map (tokB l)) ∧ Below w5.heap.size w5 w8 := by
  subst hm
  have k8 : Keeps (fun _ => False) w7 w8 := Keeps.of_below' b8
  have r6 := ownsRow_keeps r3 k6 (fun _ _ h => h)
  have r7 := ownsRow_keeps r6 k7 (fun g hg e => by
    have h1 := (r3.lt g hg.symm).2
    have h2 := (o6.lt g e.symm).1
    omega)
  refine ⟨tokRow_own (ownsRow_keeps r7 k8 (fun _ _ h => h)) (by omega), tokRow_own (ownsRow_keeps o7 k8 (fun _ _ h => h)) (by omega), ?_⟩
  have b6 : Below w5.heap.size w5 w6 := k6.below (Nat.le_refl _) fun b h => h.elim
  have b7 : Below w5.heap.size w6 w7 := k7.below k6.size fun b h => (o6.lt b h.symm).1
  exact (b6.trans b7).trans (b8.mono (Nat.le_trans k6.size k7.size))
set_option maxRecDepth 100000 in
set_option maxHeartbeats 4000000 in
theorem split_core (v1 v2 : Value) (w : World) (hv1 : BytesV w v1) (hv2 : BytesV w v2) :
    Calls Tryd.prog 6 #[v1, v2] w fun e w' => e = .returned (.bool true) ∧ Below w.heap.size w w' := by
  have Hs := Lib.hid (source_calls v1 w hv1)
  have Hv2 := Lib.hid hv2
  clear hv1 hv2
  go_enter Tryd.func6, Tryd.ntmps6
  go_wp2_with (first
    | (go_at_call 10; with_reducible refine (Hs.out).mono ?_; rintro e w1 ⟨R1, rfl, hR1, hu1, hB⟩; clear Hs; have Hu1 := Lib.hid hu1; clear hu1)
    | (go_at_call 10; refine (source_calls v2 _ (Hv2.out.below hB)).mono ?_; rintro e w2 ⟨R2, rfl, hR2, hu2, hb2⟩; replace hB := hB.trans (hb2.mono hB.size); clear hb2; have Hu2 := Lib.hid hu2; clear hu2))
  obtain ⟨S1, hS1⟩ : ∃ S1 : ByteArray, R1 ++ ⟨#[10]⟩ = S1 := ⟨_, rfl⟩
  have hs1 : S1.size = R1.size + 1 := by rw [← hS1, ByteArray.size_append]; rfl
  have hd1 : S1.data.toList = R1.data.toList ++ [10] := by rw [← hS1]; simp
  have hu1 : Utf S1.data.toList := by rw [hd1]; exact utf_append Hu1.out (utf_ascii (by decide))
  obtain ⟨ys, er1, z1, ht1⟩ : ∃ ys er1 z1, tokensN S1 = (ys, er1, z1) := ⟨_, _, _, rfl⟩
  obtain ⟨zs, er2, z2, ht2⟩ : ∃ zs er2 z2, tokensN R2 = (zs, er2, z2) := ⟨_, _, _, rfl⟩
  have T1 := Lib.hid (tokens_any ht1 (by omega))
  have T2 := Lib.hid (tokens_any ht2 (by omega))
  have Hd1 := Lib.hid hd1
  have HS1 := Lib.hid hS1
  have Ht1 := Lib.hid ht1
  have Ht2 := Lib.hid ht2
  have HU1 := Lib.hid hu1
  clear ht1 ht2 hd1 hu1
  rw [hS1]
  clear hS1
  go_at_call 11
  refine (T1.out _).mono ?_
  rintro e w3 ⟨v1', rfl, row1, hb3⟩
  replace hB := hB.trans (hb3.mono hB.size)
  have Row1 := Lib.hid row1
  clear row1 hb3
  by_cases e1 : er1 = 0
  · subst e1
    by_cases e2 : er2 = 0
    · subst e2
      match ys, Ht1, Row1, T1 with
      | [], Ht1, Row1, T1 =>
        obtain ⟨p1, c1, rfl, _⟩ := row_shape Row1.out
        go_wp2_with (first | (go_at_call 11; with_reducible refine (T2.out _).mono ?_; rintro e w4 ⟨v2', rfl, row2, hb4⟩; replace hB := hB.trans (hb4.mono hB.size)) | (go_at_call 12; refine (known_calls _).mono ?_; rintro e w5 ⟨rfl, hb⟩; replace hB := hB.trans (hb.mono hB.size); clear hb))
        go_ret
        exact ⟨rfl, hB⟩
      | y0 :: ys0, Ht1, Row1, T1 =>
        obtain ⟨n, hn⟩ : ∃ n, (y0 :: ys0).length = n + 1 := ⟨ys0.length, rfl⟩
        generalize y0 :: ys0 = ys at *
        have row1 := Row1.out
        rw [hn] at row1
        obtain ⟨g, cap, rfl⟩ := own_succ row1
        obtain ⟨y, hy, hyc⟩ := last_get hn (l := S1.data.toList)
        have k1 : w3.cell? ⟨g, n * 2, none⟩ = some (.int .i64 (y.1 : Int)) := row_cells row1 _ hyc
        obtain ⟨r1, _, _⟩ := told_ok (by omega) HU1.out Ht1.out
        obtain ⟨r2, _, _⟩ := told_ok (s := R2) (by omega) Hu2.out Ht2.out
        have hn1 : ys.length ≤ 301 := by have := (reach_facts r1).2.2.2; omega
        have hn2 : zs.length ≤ 300 := by have := (reach_facts r2).2.2.2; omega
        have w1' : IntKind.i64.wrap (((n : Int) + 1) - 1) = (n : Int) := by rw [IntWalk.i64_in _ (by omega)]; omega
        have w2' : ((n : Int) + 1) - 1 = (n : Int) := by omega
        have Hy := Lib.hid hy
        have Row1' := Lib.hid row1
        clear Row1 row1 hyc r1 r2 hy
        by_cases hy1 : y.1 = 1
        · have q1 : ((y.1 : Int) != 1) = false := by rw [hy1]; rfl
          rw [hy1] at k1
          match zs, Ht2, T2, hn2 with
          | [], Ht2, T2, hn2 =>
            have hz : ∀ z' : Tok3, ((([] : List Tok3)) : List Tok3)[0]? = some z' → z'.1 ≠ 1 := (fun z' h => by simp at h) 
            obtain ⟨ht3, hc3⟩ := split_told (S1 := S1) (S2 := R2) (S3 := R1 ++ ⟨#[10]⟩ ++ R2) Hd1.out rfl (by rw [ByteArray.data_append, ByteArray.data_append, Array.toList_append, Array.toList_append, List.append_assoc]; rfl) (by omega) (by omega) HU1.out Hu2.out Ht1.out Ht2.out (by rw [Hy.out, Option.map_some, hy1]) hz 
            have hs3 : (R1 ++ ⟨#[10]⟩ ++ R2 : ByteArray).size < 4611686018427387904 := by rw [ByteArray.size_append, ByteArray.size_append]; show R1.size + 1 + R2.size < _; omega 
            have T3 := Lib.hid (tokens_any ht3 hs3) 
            obtain ⟨i0, hi, hz0, hz1, hz2⟩ := info_parts tok_info 
            obtain ⟨X3, hX3⟩ : ∃ X3, ys ++ (([] : List Tok3)).map (shiftT S1.size) = X3 := ⟨_, rfl⟩ 
            have hX3l : X3.length = n + 1 + (([] : List Tok3)).length := by rw [← hX3, List.length_append, hn, List.length_map] 
            rw [hX3] at hc3 
            rw [hX3] at T3 
            have Hc3 := Lib.hid hc3 
            have HX3l := Lib.hid hX3l 
            have Hn2 := Lib.hid hn2 
            clear hz ht3 hc3 hX3 hX3l hs3
            go_wp2_with (first | ((go_at_call 11; with_reducible refine (T2.out _).mono ?_; rintro e w4 ⟨v2', rfl, row2, hb4⟩; replace hB := hB.trans (hb4.mono hB.size)); have Row2 := Lib.hid row2; obtain ⟨p2, c2, rfl, _⟩ := row_shape row2; replace k1 := below_cell hb4 k1; have Row14 := Lib.hid (ownsRow_keeps (O := fun _ => False) Row1'.out (Keeps.of_below' hb4) (fun _ _ h => h)); clear row2 hb4) | (go_at_call 11; with_reducible refine (T3.out _).mono ?_; rintro e w5 ⟨v3', rfl, row3, hb5⟩; have HB5 := Lib.hid (hB.trans (hb5.mono hB.size)); have Row3 := Lib.hid row3; have Row15 := Lib.hid (ownsRow_keeps (O := fun _ => False) Row14.out (Keeps.of_below' hb5) (fun _ _ h => h)); have Row25 := Lib.hid (ownsRow_keeps (O := fun _ => False) Row2.out (Keeps.of_below' hb5) (fun _ _ h => h)); clear row3 hb5 hB) | (at_builtin; refine wpList_append_any _ rfl _ _ 24 rfl w5.heap.size 32 i0 (.agg #[.int .i64 0, .string ByteArray.empty]) 2 24 toks_und hi hz0 hz1 hz2 rfl (by decide) (.slice none 0 0) 0 [] rfl (World.ownsRow_nil _ _ _ _) w2.heap.size _ (n + 1) (tokC S1.data.toList ys) rfl Row15.out (tokC_one _ _) (by simp only [maxLen]; omega) (by omega) (Nat.le_refl _) ?_; intro v6 w6 hown6 hk6; have Own6 := Lib.hid hown6; have Hk6 := Lib.hid (hk6.mono (O' := fun _ => False) fun b _ h => by simp [Value.ownBlock] at h); clear hown6 hk6) | (at_builtin; refine wpList_append_any _ rfl _ _ 24 rfl w5.heap.size 32 i0 (.agg #[.int .i64 0, .string ByteArray.empty]) 2 24 toks_und hi hz0 hz1 hz2 rfl (by decide) v6 (0 + (n + 1)) ([] ++ tokC S1.data.toList ys) rfl Own6.out w3.heap.size _ (([] : List Tok3)).length (tokC R2.data.toList (([] : List Tok3))) rfl (ownsRow_keeps Row25.out Hk6.out fun _ _ h => h) (tokC_one _ _) (by have := Hn2.out; simp only [maxLen]; omega) (by have := Hn2.out; omega) Hk6.out.size ?_; intro v7 w7 hown7 hk7; have Own7 := Lib.hid hown7; have Hk7 := Lib.hid hk7; clear hown7 hk7) | (go_at_call 12; refine (known_calls _).mono ?_; rintro e w8 ⟨rfl, hb8⟩; have Hb8 := Lib.hid hb8; clear hb8) | (go_at_call 13; obtain ⟨q3, q7, qb⟩ := split_rows (by have := HX3l.out; have := Hn2.out; omega) Row3.out Hk6.out Own6.out Hk7.out (by rw [Hc3.out]; exact Own7.out) (by have := HX3l.out; omega) Hb8.out; refine (same_calls _ _ _ _ _ q3 q7).mono ?_; rintro e w9 ⟨rfl, hb9⟩; have HB9 := Lib.hid (HB5.out.trans ((qb.trans (hb9.mono qb.size)).mono HB5.out.size))))
            go_ret
            exact ⟨rfl, HB9.out⟩
          | z :: zs, Ht2, T2, hn2 =>
            by_cases hz1 : z.1 = 1
            · go_wp2_with (first | ((go_at_call 11; with_reducible refine (T2.out _).mono ?_; rintro e w4 ⟨v2', rfl, row2, hb4⟩; replace hB := hB.trans (hb4.mono hB.size)); obtain ⟨g2, cap2, rfl⟩ := own_succ row2; have k2 : w4.cell? ⟨g2, 0, none⟩ = some (.int .i64 (z.1 : Int)) := row_cells row2 0 rfl; rw [hz1] at k2; replace k1 := below_cell hb4 k1; clear row2 hb4) | (go_at_call 12; refine (known_calls _).mono ?_; rintro e w5 ⟨rfl, hb⟩; replace hB := hB.trans (hb.mono hB.size); clear hb))
              go_ret
              exact ⟨rfl, hB⟩
            · have q2 : ((z.1 : Int) == 1) = false := by rw [beq_eq_false_iff_ne]; omega
              have q3 : ((z.1 : Int) = 1) = False := by apply eq_false; omega
              have hz : ∀ z' : Tok3, ((z :: zs) : List Tok3)[0]? = some z' → z'.1 ≠ 1 := (fun z' h => (show z = z' from by simpa using h) ▸ hz1) 
              obtain ⟨ht3, hc3⟩ := split_told (S1 := S1) (S2 := R2) (S3 := R1 ++ ⟨#[10]⟩ ++ R2) Hd1.out rfl (by rw [ByteArray.data_append, ByteArray.data_append, Array.toList_append, Array.toList_append, List.append_assoc]; rfl) (by omega) (by omega) HU1.out Hu2.out Ht1.out Ht2.out (by rw [Hy.out, Option.map_some, hy1]) hz 
              have hs3 : (R1 ++ ⟨#[10]⟩ ++ R2 : ByteArray).size < 4611686018427387904 := by rw [ByteArray.size_append, ByteArray.size_append]; show R1.size + 1 + R2.size < _; omega 
              have T3 := Lib.hid (tokens_any ht3 hs3) 
              obtain ⟨i0, hi, hz0, hz1, hz2⟩ := info_parts tok_info 
              obtain ⟨X3, hX3⟩ : ∃ X3, ys ++ (z :: zs).map (shiftT S1.size) = X3 := ⟨_, rfl⟩ 
              have hX3l : X3.length = n + 1 + (z :: zs).length := by rw [← hX3, List.length_append, hn, List.length_map] 
              rw [hX3] at hc3 
              rw [hX3] at T3 
              have Hc3 := Lib.hid hc3 
              have HX3l := Lib.hid hX3l 
              have Hn2 := Lib.hid hn2 
              clear hz ht3 hc3 hX3 hX3l hs3
              go_wp2_with (first | ((go_at_call 11; with_reducible refine (T2.out _).mono ?_; rintro e w4 ⟨v2', rfl, row2, hb4⟩; replace hB := hB.trans (hb4.mono hB.size)); have Row2 := Lib.hid row2; obtain ⟨g2, cap2, rfl⟩ := own_succ row2; have k2 : w4.cell? ⟨g2, 0, none⟩ = some (.int .i64 (z.1 : Int)) := row_cells row2 0 rfl; replace k1 := below_cell hb4 k1; have Row14 := Lib.hid (ownsRow_keeps (O := fun _ => False) Row1'.out (Keeps.of_below' hb4) (fun _ _ h => h)); clear row2 hb4) | (go_at_call 11; with_reducible refine (T3.out _).mono ?_; rintro e w5 ⟨v3', rfl, row3, hb5⟩; have HB5 := Lib.hid (hB.trans (hb5.mono hB.size)); have Row3 := Lib.hid row3; have Row15 := Lib.hid (ownsRow_keeps (O := fun _ => False) Row14.out (Keeps.of_below' hb5) (fun _ _ h => h)); have Row25 := Lib.hid (ownsRow_keeps (O := fun _ => False) Row2.out (Keeps.of_below' hb5) (fun _ _ h => h)); clear row3 hb5 hB) | (at_builtin; refine wpList_append_any _ rfl _ _ 24 rfl w5.heap.size 32 i0 (.agg #[.int .i64 0, .string ByteArray.empty]) 2 24 toks_und hi hz0 hz1 hz2 rfl (by decide) (.slice none 0 0) 0 [] rfl (World.ownsRow_nil _ _ _ _) w2.heap.size _ (n + 1) (tokC S1.data.toList ys) rfl Row15.out (tokC_one _ _) (by simp only [maxLen]; omega) (by omega) (Nat.le_refl _) ?_; intro v6 w6 hown6 hk6; have Own6 := Lib.hid hown6; have Hk6 := Lib.hid (hk6.mono (O' := fun _ => False) fun b _ h => by simp [Value.ownBlock] at h); clear hown6 hk6) | (at_builtin; refine wpList_append_any _ rfl _ _ 24 rfl w5.heap.size 32 i0 (.agg #[.int .i64 0, .string ByteArray.empty]) 2 24 toks_und hi hz0 hz1 hz2 rfl (by decide) v6 (0 + (n + 1)) ([] ++ tokC S1.data.toList ys) rfl Own6.out w3.heap.size _ (z :: zs).length (tokC R2.data.toList (z :: zs)) rfl (ownsRow_keeps Row25.out Hk6.out fun _ _ h => h) (tokC_one _ _) (by have := Hn2.out; simp only [maxLen]; omega) (by have := Hn2.out; omega) Hk6.out.size ?_; intro v7 w7 hown7 hk7; have Own7 := Lib.hid hown7; have Hk7 := Lib.hid hk7; clear hown7 hk7) | (go_at_call 12; refine (known_calls _).mono ?_; rintro e w8 ⟨rfl, hb8⟩; have Hb8 := Lib.hid hb8; clear hb8) | (go_at_call 13; obtain ⟨q3, q7, qb⟩ := split_rows (by have := HX3l.out; have := Hn2.out; omega) Row3.out Hk6.out Own6.out Hk7.out (by rw [Hc3.out]; exact Own7.out) (by have := HX3l.out; omega) Hb8.out; refine (same_calls _ _ _ _ _ q3 q7).mono ?_; rintro e w9 ⟨rfl, hb9⟩; have HB9 := Lib.hid (HB5.out.trans ((qb.trans (hb9.mono qb.size)).mono HB5.out.size))))
              go_ret
              exact ⟨rfl, HB9.out⟩
        · have q1 : ((y.1 : Int) != 1) = true := by rw [bne_iff_ne]; omega
          go_wp2_with (first | ((go_at_call 11; with_reducible refine (T2.out _).mono ?_; rintro e w4 ⟨v2', rfl, row2, hb4⟩; replace hB := hB.trans (hb4.mono hB.size)); obtain ⟨p2, c2, rfl, _⟩ := row_shape row2; replace k1 := below_cell hb4 k1; clear row2 hb4) | (go_at_call 12; refine (known_calls _).mono ?_; rintro e w5 ⟨rfl, hb⟩; replace hB := hB.trans (hb.mono hB.size); clear hb))
          go_ret
          exact ⟨rfl, hB⟩
    · have y2 : ((er2 : Int) != 0) = true := by rw [bne_iff_ne]; omega
      go_wp2_with (first | ((go_at_call 11; with_reducible refine (T2.out _).mono ?_; rintro e w4 ⟨v2', rfl, row2, hb4⟩; replace hB := hB.trans (hb4.mono hB.size)); clear row2 hb4) | (go_at_call 12; refine (known_calls _).mono ?_; rintro e w5 ⟨rfl, hb⟩; replace hB := hB.trans (hb.mono hB.size); clear hb))
      go_ret
      exact ⟨rfl, hB⟩
  · have y1 : ((er1 : Int) != 0) = true := by rw [bne_iff_ne]; omega
    go_wp2_with (first | ((go_at_call 11; with_reducible refine (T2.out _).mono ?_; rintro e w4 ⟨v2', rfl, row2, hb4⟩; replace hB := hB.trans (hb4.mono hB.size)); clear row2 hb4) | (go_at_call 12; refine (known_calls _).mono ?_; rintro e w5 ⟨rfl, hb⟩; replace hB := hB.trans (hb.mono hB.size); clear hb))
    go_ret
    exact ⟨rfl, hB⟩
end Go.Proofs.YtfaocpcbejgfjaaDoor
