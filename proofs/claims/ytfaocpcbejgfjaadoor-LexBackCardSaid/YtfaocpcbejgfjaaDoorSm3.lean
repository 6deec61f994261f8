/- Join and Right of any list of tokens. Its condition: how the tokens lie in memory; a text of at most 10^6 bytes. -/
import Derived.Test.YtfaocpcbejgfjaaDoorSm2
namespace Go.Proofs.YtfaocpcbejgfjaaDoor
open Go.RowKit Go.Sub

theorem isB_below {T e : TypeId} {B b : Nat} {bs : List Value} {w w' : World} (h : Lib.IsBuilder T e B b bs w) (hb : Below w.heap.size w w') : Lib.IsBuilder T e B b bs w' := by
  have k : Keeps (fun _ => False) w w' := Keeps.of_below' hb
  rcases h with ⟨h1, v, h2, h3, h4⟩ | ⟨h1, v, h2, h3, h4⟩
  · exact .inl ⟨h1, v, k.heap h2 (fun h => h), ownsRow_keeps h3 k (fun _ _ h => h), h4⟩
  · exact .inr ⟨h1, v, k.heap h2 (fun h => h), ownsRow_keeps h3 k (fun _ _ h => h), h4⟩
theorem below_c2 {a b : World} {n : Nat} (h : Below n a b) (hn : a.heap.size ≤ n := by exact Nat.le_refl _) {p o : Nat} {v : Value} (hc : a.cell? ⟨p, o, none⟩ = some v) : b.cell? ⟨p, o, none⟩ = some v := (h.cell (Nat.lt_of_lt_of_le (World.block_lt_of_cell? _ _ hc) hn)).trans hc
/-- the bytes of tokens, one behind the other -/
def joinL (xs : List TokB) : List UInt8 := (xs.map fun x => x.2.data.toList).flatten
theorem joinL_take {xs : List TokB} {n : Nat} {x : TokB} (h : xs[n]? = some x) : joinL (xs.take (n + 1)) = joinL (xs.take n) ++ x.2.data.toList := by
  unfold joinL
  rw [List.take_add_one, h]
  simp
theorem joinL_le (xs : List TokB) (n : Nat) : (joinL (xs.take n)).length ≤ (joinL xs).length := by
  have h : joinL xs = joinL (xs.take n) ++ joinL (xs.drop n) := by
    unfold joinL
    rw [← List.flatten_append, ← List.map_append, List.take_append_drop]
  rw [h, List.length_append]; omega
theorem cells_app (l : List UInt8) (s : ByteArray) : Lib.byteCells l ++ Lib.strCells s = Lib.byteCells (l ++ s.data.toList) := by
  unfold Lib.byteCells Lib.strCells
  rw [List.map_append]
set_option maxHeartbeats 1000000 in
set_option maxRecDepth 100000 in
theorem join_calls (v : Value) (xs : List TokB) (w : World) (h : TokRow w v xs) (hlen : (joinL xs).length ≤ 1000000) :
    Calls Tryd.prog 18 #[v] w fun e w' => e = .returned (.string ⟨(joinL xs).toArray⟩) ∧ Below w.heap.size w w' := by
  obtain ⟨p, cap, rfl, hl, hc⟩ := h
  have hfr : Lib.IsBuilder 66 5 w.heap.size w.heap.size (Lib.byteCells (joinL (xs.take 0))) (w.alloc (.cells #[.pointer none, .slice none 0 0] 66)) := Lib.fresh_isBuilder _ _ _
  have hB0 : Below w.heap.size w (w.alloc (.cells #[.pointer none, .slice none 0 0] 66)) := (Below.refl _ _).alloc (Nat.le_refl _) _
  have Hfr := Lib.hid hfr
  have HB0 := Lib.hid hB0
  clear hfr hB0
  go_enter Tryd.func18, Tryd.ntmps18
  go_wp2
  go_loopw [8] (fun i wr => ∃ n : Nat, i = .int .i64 n ∧ n ≤ xs.length ∧ Hid (Lib.IsBuilder 66 5 w.heap.size w.heap.size (Lib.byteCells (joinL (xs.take n))) wr) ∧ Hid (Below w.heap.size w wr)) (fun i _ => xs.length - (intOf i).toNat)
  case atStart => exact ⟨0, rfl, by omega, Hfr, HB0⟩
  case round =>
    clear Hfr HB0
    obtain ⟨n, rfl, hn, HB, HW⟩ := hrel
    by_cases hlt : n < xs.length
    · obtain ⟨x, hx⟩ : ∃ x, xs[n]? = some x := ⟨_, List.getElem?_eq_getElem hlt⟩
      obtain ⟨a, o1, rfl, ca1, ca2⟩ := hc n x hx
      have d1 := below_c2 HW.out (hc := ca1)
      have d2 := below_c2 HW.out (hc := ca2)
      have Hx1 := Lib.hid (joinL_take hx)
      have hle := joinL_le xs (n + 1)
      rw [joinL_take hx, List.length_append, ← Lib.size_eq] at hle
      have hws := fun (w1 : World) (h1 : Lib.IsBuilder 66 5 w.heap.size w.heap.size (Lib.byteCells (joinL (xs.take n))) w1) (h2 : w.heap.size ≤ w1.heap.size) => writeString_calls w.heap.size w.heap.size (Lib.byteCells (joinL (xs.take n))) x.2 w1 h1 (by unfold Lib.byteCells; rw [List.length_map]; omega) h2
      have Hws := Lib.hid hws
      clear hws hc ca1 ca2 hx
      go_wp2_with (go_at_call 28; have hA : Below wr.heap.size wr (wr.alloc (.cells #[.int .i64 x.1, .string x.2] 32)) := (Below.refl _ _).alloc (Nat.le_refl _) _; refine (Hws.out _ (isB_below HB.out hA) (Nat.le_trans HW.out.size hA.size)).mono ?_; rintro e w1 ⟨rfl, h3, h4⟩; have H3 := Lib.hid h3; have H4 := Lib.hid ((HW.out.trans (hA.mono HW.out.size)).trans h4); clear hA h3 h4)
      go_roundw
      case rel => exact ⟨n + 1, by go_num, by omega, Lib.hid (by rw [Hx1.out, ← cells_app]; exact .inr H3.out), H4⟩
      case measure => simp only [intOf]; omega
    · obtain rfl : n = xs.length := by omega
      have hst := fun (w1 : World) (h1 : Lib.IsBuilder 66 5 w.heap.size w.heap.size (Lib.byteCells (joinL (xs.take xs.length))) w1) (h2 : w.heap.size ≤ w1.heap.size) => Tryd.Builder_String_any w.heap.size w.heap.size _ w1 h1 h2
      have Hst := Lib.hid (hst wr HB.out HW.out.size)
      clear hst hc
      go_wp2_with (go_at_call 29; refine (Hst.out).mono ?_; rintro e w1 ⟨rfl, h4⟩; have H4 := Lib.hid (HW.out.trans h4); clear h4)
      go_ret
      exact ⟨rfl, H4.out⟩
/-- are they those of their text? -/
def rightB (xs : List TokB) : Bool := decide ((tokensN ⟨(joinL xs).toArray⟩).2.1 = 0) && decide (xs = (tokensN ⟨(joinL xs).toArray⟩).1.map (tokB (joinL xs)))
set_option maxHeartbeats 1000000 in
set_option maxRecDepth 100000 in
theorem right_calls (v : Value) (xs : List TokB) (w : World) (h : TokRow w v xs) (hlen : (joinL xs).length ≤ 1000000) :
    Calls Tryd.prog 19 #[v] w fun e w' => e = .returned (.bool (rightB xs)) ∧ Below w.heap.size w w' := by
  obtain ⟨J, hJ⟩ : ∃ J : ByteArray, (⟨(joinL xs).toArray⟩ : ByteArray) = J := ⟨_, rfl⟩
  have hJd : J.data.toList = joinL xs := by rw [← hJ]
  have hJs : J.size < 4611686018427387904 := by rw [Lib.size_eq, hJd]; omega
  have hj := join_calls v xs w h hlen
  have ht := fun w1 => tokens_calls J w1 hJs
  have hr : rightB xs = (decide ((tokensN J).2.1 = 0) && decide (xs = (tokensN J).1.map (tokB (joinL xs)))) := by unfold rightB; rw [hJ]
  have hn : (tokensN J).1.length ≤ 1000000 := by
    unfold tokensN
    split
    · simp
    · split
      · simp
      · split
        · obtain ⟨ys, b, st2, inn2, er, h1, h2, h3⟩ := lex_whole J.data.toList
          rw [← Lib.size_eq] at h2
          rw [h2]
          have := reach_facts h1
          rw [hJd] at this
          dsimp only
          omega
        · simp
  rw [hr]
  rw [hJ] at hj
  generalize tokensN J = r at *
  obtain ⟨ys, er, z⟩ := r
  dsimp only at *
  have Hj := Lib.hid hj
  have Ht := Lib.hid ht
  have Hh := Lib.hid h
  have HJd := Lib.hid hJd
  have Hn := Lib.hid hn
  clear hJ hj ht h hJd hr hn
  by_cases he : er = 0
  · subst he
    go_enter Tryd.func19, Tryd.ntmps19
    go_wp2_with (first
      | (go_at_call 18; refine (Hj.out).mono ?_; rintro e w1 ⟨rfl, hb⟩; have Hb1 := Lib.hid hb; clear hb)
      | (go_at_call 11; refine (Ht.out _).mono ?_; rintro e w2 ⟨v2, rfl, hrow, hb⟩; have Hb2 := Lib.hid (Hb1.out.trans (hb.mono Hb1.out.size)); have Hrow := Lib.hid hrow; clear hb hrow)
      | (go_at_call 30; have hrow := Hrow.out; rw [HJd.out] at hrow; refine (equal_calls _ _ xs (ys.map (tokB (joinL xs))) _ (Hh.out.below Hb2.out) (tokRow_own hrow (by have := Hn.out; omega))).mono ?_; rintro e w3 ⟨rfl, hb⟩; have Hb3 := Lib.hid (Hb2.out.trans (hb.mono Hb2.out.size)); clear hb hrow))
    go_ret
    exact ⟨by simp, Hb3.out⟩
  · have y1 : ((er : Int) == 0) = false := by rw [beq_eq_false_iff_ne]; omega
    have y2 : ((er : Int) = 0) = False := by apply eq_false; omega
    rw [decide_eq_false he, Bool.false_and]
    go_enter Tryd.func19, Tryd.ntmps19
    go_wp2_with (first
      | (go_at_call 18; refine (Hj.out).mono ?_; rintro e w1 ⟨rfl, hb⟩; have Hb1 := Lib.hid hb; clear hb)
      | (go_at_call 11; refine (Ht.out _).mono ?_; rintro e w2 ⟨v2, rfl, hrow, hb⟩; have Hb2 := Lib.hid (Hb1.out.trans (hb.mono Hb1.out.size)); clear hb hrow))
    go_ret
    exact ⟨rfl, Hb2.out⟩
end Go.Proofs.YtfaocpcbejgfjaaDoor
