/- How a tree of nodes comes in, and a path. No condition but the bound on what an argument may reach. -/
import Derived.Test.YtigpffbhkopjeaaDoorDn1
import Derived.Test.YtigpffbhkopjeaaDoorNd29
import Derived.Test.YtigpffbhkopjeaaDoorNd36
import Derived.Deep.Strs
import Derived.Deep.Slices
namespace Go.Proofs.YtigpffbhkopjeaaDoor
open Go.ChangeShapes Go.WideShapes Go.ChangeAt Go.RowKit Go.Sub Go.Lib Go.Deep Go.Joins

theorem cells25 : Tryd.prog.cellsOf 25 = 3 := by kernel_rfl
theorem cells3 : Tryd.prog.cellsOf 3 = 1 := by kernel_rfl
theorem bytes25 : Tryd.prog.bytesOf 25 = 48 := by kernel_rfl
theorem bytes3 : Tryd.prog.bytesOf 3 = 8 := by kernel_rfl
/-- no part of it is larger than what an argument may reach -/
def Fits {H : Type} (t : TypeId) (d : DataW H) : Prop := ∀ z ∈ d.weights Tryd.prog t, z ≤ reachBytes
theorem mem_weightsAll {H : Type} {P : Program} {e : TypeId} : ∀ {l : List (DataW H)} {d : DataW H} {z : Nat}, d ∈ l → z ∈ d.weights P e → z ∈ DataW.weightsAll P e l
  | [], _, _, h, _ => by cases h
  | x :: r, d, z, h, hz => by
    rw [DataW.weightsAll, List.mem_append]
    rcases List.mem_cons.1 h with rfl | h
    · exact .inl hz
    · exact .inr (mem_weightsAll h hz)
theorem fits_slice {H : Type} {t e : TypeId} {elems rest : List (DataW H)} (ht : Tryd.prog.underlying t = some (.slice e)) (h : Fits t (.slice elems rest)) : elems.length * Tryd.prog.bytesOf e ≤ reachBytes ∧ ∀ d ∈ elems, Fits e d := by
  unfold Fits at h
  rw [DataW.weights, ht] at h
  refine ⟨?_, fun d hd z hz => h z ?_⟩
  · have h0 := h _ (List.mem_cons_self ..)
    exact Nat.le_trans (Nat.mul_le_mul_right _ (Nat.le_add_right _ _)) h0
  · exact List.mem_cons_of_mem _ (List.mem_append_left _ (mem_weightsAll hd hz))
theorem fits_agg3 {H : Type} {t : TypeId} {f0 f1 f2 : Field} {y0 y1 y2 : DataW H} (ht : Tryd.prog.underlying t = some (.struct #[f0, f1, f2])) (h : Fits t (.agg [y0, y1, y2])) : Fits f1.type y1 ∧ Fits f2.type y2 := by
  unfold Fits at h ⊢
  rw [DataW.weights, ht] at h
  simp only [List.map_cons, List.map_nil, DataW.weightsEach, List.mem_append] at h
  exact ⟨fun z hz => h z (.inr (.inl hz)), fun z hz => h z (.inr (.inr (.inl hz)))⟩
theorem fits_string {H : Type} {t : TypeId} {b : List UInt8} (h : Fits (H := H) t (.lit (.string b))) : b.length ≤ reachBytes := h _ (by rw [DataW.weights]; exact List.mem_singleton.2 rfl)
theorem tmaxL_le {M : Nat} : ∀ {l : List NodeT}, (∀ x ∈ l, tmaxN x ≤ M) → tmaxL l ≤ M
  | [], _ => by rw [tmaxL]; exact Nat.zero_le _
  | x :: r, h => by
    rw [tmaxL]
    exact Nat.max_le.2 ⟨h x (by simp), tmaxL_le fun y hy => h y (List.mem_cons_of_mem _ hy)⟩
theorem plain_of_cell {w : World} {a : Addr} {v : Value} (h : w.cell? a = some v) : a = ⟨a.block, a.off, none⟩ := by
  obtain ⟨b, o, s⟩ := a
  obtain rfl : s = none := World.cell?_spot h
  rfl
def GoodArg (n : NodeT) : Prop := WideN n ∧ tmaxN n ≤ reachBytes
set_option maxRecDepth 100000 in
/-- a row of nodes that is handed in -/
theorem kids_open {H : Type} {enc : TypeId × Value → H} {W : World} {sp : Nat → Bool} : ∀ (fuel : Nat) (cs : List Value) (x : DataW H × List MemPlace), DataW.trod enc Tryd.prog W 0 sp true fuel 23 cs = some x → Fits 23 x.1 →
    ∃ u l, cs = [u] ∧ KidsAt W (fun _ => True) u l ∧ ∀ y ∈ l, GoodArg y := by
  intro fuel
  induction fuel using Nat.strongRecOn with
  | _ fuel ih =>
    intro cs x h hf
    rcases DataW.trod_slice Tryd.underlying23 h with ⟨rfl, rfl⟩ | ⟨a, len, cap, elems, rest, n, rfl, rfl, rfl, hb, hl, hm, hlen, hel, -, -⟩
    · exact ⟨_, [], rfl, KidsAt.nil _ _, fun y hy => by cases hy⟩
    · rw [cells25] at hel
      obtain ⟨hf1, hf2⟩ := fits_slice Tryd.underlying23 hf
      rw [bytes25, List.length_map] at hf1
      have each : ∀ i, i < len → ∃ q : NodeT × Value, W.cell? (a.add (i * 3)) = some (.int .i64 q.1.kind) ∧ W.cell? ((a.add (i * 3)).add 1) = some (.string q.1.text) ∧ W.cell? ((a.add (i * 3)).add 2) = some q.2 ∧ KidsAt W (fun _ => True) q.2 q.1.kids ∧ GoodArg q.1 := by
        intro i hi
        have he := hel i hi
        rw [List.getElem?_eq_getElem (by omega)] at he
        obtain ⟨cs', hc, hd⟩ := Option.bind_eq_some_iff.1 he
        obtain ⟨_, hcl, hcell⟩ := World.cells?_some hc
        have hfi := hf2 (elems[i]'(by omega)).1 (List.mem_map.2 ⟨_, List.getElem_mem _, rfl⟩)
        obtain ⟨xs, m, hm', hx', -, hxl, hfs⟩ := DataW.trod_struct Tryd.underlying25 hd
        rw [hx'] at hfi
        match cs', hcl with
        | [v0, v1, v2], _ =>
        match xs, hxl with
        | [y0, y1, y2], _ =>
        have g0 := hfs 0 _ rfl
        have g1 := hfs 1 _ rfl
        have g2 := hfs 2 _ rfl
        simp only [List.getElem?_cons_zero, List.getElem?_cons_succ] at g0 g1 g2
        obtain ⟨fi1, fi2⟩ := fits_agg3 Tryd.underlying25 hfi
        obtain ⟨z, e0, -, hz⟩ := DataW.trod_int Tryd.underlying3 g0
        obtain ⟨s, e1, hy1, -⟩ := DataW.trod_string Tryd.underlying9 g1
        obtain ⟨u, l, e2, hk, hg⟩ := ih m (by omega) _ _ g2 fi2
        cases e0
        cases e1
        cases e2
        have hs : s.size ≤ reachBytes := by
          rw [hy1] at fi1
          have := fits_string fi1
          rwa [Array.length_toList] at this
        refine ⟨(.mk z s l, v2), hcell 0 (by omega), hcell 1 (by omega), hcell 2 (by omega), hk, wide_mk ?_ (fun y hy => (hg y hy).1), ?_⟩
        · simpa [inI64, Lit.wf, IntKind.min, IntKind.max, IntKind.signed, IntKind.bits] using hz
        · rw [tmaxN]
          exact Nat.max_le.2 ⟨hs, tmaxL_le fun y hy => (hg y hy).2⟩
      by_cases h0 : len = 0
      · subst h0
        exact ⟨_, [], rfl, .mk _ _ [] 0 0 (fun _ => .slice none 0 0) (fun h => absurd h (by simp)) (by simp) (fun i x hx => by simp at hx) (fun i x hx => by simp at hx), fun y hy => by cases hy⟩
      · have hch : ∀ i, ∃ q : NodeT × Value, i < len → W.cell? (a.add (i * 3)) = some (.int .i64 q.1.kind) ∧ W.cell? ((a.add (i * 3)).add 1) = some (.string q.1.text) ∧ W.cell? ((a.add (i * 3)).add 2) = some q.2 ∧ KidsAt W (fun _ => True) q.2 q.1.kids ∧ GoodArg q.1 := fun i => by
          by_cases hi : i < len
          · obtain ⟨q, hq⟩ := each i hi; exact ⟨q, fun _ => hq⟩
          · exact ⟨(zeroN, .slice none 0 0), fun h => absurd h hi⟩
        obtain ⟨q, hq⟩ := Classical.axiomOfChoice hch
        have ha : a = ⟨a.block, a.off, none⟩ := by
          have := (hq 0 (by omega)).1
          rw [Nat.zero_mul, show a.add 0 = a by unfold Addr.add; simp] at this
          exact plain_of_cell this
        obtain ⟨b, o, s⟩ := a
        cases ha
        have hget : ∀ i x, ((List.range len).map fun i => (q i).1)[i]? = some x → i < len ∧ x = (q i).1 := fun i x hx => by
          rw [List.getElem?_map, Option.map_eq_some_iff] at hx
          obtain ⟨j, hj, rfl⟩ := hx
          obtain ⟨h1, h2⟩ := List.getElem?_eq_some_iff.1 hj
          simp at h1 h2
          exact ⟨h1, by rw [h2]⟩
        have hadd : ∀ i k, ((⟨b, o, none⟩ : Addr).add (i * 3)).add k = ⟨b, o + i * 3 + k, none⟩ := fun i k => by
          have e1 : ∀ (o j : Nat), (⟨b, o, none⟩ : Addr).add j = ⟨b, o + j, none⟩ := fun o j => by unfold Addr.add; split <;> simp_all
          rw [e1, e1]
        have hadd0 : ∀ i, (⟨b, o, none⟩ : Addr).add (i * 3) = ⟨b, o + i * 3, none⟩ := fun i => by unfold Addr.add; split <;> simp_all
        have hll : ((List.range len).map fun i => (q i).1).length = len := by simp
        refine ⟨_, (List.range len).map fun i => (q i).1, rfl, ?_, fun y hy => ?_⟩
        · have := KidsAt.mk (w := W) (S := fun _ => True) (some ⟨b, o, none⟩) cap ((List.range len).map fun i => (q i).1) b o (fun i => (q i).2) (fun _ => ⟨rfl, trivial⟩) (by rw [hll]; unfold reachBytes at hf1; omega)
            (fun i x hx => by
              obtain ⟨hi, rfl⟩ := hget i x hx
              obtain ⟨c0, c1, c2, -⟩ := hq i hi
              rw [hadd0] at c0
              rw [hadd] at c1 c2
              exact ⟨c0, c1, c2⟩)
            (fun i x hx => by
              obtain ⟨hi, rfl⟩ := hget i x hx
              exact (hq i hi).2.2.2.1)
          rwa [hll] at this
        · obtain ⟨i, hi, rfl⟩ := List.mem_map.1 hy
          exact (hq i (List.mem_range.1 hi)).2.2.2.2
set_option maxRecDepth 100000 in
/-- a node that is handed in -/
theorem node_open {H : Type} {enc : TypeId × Value → H} {W : World} {r : Go.Reach} {b0 : Nat} {sp : Nat → Bool} {v : Value} {d : DataW H} {ps : List MemPlace}
    (hval : Value.okWide Tryd.prog W r b0 25 v) (hd : DataW.Trod enc Tryd.prog W 0 sp true 25 v d ps) (hf : Fits 25 d) :
    ∃ n u, v = nodeV n u ∧ KidsAt W (fun _ => True) u n.kids ∧ GoodArg n := by
  obtain ⟨v0, v1, v2, y0, y1, y2, m, rfl, rfl, rfl, g0, g1, g2⟩ := open_agg3 Tryd.underlying25 (by kernel_rfl) cells25 hval hd
  obtain ⟨fi1, fi2⟩ := fits_agg3 Tryd.underlying25 hf
  obtain ⟨z, e0, -, hz⟩ := DataW.trod_int Tryd.underlying3 g0
  obtain ⟨s, e1, hy1, -⟩ := DataW.trod_string Tryd.underlying9 g1
  obtain ⟨u, l, e2, hk, hg⟩ := kids_open m _ _ g2 fi2
  cases e0
  cases e1
  cases e2
  have hs : s.size ≤ reachBytes := by
    rw [hy1] at fi1
    have := fits_string fi1
    rwa [Array.length_toList] at this
  refine ⟨.mk z s l, v2, rfl, hk, wide_mk ?_ (fun y hy => (hg y hy).1), ?_⟩
  · simpa [inI64, Lit.wf, IntKind.min, IntKind.max, IntKind.signed, IntKind.bits] using hz
  · rw [tmaxN]
    exact Nat.max_le.2 ⟨hs, tmaxL_le fun y hy => (hg y hy).2⟩
set_option maxRecDepth 100000 in
/-- a path that is handed in -/
theorem path_open {H : Type} {enc : TypeId × Value → H} {W : World} {r : Go.Reach} {b0 : Nat} {sp : Nat → Bool} {v : Value} {d : DataW H} {ps : List MemPlace}
    (hval : Value.okWide Tryd.prog W r b0 37 v) (hd : DataW.Trod enc Tryd.prog W 0 sp true 37 v d ps) (hf : Fits 37 d) :
    ∃ xs, PathAt W (fun _ => True) v xs := by
  obtain ⟨a0, len0, cap0, rfl⟩ := okWide_slice Tryd.underlying37 hval
  obtain ⟨fuel, h⟩ := hd
  simp only [Value.cells] at h
  rcases DataW.trod_slice Tryd.underlying37 h with ⟨hcs, hx⟩ | ⟨a, len, cap, elems, rest, n, rfl, hcs, hx, hb, hl, hm, hlen, hel, -, -⟩
  · cases hcs
    exact ⟨[], ⟨none, 0, 0, 0, rfl, fun h => absurd h (by simp), by simp, fun i x hx => by simp at hx⟩, _, _, _, rfl, Nat.le_refl _⟩
  · cases hcs
    obtain ⟨hxd, -⟩ := Prod.mk.inj hx
    subst hxd
    rw [cells3] at hel
    obtain ⟨hf1, -⟩ := fits_slice Tryd.underlying37 hf
    rw [bytes3, List.length_map] at hf1
    have each : ∀ i, ∃ z : Int, i < len0 → W.cell? (a.add i) = some (.int .i64 z) := fun i => by
      by_cases hi : i < len0
      · have he := hel i hi
        rw [List.getElem?_eq_getElem (by omega), Nat.mul_one] at he
        obtain ⟨cs', hc, hd⟩ := Option.bind_eq_some_iff.1 he
        obtain ⟨_, hcl, hcell⟩ := World.cells?_some hc
        obtain ⟨z, e0, -, hz⟩ := DataW.trod_int Tryd.underlying3 hd
        subst e0
        have := hcell 0 (by omega)
        rw [show (a.add i).add 0 = a.add i by unfold Addr.add; simp] at this
        exact ⟨z, fun _ => this⟩
      · exact ⟨0, fun h => absurd h hi⟩
    obtain ⟨z, hz⟩ := Classical.axiomOfChoice each
    have hll : ((List.range len0).map z).length = len0 := by simp
    have hget : ∀ i x, ((List.range len0).map z)[i]? = some x → i < len0 ∧ x = z i := fun i x hx => by
      rw [List.getElem?_map, Option.map_eq_some_iff] at hx
      obtain ⟨j, hj, rfl⟩ := hx
      obtain ⟨h1, h2⟩ := List.getElem?_eq_some_iff.1 hj
      simp at h1 h2
      exact ⟨h1, by rw [h2]⟩
    refine ⟨(List.range len0).map z, ⟨some a, cap0, a.block, a.off, by rw [hll], fun h0 => ⟨?_, trivial⟩, by rw [hll]; unfold reachBytes at hf1; omega, fun i x hx => ?_⟩, _, _, _, rfl, by rw [hll]; exact hl⟩
    · rw [hll] at h0
      have := hz 0 h0
      rw [show a.add 0 = a by unfold Addr.add; simp] at this
      rw [← plain_of_cell this]
    · obtain ⟨hi, rfl⟩ := hget i x hx
      have h0 := hz 0 (by omega)
      rw [show a.add 0 = a by unfold Addr.add; simp] at h0
      have ha := plain_of_cell h0
      have := hz i hi
      obtain ⟨b, o, s⟩ := a
      cases ha
      rwa [show (⟨b, o, none⟩ : Addr).add i = ⟨b, o + i, none⟩ by unfold Addr.add; split <;> simp_all] at this
end Go.Proofs.YtigpffbhkopjeaaDoor
