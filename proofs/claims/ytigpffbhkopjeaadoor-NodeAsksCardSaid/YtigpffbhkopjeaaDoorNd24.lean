/- A tree with another node at a path: the document's answer. Its condition: how the trees and the path lie in memory; at most 10^9 nodes. -/
import Derived.Test.YtigpffbhkopjeaaDoorNd23
import Derived.Test.YtigpffbhkopjeaaDoorNd28
import Derived.Deep.RegionHeld3
import Derived.Deep.Cut
namespace Go.Sub
open Go.RowKit

theorem node_cells (w : World) (b : Nat) : ∀ (l : List NodeT) (us : List Value) (o : Nat), us.length = l.length → (∀ (i : Nat) x u, l[i]? = some x → us[i]? = some u → NCells w b (o + i * 3) x.kind x.text u) → ∀ (j : Nat) v, (nodeC l us)[j]? = some v → w.cell? ⟨b, o + j, none⟩ = some v
  | [], us, o, h, _, j, v, hv => by simp [nodeC] at hv
  | x :: r, [], o, h, _, j, v, hv => by simp at h
  | x :: r, u :: us, o, h, hc, j, v, hv => by
    obtain ⟨c0, c1, c2⟩ := hc 0 x u rfl rfl
    simp only [nodeC] at hv
    match j, hv with
    | 0, hv => simp at hv; subst hv; simpa using c0
    | 1, hv => simp at hv; subst hv; simpa using c1
    | 2, hv => simp at hv; subst hv; simpa using c2
    | j + 3, hv =>
      simp only [List.getElem?_cons_succ] at hv
      have := node_cells w b r us (o + 3) (by simpa using h) (fun i y z hy hz => by rw [show o + 3 + i * 3 = o + (i + 1) * 3 by omega]; exact hc (i + 1) y z hy hz) j v hv
      rw [show o + (j + 3) = o + 3 + j by omega]; exact this
/-- the row of the kids, as cells -/
theorem KidsAt.row {w : World} {S : Nat → Prop} {p : Option Addr} {n cap : Nat} {l : List NodeT} (h : KidsAt w S (.slice p n cap) l) (h0 : 0 < l.length) :
    ∃ (b o : Nat) (us : List Value), p = some ⟨b, o, none⟩ ∧ S b ∧ us.length = l.length ∧ (∀ (j : Nat) u, (nodeC l us)[j]? = some u → w.cell? ((⟨b, o, none⟩ : Addr).add j) = some u) ∧ (∀ (i : Nat) x u, l[i]? = some x → us[i]? = some u → KidsAt w S u x.kids) := by
  generalize hv : Value.slice p n cap = v at h
  cases h with
  | mk p' cap' l b o us hp hlen hc hk =>
    cases hv
    have hget : ∀ (i : Nat) u, ((List.range l.length).map us)[i]? = some u → u = us i := fun i u hu => by
      rw [List.getElem?_map] at hu
      obtain ⟨k, hk, rfl⟩ := Option.map_eq_some_iff.1 hu
      have := (List.getElem?_eq_some_iff.1 hk).2
      rw [List.getElem_range] at this; rw [this]
    refine ⟨b, o, (List.range l.length).map us, (hp h0).1, (hp h0).2, by simp, fun j u hu => ?_, fun i x u hx hu => ?_⟩
    · have := node_cells w b l ((List.range l.length).map us) o (by simp) (fun i x u hx hu => by rw [hget i u hu]; exact hc i x hx) j u hu
      rw [show (⟨b, o, none⟩ : Addr).add j = ⟨b, o + j, none⟩ by unfold Addr.add; split <;> simp_all]
      exact this
    · rw [hget i u hu]; exact hk i x hx
theorem KidsAt.one {w : World} {S : Nat → Prop} {u : Value} {l : List NodeT} (h : KidsAt w S u l) : u.oneCell' = true := by
  cases h; rfl
theorem heap_lt' {w : World} {b : Nat} {o : Obj} (h : w.heap[b]? = some o) : b < w.heap.size := (Array.getElem?_eq_some_iff.1 h).1
theorem own_pos {w : World} {base : Nat} {e : TypeId} {sz n : Nat} {v : Value} {xs : List Value} (h : w.ownsRow base e sz v n xs) (h0 : 0 < n) : ∃ g cap, v = .slice (some ⟨g, 0, none⟩) n cap ∧ Loose w g ∧ base ≤ g ∧ g < w.heap.size ∧ n ≤ cap := by
  rcases h.2 with ⟨_, h1⟩ | ⟨g, cap, cur, rfl, hb, hg, hnc, _⟩
  · omega
  · exact ⟨g, cap, rfl, ⟨_, _, hg⟩, hb, heap_lt' hg, hnc⟩
/-- one node of a row turned -/
theorem KidsAt.set {w : World} {base : Nat} {e : TypeId} {S S' : Nat → Prop} {g cap : Nat} {l : List NodeT} {us : List Value} (h : w.ownsRow base e 3 (.slice (some ⟨g, 0, none⟩) l.length cap) l.length (nodeC l us)) (hl : us.length = l.length) (hn : l.length ≤ 4611686018427387904) (hg : Loose w g)
    (hk : ∀ (i : Nat) x u, l[i]? = some x → us[i]? = some u → KidsAt w S u x.kids) {i : Nat} {o : NodeT} (hi : l[i]? = some o) (y : NodeT) (uy : Value) (hy : KidsAt w S uy y.kids) (hSg : S' g) (hno : ∀ c, S c → c ≠ g) (hS : ∀ c, S c → S' c) :
    ∀ w', ((w.setCell ⟨g, i * 3, none⟩ (.int .i64 y.kind)).setCell ⟨g, i * 3 + 1, none⟩ (.string y.text)).setCell ⟨g, i * 3 + 2, none⟩ uy = w' → KidsAt w' S' (.slice (some ⟨g, 0, none⟩) l.length cap) (l.set i y) ∧ Keeps (fun d => d = g) w w' := by
  intro w' hw'
  have hget : ∀ i x, l[i]? = some x → us[i]? = some (us.getD i (.slice none 0 0)) := fun i x hx => by
    have hi : i < us.length := by have := (List.getElem?_eq_some_iff.1 hx).1; omega
    rw [List.getD_eq_getElem?_getD, List.getElem?_eq_getElem hi]; rfl
  have cells : ∀ (j : Nat) x, l[j]? = some x → NCells w g (j * 3) x.kind x.text (us.getD j (.slice none 0 0)) := fun j x hx => by
    obtain ⟨c0, c1, c2⟩ := nodeC_get hx (hget j x hx)
    have cell : ∀ j c, (nodeC l us)[j]? = some c → w.cell? ⟨g, j, none⟩ = some c := fun j c hc => by
      have hx := (World.ownsRow.cells (g := g) h rfl) j c hc
      rwa [addr_zero] at hx
    exact ⟨cell _ _ c0, cell _ _ c1, cell _ _ c2⟩
  obtain ⟨p1, p2, p3, p4, p5⟩ := put3 w g (i * 3) (cells i o hi) hg (.int .i64 y.kind) (.string y.text) uy w' hw'
  have keep : ∀ {u : Value} {l2 : List NodeT}, KidsAt w S u l2 → KidsAt w' S' u l2 := fun h => (h.keeps p3 fun b hb => hno b hb).mono hS
  have hlen : (l.set i y).length = l.length := List.length_set
  have hlt := (List.getElem?_eq_some_iff.1 hi).1
  refine ⟨?_, p3⟩
  rw [← hlen]
  refine .mk _ cap (l.set i y) g 0 (fun j => if j = i then uy else us.getD j (.slice none 0 0)) (fun _ => ⟨rfl, hSg⟩) (by omega) (fun j x hx => ?_) (fun j x hx => ?_)
  · rw [List.getElem?_set] at hx
    by_cases hj : j = i
    · subst hj
      rw [if_pos rfl, if_pos hlt] at hx
      cases hx
      rw [if_pos rfl, Nat.zero_add]
      exact p1
    · rw [if_neg (fun e => hj e.symm)] at hx
      rw [if_neg hj, Nat.zero_add]
      obtain ⟨c0, c1, c2⟩ := cells j x hx
      exact ⟨p2 g _ _ (by omega) c0, p2 g _ _ (by omega) c1, p2 g _ _ (by omega) c2⟩
  · rw [List.getElem?_set] at hx
    by_cases hj : j = i
    · subst hj
      rw [if_pos rfl, if_pos hlt] at hx
      cases hx
      rw [if_pos rfl]
      exact keep hy
    · rw [if_neg (fun e => hj e.symm)] at hx
      rw [if_neg hj]
      exact keep (hk j x _ hx (hget j x hx))
end Go.Sub
namespace Go.Proofs.YtigpffbhkopjeaaDoor
open Go.RowKit Go.Sub Go.Sort

/-- a path of which the rest may be cut -/
def PathAt (w : World) (S : Nat → Prop) (v : Value) (xs : List Int) : Prop := IntsAt w S v xs ∧ ∃ p n cap, v = .slice p n cap ∧ xs.length ≤ cap
theorem PathAt.tail {w : World} {S : Nat → Prop} {p : Option Addr} {n cap : Nat} {x : Int} {xs : List Int} (h : PathAt w S (.slice p n cap) (x :: xs)) :
    ∃ b o, p = some ⟨b, o, none⟩ ∧ n = xs.length + 1 ∧ n ≤ cap ∧ n ≤ 4611686018427387904 ∧ w.cell? ⟨b, o, none⟩ = some (.int .i64 x) ∧ ∃ ad, (if cap = 1 then (some ⟨b, o, none⟩ : Option Addr) else some ⟨b, o + 1, none⟩) = some ⟨b, ad, none⟩ ∧ PathAt w S (.slice (some ⟨b, ad, none⟩) xs.length (cap - 1)) xs := by
  obtain ⟨⟨p', cap', b, o, e, hp, hl, hc⟩, p2, n2, c2, e2, hc2⟩ := h
  injection e with e3 e4 e5
  injection e2 with e6 e7 e8
  subst e3 e4 e5
  have hp1 := hp (by simp)
  rw [List.length_cons] at hc2 hl ⊢
  refine ⟨b, o, hp1.1, rfl, by omega, hl, by simpa using hc 0 x rfl, if cap = 1 then o else o + 1, by split <;> rfl, ⟨some ⟨b, _, none⟩, cap - 1, b, if cap = 1 then o else o + 1, rfl, fun _ => ⟨rfl, hp1.2⟩, by omega, fun i y hy => ?_⟩, _, _, _, rfl, by omega⟩
  have hi := (List.getElem?_eq_some_iff.1 hy).1
  rw [if_neg (by omega), show o + 1 + i = o + (i + 1) by omega]
  exact hc (i + 1) y (by simpa using hy)
theorem nodeC_len : ∀ {l : List NodeT} {us : List Value}, us.length = l.length → (nodeC l us).length = l.length * 3
  | [], _, _ => by simp [nodeC]
  | x :: r, [], h => by simp at h
  | x :: r, u :: us, h => by
    have := nodeC_len (l := r) (us := us) (by simpa using h)
    simp only [nodeC, List.length_cons, this]; omega
def RWithPost (w : World) (S : Nat → Prop) (r : Option NodeT) (e : Ending) (w' : World) : Prop :=
  ∃ u, e = .returned (.tuple #[nodeV (r.getD zeroN) u, .bool r.isSome]) ∧ KidsAt w' (fun c => S c ∨ w.heap.size ≤ c) u (r.getD zeroN).kids ∧ Below w.heap.size w w'
set_option maxRecDepth 100000 in
set_option maxHeartbeats 2000000 in
theorem rwith_calls : ∀ (path : List Int) (n x : NodeT) (u ux v : Value) (w : World) (S S' : Nat → Prop), KidsAt w S u n.kids → KidsAt w S ux x.kids → PathAt w S' v path → countN n ≤ 1000000000 →
    Calls Tryd.prog 44 #[nodeV n u, v, nodeV x ux] w (RWithPost w S (withN n path x)) := by
  intro path
  induction path with
  | nil =>
    intro n x u ux v w S S' hu hux hv hn
    obtain ⟨pv, cv, rfl, lv⟩ := hv.1.shape
    obtain ⟨pu, cu, rfl, lu⟩ := hu.shape
    obtain ⟨px, cx, rfl, lx⟩ := hux.shape
    obtain ⟨w1, hw1⟩ : ∃ w1, w.alloc (.cells #[.int .i64 n.kind, .string n.text, .slice pu n.kids.length cu] 25) = w1 := ⟨_, rfl⟩
    obtain ⟨w2, hw2⟩ : ∃ w2, w1.alloc (.cells #[.int .i64 x.kind, .string x.text, .slice px x.kids.length cx] 25) = w2 := ⟨_, rfl⟩
    obtain ⟨w3, hw3⟩ : ∃ w3, w2.alloc (.cells #[.int .i64 0, .string ⟨#[]⟩, .slice none 0 0] 25) = w3 := ⟨_, rfl⟩
    have g1 : Below w.heap.size w w1 := by rw [← hw1]; exact (Below.refl _ w).alloc (Nat.le_refl _) _
    have g2 : Below w1.heap.size w1 w2 := by rw [← hw2]; exact (Below.refl _ w1).alloc (Nat.le_refl _) _
    have g3 : Below w2.heap.size w2 w3 := by rw [← hw3]; exact (Below.refl _ w2).alloc (Nat.le_refl _) _
    have z1 : w1.heap.size = w.heap.size + 1 := by rw [← hw1]; simp
    have z2 : w2.heap.size = w.heap.size + 2 := by rw [← hw2]; simp [z1]
    have z3 : w3.heap.size = w.heap.size + 3 := by rw [← hw3]; simp [z2]
    have b1 := nbox_new w 25 n.kind n.text (.slice pu n.kids.length cu)
    rw [hw1] at b1
    have b2 := nbox_new w1 25 x.kind x.text (.slice px x.kids.length cx)
    rw [hw2, z1] at b2
    have b3 := nbox_new w2 25 0 ⟨#[]⟩ (.slice none 0 0)
    rw [hw3, z2] at b3
    replace b1 := (b1.stays g2).stays g3
    replace b2 := b2.stays g3
    have gA : Below w.heap.size w w3 := g1.trans ((g2.mono (by omega)).trans (g3.mono (by omega)))
    have HU := Lib.hid (hu.within.stays gA)
    have HUX := Lib.hid (hux.within.stays gA)
    have HA := Lib.hid gA
    have B1 := Lib.hid b1
    have B2 := Lib.hid b2
    have B3 := Lib.hid b3
    have HZ3 := Lib.hid z3
    have W1E := Lib.hid hw1
    have W2E := Lib.hid hw2
    have W3E := Lib.hid hw3
    obtain ⟨x0, x1, x2⟩ := b1.cells
    obtain ⟨y0, y1, y2⟩ := b2.cells
    obtain ⟨d0, d1, d2⟩ := b3.cells
    obtain ⟨f0, f1, f2⟩ := b3.free
    clear hu hux hv g1 g2 g3 z1 z2 z3 b1 b2 b3 gA
    unfold nodeV
    clear hw1 hw2 hw3
    rw [withN_nil]
    obtain ⟨hp1, hp⟩ := B3.out.put (k' := x.kind) (t' := x.text) (u' := .slice px x.kids.length cx)
    have HQ := Lib.hid hp1
    have HP := Lib.hid hp
    clear hp1 hp
    go_enter Tryd.func44, Tryd.ntmps44
    go_upto_region 1 with (fail)
    rw [W1E.out, W2E.out, W3E.out]
    go_wp2
    have hq := HQ.out
    have hP := HP.out
    clear HQ HP
    generalize ((w3.setCell ⟨w.heap.size + 2, 0, none⟩ (.int .i64 x.kind)).setCell ⟨w.heap.size + 2, 1, none⟩ (.string x.text)).setCell ⟨w.heap.size + 2, 2, none⟩ (.slice px x.kids.length cx) = W9 at *
    obtain ⟨q0, q1, q2⟩ := hq.cells
    have HP := Lib.hid hP
    clear hP hq
    refine bodyPost_ret (v := .tuple #[.agg #[.int .i64 x.kind, .string x.text, .slice px x.kids.length cx], .bool true]) (by simp [results, Tryd.results44, go_sem, q0, q1, q2]) rfl ⟨_, rfl, (HUX.out.keeps HP.out (fun b hb e => by have := hb.2; omega)).mono fun c hc => .inl hc.1, ?_⟩
    exact HA.out.trans (HP.out.below HA.out.size fun b hb => by omega)
  | cons z path ih =>
    have IH := Lib.hid ih
    clear ih
    intro n x u ux v w S S' hu hux hv hn
    obtain ⟨pv, cv, rfl, lv⟩ := hv.1.shape
    obtain ⟨b, o, rfl, hln, hcv, hl62, hcz, ad, had, htl⟩ := hv.tail
    obtain ⟨pu, cu, rfl, lu⟩ := hu.shape
    obtain ⟨px, cx, rfl, lx⟩ := hux.shape
    obtain ⟨w1, hw1⟩ : ∃ w1, w.alloc (.cells #[.int .i64 n.kind, .string n.text, .slice pu n.kids.length cu] 25) = w1 := ⟨_, rfl⟩
    obtain ⟨w2, hw2⟩ : ∃ w2, w1.alloc (.cells #[.int .i64 x.kind, .string x.text, .slice px x.kids.length cx] 25) = w2 := ⟨_, rfl⟩
    obtain ⟨w3, hw3⟩ : ∃ w3, w2.alloc (.cells #[.int .i64 0, .string ⟨#[]⟩, .slice none 0 0] 25) = w3 := ⟨_, rfl⟩
    have g1 : Below w.heap.size w w1 := by rw [← hw1]; exact (Below.refl _ w).alloc (Nat.le_refl _) _
    have g2 : Below w1.heap.size w1 w2 := by rw [← hw2]; exact (Below.refl _ w1).alloc (Nat.le_refl _) _
    have g3 : Below w2.heap.size w2 w3 := by rw [← hw3]; exact (Below.refl _ w2).alloc (Nat.le_refl _) _
    have z1 : w1.heap.size = w.heap.size + 1 := by rw [← hw1]; simp
    have z2 : w2.heap.size = w.heap.size + 2 := by rw [← hw2]; simp [z1]
    have z3 : w3.heap.size = w.heap.size + 3 := by rw [← hw3]; simp [z2]
    have b1 := nbox_new w 25 n.kind n.text (.slice pu n.kids.length cu)
    rw [hw1] at b1
    have b2 := nbox_new w1 25 x.kind x.text (.slice px x.kids.length cx)
    rw [hw2, z1] at b2
    have b3 := nbox_new w2 25 0 ⟨#[]⟩ (.slice none 0 0)
    rw [hw3, z2] at b3
    replace b1 := (b1.stays g2).stays g3
    replace b2 := b2.stays g3
    have gA : Below w.heap.size w w3 := g1.trans ((g2.mono (by omega)).trans (g3.mono (by omega)))
    have HU := Lib.hid (hu.within.stays gA)
    have HUX := Lib.hid (hux.within.stays gA)
    have hcz3 := (gA.cell (p := ⟨b, o, none⟩) (World.block_lt_of_cell? _ _ hcz)).trans hcz
    have HTL := Lib.hid htl
    have HA := Lib.hid gA
    have B1 := Lib.hid b1
    have B2 := Lib.hid b2
    have B3 := Lib.hid b3
    have HZ3 := Lib.hid z3
    have W1E := Lib.hid hw1
    have W2E := Lib.hid hw2
    have W3E := Lib.hid hw3
    obtain ⟨x0, x1, x2⟩ := b1.cells
    obtain ⟨y0, y1, y2⟩ := b2.cells
    obtain ⟨d0, d1, d2⟩ := b3.cells
    obtain ⟨f0, f1, f2⟩ := b3.free
    clear hu hux hv htl g1 g2 g3 z1 z2 z3 b1 b2 b3 gA hcz
    have q1 : ((path.length + 1 : Nat) : Int) = (path.length : Int) + 1 := by omega
    unfold nodeV
    clear hw1 hw2 hw3
    obtain ⟨R, hR⟩ : ∃ R, R = withN n (z :: path) x := ⟨_, rfl⟩
    rw [← hR]
    rw [withN_cons] at hR
    have HR := Lib.hid hR
    clear hR
    go_enter Tryd.func44, Tryd.ntmps44
    by_cases hz : 0 ≤ z
    · by_cases hz2 : z < n.kids.length
      · go_upto_region 1 with (fail)
        rw [W1E.out, W2E.out, W3E.out]
        obtain ⟨i, rfl⟩ : ∃ i : Nat, z = (i : Int) := ⟨z.toNat, by omega⟩
        have hil : i < n.kids.length := by omega
        have hk := List.getElem?_eq_getElem hil
        have hR := HR.out
        rw [if_pos hz, Int.toNat_natCast, hk] at hR
        clear HR
        obtain ⟨g, og, us, rfl, hSg, hul, hcells, hkids⟩ := HU.out.row (by omega)
        obtain ⟨g2, og2, ui, e2, -, a1, ax⟩ := HU.out.kid hk
        injection e2 with e2
        injection e2 with e2 e3
        subst e2 e3
        have hck := countL_mem (List.getElem_mem hil)
        rw [countN_eq] at hn
        obtain ⟨pi, ci, rfl, li⟩ := ax.shape
        have hcall := fun (wq : World) (hq : Below w3.heap.size w3 wq) => IH.out n.kids[i] x (.slice pi n.kids[i].kids.length ci) (.slice px x.kids.length cx) (.slice (some ⟨b, ad, none⟩) path.length (cv - 1)) wq (fun c => S c ∧ c < w.heap.size) S' (ax.stays hq) (HUX.out.stays hq) ⟨HTL.out.1.stays (HA.out.trans (hq.mono HA.out.size)), HTL.out.2⟩ (by omega)
        have hnl : n.kids.length ≤ 1000000000 := by have := countL_le_length n.kids; omega
        generalize n.kids[i] = k at *
        have hr0 : (some k).bind (fun k => (withN k path x).map fun y => NodeT.mk n.kind n.text (n.kids.set i y)) = (withN k path x).map fun y => NodeT.mk n.kind n.text (n.kids.set i y) := rfl
        rw [hr0] at hR
        generalize withN k path x = r at *
        have hcc : ∀ wq, Below w3.heap.size w3 wq → Calls Tryd.prog 44 #[nodeV k (.slice pi k.kids.length ci), .slice (some ⟨b, ad, none⟩) path.length (cv - 1), nodeV x (.slice px x.kids.length cx)] wq (fun e w5 => ∃ p5 c5, e = .returned (.tuple #[.agg #[.int .i64 (r.getD zeroN).kind, .string (r.getD zeroN).text, .slice p5 (r.getD zeroN).kids.length c5], .bool r.isSome]) ∧ KidsAt w5 (fun c => (S c ∧ c < w.heap.size) ∨ wq.heap.size ≤ c) (.slice p5 (r.getD zeroN).kids.length c5) (r.getD zeroN).kids ∧ Below wq.heap.size wq w5) := fun wq hq => (hcall wq hq).mono fun e w5 h => by
          obtain ⟨u5, rfl, hk5, hb5⟩ := h
          obtain ⟨p5, c5, rfl, -⟩ := hk5.shape
          exact ⟨p5, c5, rfl, hk5, hb5⟩
        obtain ⟨y, hy⟩ : ∃ y, y = r.getD zeroN := ⟨_, rfl⟩
        obtain ⟨bo, hbo⟩ : ∃ bo, bo = r.isSome := ⟨_, rfl⟩
        rw [← hy, ← hbo] at hcc
        unfold nodeV at hcc
        have Hc := Lib.hid hcc
        have HR := Lib.hid hR
        have HY := Lib.hid hy
        have HBO := Lib.hid hbo
        have HK := Lib.hid hk
        have HCE := Lib.hid hcells
        have HKI := Lib.hid hkids
        have HUL := Lib.hid hul
        obtain ⟨c0, c1, c2⟩ := a1
        have HSG := Lib.hid hSg
        have hcvp : 1 ≤ cv := by omega
        have t1 : ((i : Int) < 0) = False := by simp
        have t3 : decide ((i : Int) ≥ (n.kids.length : Int)) = false := by simp; omega
        obtain ⟨i0, hi0, hy0, hy1, hy2⟩ := info_parts node_info
        have q2 : (1 : Int) ≤ (path.length : Int) + 1 := by omega
        have q3 : (path.length : Int) + 1 ≤ (cv : Int) := by omega
        have q4 : (1 : Int) ≤ (cv : Int) := by omega
        have hbel := Below.refl w3.heap.size w3
        have show1 : ∀ U, Below w3.heap.size w3 U → (U.cell? ⟨w.heap.size, 2, none⟩ = some (.slice (some ⟨g, og, none⟩) n.kids.length cu) ∧ (U.cell? ⟨g, og + i * 3, none⟩ = some (.int .i64 k.kind) ∧ U.cell? ⟨g, og + i * 3 + 1, none⟩ = some (.string k.text) ∧ U.cell? ⟨g, og + i * 3 + 2, none⟩ = some (.slice pi k.kids.length ci)) ∧ (U.cell? ⟨w.heap.size + 1, 0, none⟩ = some (.int .i64 x.kind) ∧ U.cell? ⟨w.heap.size + 1, 1, none⟩ = some (.string x.text) ∧ U.cell? ⟨w.heap.size + 1, 2, none⟩ = some (.slice px x.kids.length cx)) ∧ Below w3.heap.size w3 U) := fun U h => ⟨(B1.out.stays h).cells.2.2, ⟨(h.cell (p := ⟨g, og + i * 3, none⟩) (World.block_lt_of_cell? _ _ c0)).trans c0, (h.cell (p := ⟨g, og + i * 3 + 1, none⟩) (World.block_lt_of_cell? _ _ c1)).trans c1, (h.cell (p := ⟨g, og + i * 3 + 2, none⟩) (World.block_lt_of_cell? _ _ c2)).trans c2⟩, (B2.out.stays h).cells, h⟩
        have hD := (hbel.alloc (Nat.le_refl _) (.cells #[.int .i64 0, .string ⟨#[]⟩, .slice none 0 0] 25)).drew
        have nbd : NBox (w3.alloc (.cells #[.int .i64 0, .string ⟨#[]⟩, .slice none 0 0] 25)).drew w3.heap.size 25 0 ⟨#[]⟩ (.slice none 0 0) := nbox_new w3 25 0 ⟨#[]⟩ (.slice none 0 0)
        have SHOW := Lib.hid show1
        have HBel := Lib.hid hbel
        have HD0 := Lib.hid hD
        have NBD := Lib.hid nbd
        have Q1 := Lib.hid (hcc _ hbel.drew)
        have Q2 := Lib.hid (hcc _ hD)
        clear hcall hcc hR hy hbo hk hcells hkids hul hck hr0 ax hSg hz hz2 hn show1 hbel hD nbd Hc
        go_upto_region 6 with (fail)
        go_region_held3 (fun w' => (w'.cell? ⟨w.heap.size, 2, none⟩ = some (.slice (some ⟨g, og, none⟩) n.kids.length cu) ∧ (w'.cell? ⟨g, og + i * 3, none⟩ = some (.int .i64 k.kind) ∧ w'.cell? ⟨g, og + i * 3 + 1, none⟩ = some (.string k.text) ∧ w'.cell? ⟨g, og + i * 3 + 2, none⟩ = some (.slice pi k.kids.length ci)) ∧ (w'.cell? ⟨w.heap.size + 1, 0, none⟩ = some (.int .i64 x.kind) ∧ w'.cell? ⟨w.heap.size + 1, 1, none⟩ = some (.string x.text) ∧ w'.cell? ⟨w.heap.size + 1, 2, none⟩ = some (.slice px x.kids.length cx)) ∧ Below w3.heap.size w3 w')) (first | exact SHOW.out _ HBel.out.drew | assumption | exact SHOW.out _ HD0.out | exact SHOW.out _ (Below.alloc bb (Below.size bb) _) | (refine SHOW.out _ ?_; assumption) | (refine SHOW.out _ (Below.alloc (And.right (And.right (And.right (by assumption)))) (Below.size (And.right (And.right (And.right (by assumption))))) _)) | exact SHOW.out _ (put_three bb))
          (first
            | (go_at_call 44; (with_reducible refine Q1.out.mono ?_); rintro _ U ⟨p5, c5, rfl, hk5, bu⟩; have bb := HBel.out.drew.trans (show Below w3.heap.size w3.drew U from bu); have HK5 := Lib.hid hk5; clear hk5 bu)
            | (go_at_call 44; (with_reducible refine Q2.out.mono ?_); rintro _ U ⟨p5, c5, rfl, hk5, bu⟩; have bb := HD0.out.trans (bu.mono HD0.out.size); have HK5 := Lib.hid hk5; have HN5 := Lib.hid (NBD.out.stays bu); obtain ⟨e0, e1, e2⟩ := (NBD.out.stays bu).cells; obtain ⟨f0, f1, f2⟩ := (NBD.out.stays bu).free; clear hk5 bu))
        · have hv := Below.alloc bb (Below.size bb) (.cells #[.int .i64 y.kind, .string y.text, .slice p5 y.kids.length c5] 25)
          have HD := Lib.hid (nbox_new U 25 y.kind y.text (.slice p5 y.kids.length c5))
          have HK6 := Lib.hid (HK5.out.stays ((Below.refl U.heap.size U).alloc (Nat.le_refl _) (.cells #[.int .i64 y.kind, .string y.text, .slice p5 y.kids.length c5] 25)))
          generalize U.alloc (.cells #[.int .i64 y.kind, .string y.text, .slice p5 y.kids.length c5] 25) = W6 at *
          have HB6 := Lib.hid hv
          clear hv bb NBD Q1 Q2
          have HBw := Lib.hid (HA.out.trans (HB6.out.mono HA.out.size)) 
          have HB3 := Lib.hid (B3.out.stays HB6.out) 
          cases bo with 
          | false => 
            have hrn : r = none := by have := HBO.out; cases r with | none => rfl | some _ => cases this 
            obtain rfl : R = none := by have := HR.out; rw [hrn] at this; exact this 
            clear HR HY HBO hrn 
            obtain ⟨hp1, hp⟩ := HB3.out.put (k' := 0) (t' := ⟨#[]⟩) (u' := .slice none 0 0) 
            have HQ := Lib.hid hp1 
            have HP := Lib.hid hp 
            obtain ⟨d0, d1, d2⟩ := HB3.out.cells 
            obtain ⟨f0, f1, f2⟩ := HB3.out.free 
            clear hp1 hp 
            go_wp2 
            have hq := HQ.out 
            have hP := HP.out 
            clear HQ HP 
            generalize ((W6.setCell ⟨w.heap.size + 2, 0, none⟩ (.int .i64 0)).setCell ⟨w.heap.size + 2, 1, none⟩ (.string ⟨#[]⟩)).setCell ⟨w.heap.size + 2, 2, none⟩ (.slice none 0 0) = W9 at * 
            obtain ⟨q0, q1, q2⟩ := hq.cells 
            have HP := Lib.hid hP 
            clear hP hq 
            refine bodyPost_ret (v := .tuple #[.agg #[.int .i64 0, .string ⟨#[]⟩, .slice none 0 0], .bool false]) (by simp [results, Tryd.results44, go_sem, q0, q1, q2]) rfl ⟨_, rfl, .nil _ _, ?_⟩ 
            exact HBw.out.trans (HP.out.below HBw.out.size fun b hb => by omega) 
          | true => 
            obtain rfl : r = some y := by have h1 := HBO.out; have h2 := HY.out; cases r with | none => cases h1 | some q => rw [h2]; rfl 
            obtain rfl : R = some (.mk n.kind n.text (n.kids.set i y)) := HR.out 
            have hl3 : (nodeC n.kids us).length = n.kids.length * 3 := nodeC_len HUL.out 
            have hc6 : ∀ (j : Nat) (u : Value), (nodeC n.kids us)[j]? = some u → W6.cell? ((⟨g, og, none⟩ : Addr).add j) = some u := fun j u hu => (HB6.out.cell (World.block_lt_of_cell? _ _ (HCE.out j u hu))).trans (HCE.out j u hu) 
            have h1c : ∀ u ∈ nodeC n.kids us, u.oneCell' = true := nodeC_one _ _ fun u hu => by 
              obtain ⟨j, hj⟩ := List.mem_iff_getElem?.1 hu 
              have hjl : j < n.kids.length := by have := (List.getElem?_eq_some_iff.1 hj).1; have := HUL.out; omega 
              exact (HKI.out j _ u (List.getElem?_eq_getElem hjl) hj).one 
            have HL3 := Lib.hid hl3 
            have HC6 := Lib.hid hc6 
            have H1C := Lib.hid h1c 
            have HO0 := Lib.hid (World.ownsRow_nil W6 W6.heap.size 25 3) 
            obtain ⟨a0, a1, a2⟩ := (B1.out.stays HB6.out).cells 
            have hn0 : 0 < n.kids.length := by omega 
            clear hl3 hc6 h1c 
            go_upto_region 11 with (at_builtin; go_loud (refine wpList_append_O _ rfl _ _ 23 rfl W6.heap.size 25 i0 _ 3 48 nodes_und hi0 hy0 hy1 hy2 rfl (by decide) _ 0 _ rfl HO0.out ⟨g, og, none⟩ n.kids.length cu (nodeC n.kids us) rfl HL3.out HC6.out H1C.out (by simp only [maxLen]; omega) (by omega) (Nat.le_refl _) ?_; intro v7 W7 hown hkeep hblk _; rw [Nat.zero_add, List.nil_append] at hown; obtain ⟨g7, c7, rfl, hg7, hb7, hlt7, -⟩ := own_pos hown hn0; have HO7 := Lib.hid hown; have HB7 := Lib.hid (hkeep.below (n := W6.heap.size) (Nat.le_refl _) (fun b hb => by cases hb)); have HG7 := Lib.hid hg7; have HGB := Lib.hid hb7; clear hown hkeep hblk hg7 hb7 hlt7)) 
            obtain ⟨e0, e1, e2⟩ := (HD.out.stays HB7.out).cells 
            have hui := List.getElem?_eq_getElem (show i < us.length by have := HUL.out; omega) 
            obtain ⟨r0, r1, r2⟩ := nodeC_get HK.out hui 
            have rc := World.ownsRow.cells (g := g7) HO7.out rfl 
            have s0 := rc _ _ r0 
            have s1 := rc _ _ r1 
            have s2 := rc _ _ r2 
            rw [addr_zero] at s0 s1 s2 
            have fr := fun o => HG7.out.free (o := o) 
            have fr0 := fr (i * 3) 
            have fr1 := fr (i * 3 + 1) 
            have fr2 := fr (i * 3 + 2) 
            have hset := KidsAt.set (S := fun c => (S c ∧ c < w.heap.size) ∨ (w3.heap.size ≤ c ∧ c < W6.heap.size)) (S' := fun c => (S c ∧ c < w.heap.size) ∨ w3.heap.size ≤ c) HO7.out HUL.out (by omega) HG7.out (fun j x u hx hu => ((HKI.out j x u hx hu).stays (HB6.out.trans (HB7.out.mono HB6.out.size))).mono fun c hc => .inl hc) HK.out y (.slice p5 y.kids.length c5) ((HK6.out.within.stays HB7.out).mono fun c hc => by rcases hc with ⟨h1 | h1, h2⟩; exact .inl h1; exact .inr ⟨h1, h2⟩) (by have := HGB.out; have := HB6.out.size; exact .inr (by omega)) (fun c hc => by have := HGB.out; have := HBw.out.size; rcases hc with h | h <;> omega) (fun c hc => by rcases hc with h | h; exact .inl h; exact .inr h.1) _ rfl 
            obtain ⟨hset1, hset2⟩ := hset 
            have HS1 := Lib.hid hset1 
            have HS2 := Lib.hid hset2 
            have HBX := Lib.hid ((B1.out.stays HB6.out).stays HB7.out) 
            have HBR := Lib.hid (HB3.out.stays HB7.out) 
            clear hset1 hset2 rc r0 r1 r2 fr hui a0 a1 a2 
            go_upto_region 12 with (fail) 
            have hs1 := HS1.out 
            have hs2 := HS2.out 
            have hgw : g7 ≠ w.heap.size ∧ g7 ≠ w.heap.size + 2 := by have := HGB.out; have := HBw.out.size; have := HB6.out.size; have := HZ3.out; omega 
            have hbx := HBX.out.keeps hs2 (fun e => hgw.1 e.symm) 
            have hbr := HBR.out.keeps hs2 (fun e => hgw.2 e.symm) 
            have hb8 : Below w.heap.size w _ := (HBw.out.trans (HB7.out.mono HBw.out.size)).trans (hs2.below (HBw.out.trans (HB7.out.mono HBw.out.size)).size fun b hb => by have := HGB.out; have := HBw.out.size; omega) 
            clear HS1 HS2 HBX HBR s0 s1 s2 fr0 fr1 fr2 e0 e1 e2 
            generalize ((W7.setCell ⟨g7, i * 3, none⟩ (.int .i64 y.kind)).setCell ⟨g7, i * 3 + 1, none⟩ (.string y.text)).setCell ⟨g7, i * 3 + 2, none⟩ (.slice p5 y.kids.length c5) = W8 at * 
            obtain ⟨hp1, hp⟩ := hbr.put (k' := n.kind) (t' := n.text) (u' := .slice (some ⟨g7, 0, none⟩) n.kids.length c7) 
            have HQ := Lib.hid hp1 
            have HP := Lib.hid hp 
            have HS := Lib.hid hs1 
            have HB8 := Lib.hid hb8 
            obtain ⟨a0, a1, a2⟩ := hbx.cells 
            obtain ⟨d0, d1, d2⟩ := hbr.cells 
            obtain ⟨f0, f1, f2⟩ := hbr.free 
            have HGW := Lib.hid hgw 
            clear hp1 hp hs1 hs2 hb8 hbx hbr hgw 
            go_wp2 
            have hq := HQ.out 
            have hP := HP.out 
            clear HQ HP 
            generalize ((W8.setCell ⟨w.heap.size + 2, 0, none⟩ (.int .i64 n.kind)).setCell ⟨w.heap.size + 2, 1, none⟩ (.string n.text)).setCell ⟨w.heap.size + 2, 2, none⟩ (.slice (some ⟨g7, 0, none⟩) n.kids.length c7) = W9 at * 
            obtain ⟨q0, q1, q2⟩ := hq.cells 
            have HP := Lib.hid hP 
            clear hP hq 
            refine bodyPost_ret (v := .tuple #[.agg #[.int .i64 n.kind, .string n.text, .slice (some ⟨g7, 0, none⟩) n.kids.length c7], .bool true]) (by simp [results, Tryd.results44, go_sem, q0, q1, q2]) rfl ⟨_, rfl, (HS.out.keeps HP.out (fun b hb e => by have := HZ3.out; rcases hb with h | h <;> omega)).mono fun c hc => (by have := HZ3.out; rcases hc with h | h; exact .inl h.1; exact .inr (by omega)), ?_⟩ 
            exact HB8.out.trans (HP.out.below HB8.out.size fun b hb => by omega)
        · have hv := put_three (o1 := 0) (o2 := 1) (o3 := 2) (v1 := .int .i64 y.kind) (v2 := .string y.text) (v3 := .slice p5 y.kids.length c5) bb
          obtain ⟨hd, hkp⟩ := HN5.out.put (k' := y.kind) (t' := y.text) (u' := .slice p5 y.kids.length c5)
          have HD := Lib.hid hd
          have HK6 : Hid (KidsAt _ (fun c => (S c ∧ c < w.heap.size) ∨ w3.drew.heap.size ≤ c) (.slice p5 y.kids.length c5) y.kids) := Lib.hid ((HK5.out.keeps hkp (fun c hc e => by have h3 := HA.out.size; rcases hc with h | h; omega; rw [World.size_drew, World.size_alloc] at h; omega)).mono fun c hc => by rcases hc with h | h; exact .inl h; rw [World.size_drew, World.size_alloc] at h; exact .inr (by rw [World.size_drew]; omega))
          generalize (((U.setCell ⟨w3.heap.size, 0, none⟩ (.int .i64 y.kind)).setCell ⟨w3.heap.size, 1, none⟩ (.string y.text)).setCell ⟨w3.heap.size, 2, none⟩ (.slice p5 y.kids.length c5)) = W6 at *
          have HB6 := Lib.hid hv
          clear hv bb hd hkp NBD Q1 Q2 HN5 e0 e1 e2 f0 f1 f2
          have HBw := Lib.hid (HA.out.trans (HB6.out.mono HA.out.size)) 
          have HB3 := Lib.hid (B3.out.stays HB6.out) 
          cases bo with 
          | false => 
            have hrn : r = none := by have := HBO.out; cases r with | none => rfl | some _ => cases this 
            obtain rfl : R = none := by have := HR.out; rw [hrn] at this; exact this 
            clear HR HY HBO hrn 
            obtain ⟨hp1, hp⟩ := HB3.out.put (k' := 0) (t' := ⟨#[]⟩) (u' := .slice none 0 0) 
            have HQ := Lib.hid hp1 
            have HP := Lib.hid hp 
            obtain ⟨d0, d1, d2⟩ := HB3.out.cells 
            obtain ⟨f0, f1, f2⟩ := HB3.out.free 
            clear hp1 hp 
            go_wp2 
            have hq := HQ.out 
            have hP := HP.out 
            clear HQ HP 
            generalize ((W6.setCell ⟨w.heap.size + 2, 0, none⟩ (.int .i64 0)).setCell ⟨w.heap.size + 2, 1, none⟩ (.string ⟨#[]⟩)).setCell ⟨w.heap.size + 2, 2, none⟩ (.slice none 0 0) = W9 at * 
            obtain ⟨q0, q1, q2⟩ := hq.cells 
            have HP := Lib.hid hP 
            clear hP hq 
            refine bodyPost_ret (v := .tuple #[.agg #[.int .i64 0, .string ⟨#[]⟩, .slice none 0 0], .bool false]) (by simp [results, Tryd.results44, go_sem, q0, q1, q2]) rfl ⟨_, rfl, .nil _ _, ?_⟩ 
            exact HBw.out.trans (HP.out.below HBw.out.size fun b hb => by omega) 
          | true => 
            obtain rfl : r = some y := by have h1 := HBO.out; have h2 := HY.out; cases r with | none => cases h1 | some q => rw [h2]; rfl 
            obtain rfl : R = some (.mk n.kind n.text (n.kids.set i y)) := HR.out 
            have hl3 : (nodeC n.kids us).length = n.kids.length * 3 := nodeC_len HUL.out 
            have hc6 : ∀ (j : Nat) (u : Value), (nodeC n.kids us)[j]? = some u → W6.cell? ((⟨g, og, none⟩ : Addr).add j) = some u := fun j u hu => (HB6.out.cell (World.block_lt_of_cell? _ _ (HCE.out j u hu))).trans (HCE.out j u hu) 
            have h1c : ∀ u ∈ nodeC n.kids us, u.oneCell' = true := nodeC_one _ _ fun u hu => by 
              obtain ⟨j, hj⟩ := List.mem_iff_getElem?.1 hu 
              have hjl : j < n.kids.length := by have := (List.getElem?_eq_some_iff.1 hj).1; have := HUL.out; omega 
              exact (HKI.out j _ u (List.getElem?_eq_getElem hjl) hj).one 
            have HL3 := Lib.hid hl3 
            have HC6 := Lib.hid hc6 
            have H1C := Lib.hid h1c 
            have HO0 := Lib.hid (World.ownsRow_nil W6 W6.heap.size 25 3) 
            obtain ⟨a0, a1, a2⟩ := (B1.out.stays HB6.out).cells 
            have hn0 : 0 < n.kids.length := by omega 
            clear hl3 hc6 h1c 
            go_upto_region 11 with (at_builtin; go_loud (refine wpList_append_O _ rfl _ _ 23 rfl W6.heap.size 25 i0 _ 3 48 nodes_und hi0 hy0 hy1 hy2 rfl (by decide) _ 0 _ rfl HO0.out ⟨g, og, none⟩ n.kids.length cu (nodeC n.kids us) rfl HL3.out HC6.out H1C.out (by simp only [maxLen]; omega) (by omega) (Nat.le_refl _) ?_; intro v7 W7 hown hkeep hblk _; rw [Nat.zero_add, List.nil_append] at hown; obtain ⟨g7, c7, rfl, hg7, hb7, hlt7, -⟩ := own_pos hown hn0; have HO7 := Lib.hid hown; have HB7 := Lib.hid (hkeep.below (n := W6.heap.size) (Nat.le_refl _) (fun b hb => by cases hb)); have HG7 := Lib.hid hg7; have HGB := Lib.hid hb7; clear hown hkeep hblk hg7 hb7 hlt7)) 
            obtain ⟨e0, e1, e2⟩ := (HD.out.stays HB7.out).cells 
            have hui := List.getElem?_eq_getElem (show i < us.length by have := HUL.out; omega) 
            obtain ⟨r0, r1, r2⟩ := nodeC_get HK.out hui 
            have rc := World.ownsRow.cells (g := g7) HO7.out rfl 
            have s0 := rc _ _ r0 
            have s1 := rc _ _ r1 
            have s2 := rc _ _ r2 
            rw [addr_zero] at s0 s1 s2 
            have fr := fun o => HG7.out.free (o := o) 
            have fr0 := fr (i * 3) 
            have fr1 := fr (i * 3 + 1) 
            have fr2 := fr (i * 3 + 2) 
            have hset := KidsAt.set (S := fun c => (S c ∧ c < w.heap.size) ∨ (w3.heap.size ≤ c ∧ c < W6.heap.size)) (S' := fun c => (S c ∧ c < w.heap.size) ∨ w3.heap.size ≤ c) HO7.out HUL.out (by omega) HG7.out (fun j x u hx hu => ((HKI.out j x u hx hu).stays (HB6.out.trans (HB7.out.mono HB6.out.size))).mono fun c hc => .inl hc) HK.out y (.slice p5 y.kids.length c5) ((HK6.out.within.stays HB7.out).mono fun c hc => by rcases hc with ⟨h1 | h1, h2⟩; exact .inl h1; exact .inr ⟨h1, h2⟩) (by have := HGB.out; have := HB6.out.size; exact .inr (by omega)) (fun c hc => by have := HGB.out; have := HBw.out.size; rcases hc with h | h <;> omega) (fun c hc => by rcases hc with h | h; exact .inl h; exact .inr h.1) _ rfl 
            obtain ⟨hset1, hset2⟩ := hset 
            have HS1 := Lib.hid hset1 
            have HS2 := Lib.hid hset2 
            have HBX := Lib.hid ((B1.out.stays HB6.out).stays HB7.out) 
            have HBR := Lib.hid (HB3.out.stays HB7.out) 
            clear hset1 hset2 rc r0 r1 r2 fr hui a0 a1 a2 
            go_upto_region 12 with (fail) 
            have hs1 := HS1.out 
            have hs2 := HS2.out 
            have hgw : g7 ≠ w.heap.size ∧ g7 ≠ w.heap.size + 2 := by have := HGB.out; have := HBw.out.size; have := HB6.out.size; have := HZ3.out; omega 
            have hbx := HBX.out.keeps hs2 (fun e => hgw.1 e.symm) 
            have hbr := HBR.out.keeps hs2 (fun e => hgw.2 e.symm) 
            have hb8 : Below w.heap.size w _ := (HBw.out.trans (HB7.out.mono HBw.out.size)).trans (hs2.below (HBw.out.trans (HB7.out.mono HBw.out.size)).size fun b hb => by have := HGB.out; have := HBw.out.size; omega) 
            clear HS1 HS2 HBX HBR s0 s1 s2 fr0 fr1 fr2 e0 e1 e2 
            generalize ((W7.setCell ⟨g7, i * 3, none⟩ (.int .i64 y.kind)).setCell ⟨g7, i * 3 + 1, none⟩ (.string y.text)).setCell ⟨g7, i * 3 + 2, none⟩ (.slice p5 y.kids.length c5) = W8 at * 
            obtain ⟨hp1, hp⟩ := hbr.put (k' := n.kind) (t' := n.text) (u' := .slice (some ⟨g7, 0, none⟩) n.kids.length c7) 
            have HQ := Lib.hid hp1 
            have HP := Lib.hid hp 
            have HS := Lib.hid hs1 
            have HB8 := Lib.hid hb8 
            obtain ⟨a0, a1, a2⟩ := hbx.cells 
            obtain ⟨d0, d1, d2⟩ := hbr.cells 
            obtain ⟨f0, f1, f2⟩ := hbr.free 
            have HGW := Lib.hid hgw 
            clear hp1 hp hs1 hs2 hb8 hbx hbr hgw 
            go_wp2 
            have hq := HQ.out 
            have hP := HP.out 
            clear HQ HP 
            generalize ((W8.setCell ⟨w.heap.size + 2, 0, none⟩ (.int .i64 n.kind)).setCell ⟨w.heap.size + 2, 1, none⟩ (.string n.text)).setCell ⟨w.heap.size + 2, 2, none⟩ (.slice (some ⟨g7, 0, none⟩) n.kids.length c7) = W9 at * 
            obtain ⟨q0, q1, q2⟩ := hq.cells 
            have HP := Lib.hid hP 
            clear hP hq 
            refine bodyPost_ret (v := .tuple #[.agg #[.int .i64 n.kind, .string n.text, .slice (some ⟨g7, 0, none⟩) n.kids.length c7], .bool true]) (by simp [results, Tryd.results44, go_sem, q0, q1, q2]) rfl ⟨_, rfl, (HS.out.keeps HP.out (fun b hb e => by have := HZ3.out; rcases hb with h | h <;> omega)).mono fun c hc => (by have := HZ3.out; rcases hc with h | h; exact .inl h.1; exact .inr (by omega)), ?_⟩ 
            exact HB8.out.trans (HP.out.below HB8.out.size fun b hb => by omega)
      · obtain rfl : R = none := by
          have h := HR.out
          rw [if_pos hz, List.getElem?_eq_none (by omega)] at h
          exact h
        have hz3 : decide (z ≥ (n.kids.length : Int)) = true := by simp; omega
        have hz4 : (z < 0) = False := by simp; omega
        have HB3 := Lib.hid B3.out
        clear HR IH HTL HUX HU
        go_upto_region 1 with (fail)
        rw [W1E.out, W2E.out, W3E.out]
        obtain ⟨hp1, hp⟩ := HB3.out.put (k' := 0) (t' := ⟨#[]⟩) (u' := .slice none 0 0) 
        have HQ := Lib.hid hp1 
        have HP := Lib.hid hp 
        obtain ⟨d0, d1, d2⟩ := HB3.out.cells 
        obtain ⟨f0, f1, f2⟩ := HB3.out.free 
        clear hp1 hp 
        go_wp2 
        have hq := HQ.out 
        have hP := HP.out 
        clear HQ HP 
        generalize ((w3.setCell ⟨w.heap.size + 2, 0, none⟩ (.int .i64 0)).setCell ⟨w.heap.size + 2, 1, none⟩ (.string ⟨#[]⟩)).setCell ⟨w.heap.size + 2, 2, none⟩ (.slice none 0 0) = W9 at * 
        obtain ⟨q0, q1, q2⟩ := hq.cells 
        have HP := Lib.hid hP 
        clear hP hq 
        refine bodyPost_ret (v := .tuple #[.agg #[.int .i64 0, .string ⟨#[]⟩, .slice none 0 0], .bool false]) (by simp [results, Tryd.results44, go_sem, q0, q1, q2]) rfl ⟨_, rfl, .nil _ _, ?_⟩ 
        exact HA.out.trans (HP.out.below HA.out.size fun b hb => by omega)
    · obtain rfl : R = none := by
        have h := HR.out
        rw [if_neg hz] at h
        exact h
      have hz4 : z < 0 := by omega
      have HB3 := Lib.hid B3.out
      clear HR IH HTL HUX HU
      go_upto_region 1 with (fail)
      rw [W1E.out, W2E.out, W3E.out]
      obtain ⟨hp1, hp⟩ := HB3.out.put (k' := 0) (t' := ⟨#[]⟩) (u' := .slice none 0 0) 
      have HQ := Lib.hid hp1 
      have HP := Lib.hid hp 
      obtain ⟨d0, d1, d2⟩ := HB3.out.cells 
      obtain ⟨f0, f1, f2⟩ := HB3.out.free 
      clear hp1 hp 
      go_wp2 
      have hq := HQ.out 
      have hP := HP.out 
      clear HQ HP 
      generalize ((w3.setCell ⟨w.heap.size + 2, 0, none⟩ (.int .i64 0)).setCell ⟨w.heap.size + 2, 1, none⟩ (.string ⟨#[]⟩)).setCell ⟨w.heap.size + 2, 2, none⟩ (.slice none 0 0) = W9 at * 
      obtain ⟨q0, q1, q2⟩ := hq.cells 
      have HP := Lib.hid hP 
      clear hP hq 
      refine bodyPost_ret (v := .tuple #[.agg #[.int .i64 0, .string ⟨#[]⟩, .slice none 0 0], .bool false]) (by simp [results, Tryd.results44, go_sem, q0, q1, q2]) rfl ⟨_, rfl, .nil _ _, ?_⟩ 
      exact HA.out.trans (HP.out.below HA.out.size fun b hb => by omega)
end Go.Proofs.YtigpffbhkopjeaaDoor
