/- What the laws of trees ask of the rows of paths, and of boxes that stand. No condition. -/
import Derived.Test.YtigpffbhkopjeaaDoorNd21
import Derived.Test.YtigpffbhkopjeaaDoorNd22
namespace Go.Proofs.YtigpffbhkopjeaaDoor
open Go.RowKit Go.Sub Go.Sort

/-- a row of all paths of a tree -/
def PathsAt (w : World) (v : Value) (n : NodeT) : Prop := ∃ g cv, v = .slice (some ⟨g, 0, none⟩) (pathsN n).length cv ∧ ∀ (i : Nat) p, (pathsN n)[i]? = some p → ∃ x, w.cell? ⟨g, i, none⟩ = some x ∧ IntsAt w (fun _ => True) x (zs p)
theorem PathsAt.stays {w w' : World} {v : Value} {n : NodeT} (h : PathsAt w v n) (hb : Below w.heap.size w w') : PathsAt w' v n := by
  obtain ⟨g, cv, e, hx⟩ := h
  refine ⟨g, cv, e, fun i p hp => ?_⟩
  obtain ⟨x, hc, hi⟩ := hx i p hp
  exact ⟨x, (hb.cell (p := ⟨g, i, none⟩) (World.block_lt_of_cell? _ _ hc)).trans hc, hi.stays hb⟩
theorem zs_length (p : List Nat) : (zs p).length = p.length := by unfold zs; rw [List.length_map]
theorem PathsAt.shape {w : World} {v : Value} {n : NodeT} (h : PathsAt w v n) : ∃ g cv, v = .slice (some ⟨g, 0, none⟩) (pathsN n).length cv := by
  obtain ⟨g, cv, e, _⟩ := h; exact ⟨g, cv, e⟩
theorem PathsAt.at {w : World} {g n' cv : Nat} {n : NodeT} (h : PathsAt w (.slice (some ⟨g, 0, none⟩) n' cv) n) {i : Nat} {p : List Nat} (hp : (pathsN n)[i]? = some p) : ∃ q c, w.cell? ⟨g, i, none⟩ = some (.slice q p.length c) ∧ IntsAt w (fun _ => True) (.slice q p.length c) (zs p) := by
  obtain ⟨g', cv', e, hx⟩ := h
  cases e
  obtain ⟨x, hc, hi⟩ := hx i p hp
  obtain ⟨q, c, rfl, _⟩ := hi.shape
  rw [zs_length] at hc hi
  exact ⟨q, c, hc, hi⟩
def PathsTold (n : NodeT) (w : World) (e : Ending) (W' : World) : Prop := ∃ v, e = .returned v ∧ PathsAt W' v n ∧ Below w.heap.size w W'
theorem PathsPost.told {n : NodeT} {w : World} {e : Ending} {W' : World} (h : PathsPost n w e W') : PathsTold n w e W' := by
  obtain ⟨v, xs, rfl, ho, he, hi, hb⟩ := h
  refine ⟨v, rfl, ?_, hb⟩
  have hl : xs.length = (pathsN n).length := by
    have := congrArg List.length he
    rwa [List.length_map, List.length_map] at this
  have hpos : 0 < (pathsN n).length := by rw [paths_length]; exact countN_pos n
  rcases ho.2 with ⟨rfl, h0⟩ | ⟨g, cap, cur, rfl, hb, hg, hnc, hcm, hcs, htake⟩
  · omega
  · refine ⟨g, cap, by rw [hl], fun i p hp => ?_⟩
    have hi' : i < xs.length := by have := (List.getElem?_eq_some_iff.1 hp).1; omega
    have hx := List.getElem?_eq_getElem hi'
    have hc := (World.ownsRow.cells (g := g) ho rfl) i (xs[i]).1 (by rw [List.getElem?_map, hx]; rfl)
    rw [addr_zero] at hc
    refine ⟨_, hc, ?_⟩
    have h2 : (xs[i]).2 = zs p := by
      have h3 := congrArg (fun l => l[i]?) he
      simp only [List.getElem?_map, hx, hp, Option.map_some, Option.some.injEq] at h3
      exact h3
    rw [← h2]
    exact (hi _ (List.getElem_mem hi')).mono fun _ _ => trivial
theorem paths_told (n : NodeT) (u : Value) (w : World) (S : Nat → Prop) (hu : KidsAt w S u n.kids) (hcn : countN n ≤ 100000000) :
    Calls Tryd.prog 16 #[nodeV n u] w (PathsTold n w) := (paths_calls n u w S hu hcn).mono fun _ _ h => h.told
/-- a node in a box, its kids in memory -/
structure TreeBox (w : World) (B : Nat) (n : NodeT) (u : Value) : Prop where
  box : NBox w B 25 n.kind n.text u
  kids : KidsAt w (fun _ => True) u n.kids
theorem TreeBox.stays {w w' : World} {B : Nat} {n : NodeT} {u : Value} (h : TreeBox w B n u) (hb : Below w.heap.size w w') : TreeBox w' B n u := ⟨h.box.stays hb, h.kids.stays hb⟩
theorem treeBox_new {w w1 : World} {S : Nat → Prop} {n : NodeT} {p : Option Addr} {c : Nat} (hk : KidsAt w1 S (.slice p n.kids.length c) n.kids) (hb : Below w.heap.size w w1) :
    TreeBox (w1.alloc (.cells #[.int .i64 n.kind, .string n.text, .slice p n.kids.length c] 25)) w1.heap.size n (.slice p n.kids.length c) ∧ Below w.heap.size w (w1.alloc (.cells #[.int .i64 n.kind, .string n.text, .slice p n.kids.length c] 25)) ∧ (w1.alloc (.cells #[.int .i64 n.kind, .string n.text, .slice p n.kids.length c] 25)).heap.size = w1.heap.size + 1 :=
  ⟨⟨nbox_new _ _ _ _ _, (hk.mono fun _ _ => trivial).stays ((Below.refl _ _).alloc (Nat.le_refl _) _)⟩, hb.alloc hb.size _, by simp⟩
/-- what a tree of choices is -/
structure TreeOf (n : NodeT) : Prop where
  count : countN n ≤ 32
  weight : weightN n ≤ 160
  wide : WideN n
  good : goodN treeTexts n
theorem treeOf (c : List UInt8) : TreeOf (treeN c) := ⟨count_tree c, weight_tree c, wide_tree c, good_tree c⟩
theorem tree_told (c : List UInt8) (v : Value) (w : World) (hv : BytesRow w v c) (n : NodeT) (hn : n = treeN c) :
    Calls Tryd.prog 9 #[v] w fun e w' => ∃ p cu, e = .returned (.agg #[.int .i64 n.kind, .string n.text, .slice p n.kids.length cu]) ∧ Hid (KidsAt w' (fun b => w.heap.size ≤ b) (.slice p n.kids.length cu) n.kids) ∧ Hid (Below w.heap.size w w') := by
  subst hn
  refine (tree_calls c v w hv).mono ?_
  rintro _ V ⟨u, rfl, ku, bl⟩
  obtain ⟨p, cu, rfl, _⟩ := ku.shape
  exact ⟨p, cu, rfl, Lib.hid ku, Lib.hid bl⟩
end Go.Proofs.YtigpffbhkopjeaaDoor
