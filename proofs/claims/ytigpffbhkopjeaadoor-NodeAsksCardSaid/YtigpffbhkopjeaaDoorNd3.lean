/- Trees whose parts lie apart in memory; what a store at one node does to the whole. No condition. -/
import Derived.Test.YtigpffbhkopjeaaDoorNd2
import Derived.Lib.Hide
import Derived.Laws.Externs
import Derived.Lib.EndianBits
namespace Go.Sub
open Go.RowKit

/-- a block of cells none of which is frozen -/
def Loose (w : World) (b : Nat) : Prop := ∃ cs T, w.heap[b]? = some (.cells cs T (0, 0))
theorem Loose.free {w : World} {b : Nat} (h : Loose w b) (o : Nat) : w.frozen? ⟨b, o, none⟩ = false := by
  obtain ⟨cs, T, h⟩ := h; exact frozen_of_row w b o _ _ h
theorem Loose.lt {w : World} {b : Nat} (h : Loose w b) : b < w.heap.size := by
  obtain ⟨cs, T, h⟩ := h; exact (Array.getElem?_eq_some_iff.1 h).1
theorem Loose.keep {w w' : World} {b : Nat} (h : Loose w b) (e : b < w.heap.size → w'.heap[b]? = w.heap[b]?) : Loose w' b := by
  have hl := h.lt
  obtain ⟨cs, T, h⟩ := h; exact ⟨cs, T, (e hl).trans h⟩
/-- a row of nodes in blocks of S alone, no block of two of its parts -/
inductive KidsApart (w : World) : (Nat → Prop) → Value → List NodeT → Prop
  | mk (S : Nat → Prop) (p : Option Addr) (cap : Nat) (l : List NodeT) (b o : Nat) (us : Nat → Value) (T : Nat → Nat → Prop)
      (hp : 0 < l.length → (p = some ⟨b, o, none⟩ ∧ S b) ∧ Loose w b) (hlen : l.length ≤ 4611686018427387904)
      (hT : ∀ i c, i < l.length → T i c → S c ∧ c ≠ b) (hd : ∀ i j c, i < l.length → j < l.length → i ≠ j → T i c → ¬ T j c)
      (hc : ∀ i x, l[i]? = some x → NCells w b (o + i * 3) x.kind x.text (us i))
      (hk : ∀ i x, l[i]? = some x → KidsApart w (T i) (us i) x.kids) : KidsApart w S (.slice p l.length cap) l
theorem KidsApart.at {w : World} {S : Nat → Prop} {v : Value} {l : List NodeT} (h : KidsApart w S v l) : KidsAt w S v l := by
  induction h with
  | mk S p cap l b o us T hp hlen hT hd hc hk ih =>
    refine .mk p cap l b o us (fun h => (hp h).1) hlen hc fun i x hx => ?_
    have hi : i < l.length := (List.getElem?_eq_some_iff.1 hx).1
    exact (ih i x hx).mono fun c h => (hT i c hi h).1
theorem KidsApart.keep {w w' : World} {S S' : Nat → Prop} {v : Value} {l : List NodeT} (h : KidsApart w S v l) (hc : ∀ b o c, S b → w.cell? ⟨b, o, none⟩ = some c → w'.cell? ⟨b, o, none⟩ = some c) (hf : ∀ b, S b → Loose w b → Loose w' b) (hS : ∀ b, S b → S' b) : KidsApart w' S' v l := by
  induction h generalizing S' with
  | mk S p cap l b o us T hp hlen hT hd hcl hk ih =>
    refine .mk S' p cap l b o us T (fun h => ⟨⟨(hp h).1.1, hS _ (hp h).1.2⟩, hf _ (hp h).1.2 (hp h).2⟩) hlen (fun i c hi ht => ⟨hS _ (hT i c hi ht).1, (hT i c hi ht).2⟩) hd (fun i x hx => ?_) (fun i x hx => ?_)
    · have h0 : 0 < l.length := by have := (List.getElem?_eq_some_iff.1 hx).1; omega
      exact (hcl i x hx).keep fun o c h => hc b o c (hp h0).1.2 h
    · have hi : i < l.length := (List.getElem?_eq_some_iff.1 hx).1
      exact ih i x hx (fun b o c hb hcb => hc b o c (hT i b hi hb).1 hcb) (fun b hb => hf b (hT i b hi hb).1) fun _ h => h
theorem KidsApart.mono {w : World} {S S' : Nat → Prop} {v : Value} {l : List NodeT} (h : KidsApart w S v l) (hS : ∀ b, S b → S' b) : KidsApart w S' v l := h.keep (fun _ _ _ _ h => h) (fun _ _ h => h) hS
theorem KidsApart.stays {w w' : World} {S : Nat → Prop} {v : Value} {l : List NodeT} (h : KidsApart w S v l) (hb : Below w.heap.size w w') : KidsApart w' S v l :=
  h.keep (fun b o _ _ hc => (hb.cell (p := ⟨b, o, none⟩) (World.block_lt_of_cell? _ _ hc)).trans hc) (fun b _ h => h.keep fun hl => hb.block b hl) fun _ h => h
theorem KidsApart.keeps {w w' : World} {S O : Nat → Prop} {v : Value} {l : List NodeT} (h : KidsApart w S v l) (hk : Keeps O w w') (hO : ∀ b, S b → ¬ O b) : KidsApart w' S v l :=
  h.keep (fun _ _ _ hs hc => hk.cell hc (hO _ hs)) (fun b hs h => h.keep fun hl => hk.block b hl (hO b hs)) fun _ h => h
theorem KidsApart.nil (w : World) (S : Nat → Prop) : KidsApart w S (.slice none 0 0) [] :=
  .mk S none 0 [] 0 0 (fun _ => .slice none 0 0) (fun _ _ => False) (fun h => absurd h (by simp)) (by simp) (fun i c h => by simp at h) (fun i j c h => by simp at h) (fun i x h => by simp at h) (fun i x h => by simp at h)
/-- a row that one owns, of nodes whose kids lie apart -/
theorem KidsApart.of_own {w : World} {base : Nat} {e : TypeId} {S : Nat → Prop} {v : Value} {l : List NodeT} {us : List Value} {T : Nat → Nat → Prop} (h : w.ownsRow base e 3 v l.length (nodeC l us)) (hl : us.length = l.length) (hn : l.length ≤ 4611686018427387904)
    (hS : ∀ g, some g = v.ownBlock → S g) (hT : ∀ i c, i < l.length → T i c → S c ∧ some c ≠ v.ownBlock) (hd : ∀ i j c, i < l.length → j < l.length → i ≠ j → T i c → ¬ T j c)
    (hk : ∀ (i : Nat) x u, l[i]? = some x → us[i]? = some u → KidsApart w (T i) u x.kids) : KidsApart w S v l := by
  have hget : ∀ i x, l[i]? = some x → us[i]? = some (us.getD i (.slice none 0 0)) := fun i x hx => by
    have hi : i < us.length := by have := (List.getElem?_eq_some_iff.1 hx).1; omega
    rw [List.getD_eq_getElem?_getD, List.getElem?_eq_getElem hi]; rfl
  rcases h.2 with ⟨rfl, h0⟩ | ⟨g, cap, cur, rfl, hb, hg, hnc, hcm, hcs, htake⟩
  · have : l = [] := List.eq_nil_of_length_eq_zero h0
    subst this
    exact .nil w S
  · have cell : ∀ j c, (nodeC l us)[j]? = some c → w.cell? ⟨g, j, none⟩ = some c := fun j c hc => by
      have hx := (World.ownsRow.cells (g := g) h rfl) j c hc
      rwa [addr_zero] at hx
    refine .mk S _ cap l g 0 (fun i => us.getD i (.slice none 0 0)) T (fun _ => ⟨⟨rfl, hS g rfl⟩, ⟨_, _, hg⟩⟩) hn (fun i c hi ht => ⟨(hT i c hi ht).1, fun e => (hT i c hi ht).2 (by rw [e]; rfl)⟩) hd (fun i x hx => ?_) (fun i x hx => hk i x _ hx (hget i x hx))
    obtain ⟨c0, c1, c2⟩ := nodeC_get hx (hget i x hx)
    rw [Nat.zero_add]
    exact ⟨cell _ _ c0, cell _ _ c1, cell _ _ c2⟩
/-- a node at a place -/
def NodeAt (w : World) (Q : Nat → Prop) (b o : Nat) (x : NodeT) : Prop := ∃ u, NCells w b o x.kind x.text u ∧ KidsAt w Q u x.kids
/-- whatever is laid at the place, and below it: the whole is so -/
def Hole (w : World) (Q : Nat → Prop) (b o : Nat) (T : Nat → Prop) (root : World → NodeT → Prop) (f : NodeT → NodeT) : Prop :=
  ∀ w' x, (∀ c q v, ¬ (c = b ∧ o ≤ q ∧ q < o + 3) → ¬ T c → w.cell? ⟨c, q, none⟩ = some v → w'.cell? ⟨c, q, none⟩ = some v) → NodeAt w' Q b o x → root w' (f x)
theorem Hole.kid {w : World} {Q : Nat → Prop} {b o : Nat} {S T : Nat → Prop} {root : World → NodeT → Prop} {f : NodeT → NodeT} {m : NodeT} {p : Option Addr} {n cap : Nat} (h : Hole w Q b o T root f) (hQ : ∀ c, T c → Q c) (hT : ∀ c, S c → T c) (hb : ¬ T b) (hm : NCells w b o m.kind m.text (.slice p n cap)) (hk : KidsApart w S (.slice p n cap) m.kids)
    {i : Nat} {k : NodeT} (hi : m.kids[i]? = some k) :
    ∃ g og u S', p = some ⟨g, og, none⟩ ∧ NCells w g (og + i * 3) k.kind k.text u ∧ KidsApart w S' u k.kids ∧ ¬ S' g ∧ T g ∧ Loose w g ∧ (∀ c, S' c → S c) ∧ Hole w Q g (og + i * 3) S' root (fun y => f (.mk m.kind m.text (m.kids.set i y))) := by
  generalize hv : Value.slice p n cap = v at hk hm
  cases hk with
  | mk S p' cap' l g og us Tf hp hlen hTf hd hcl hkd =>
    cases hv
    have hil : i < m.kids.length := (List.getElem?_eq_some_iff.1 hi).1
    have hpl := hp (by omega)
    have hpg := hpl.1
    refine ⟨g, og, us i, Tf i, hpg.1, hcl i k hi, hkd i k hi, fun h => (hTf i g hil h).2 rfl, hT g hpg.2, hpl.2, fun c hc => (hTf i c hil hc).1, ?_⟩
    rintro w' x hkeep ⟨u, hxu, hxk⟩
    have hgb : g ≠ b := fun e => hb (e ▸ hT g hpg.2)
    refine h w' _ (fun c q v h1 h2 hc => hkeep c q v (fun e => h2 (e.1 ▸ hT g hpg.2)) (fun e => h2 (hT c (hTf i c hil e).1)) hc) ⟨.slice p m.kids.length cap, ?_, ?_⟩
    · simp only [NodeT.kind_mk, NodeT.text_mk]
      exact hm.keep fun o' c hc => hkeep b o' c (fun e => hgb e.1.symm) (fun e => hb (hT b (hTf i b hil e).1)) hc
    · rw [NodeT.kids_mk]
      have hlenE : (m.kids.set i x).length = m.kids.length := by simp
      have key := KidsAt.mk (w := w') (S := Q) p cap (m.kids.set i x) g og (fun j => if j = i then u else us j) (fun _ => ⟨hpg.1, hQ _ (hT _ hpg.2)⟩) (by rw [hlenE]; exact hlen) ?_ ?_
      · rwa [hlenE] at key
      · intro j y hy
        rw [List.getElem?_set] at hy
        by_cases hji : i = j
        · subst hji
          rw [if_pos rfl, if_pos hil] at hy
          cases hy
          rw [if_pos rfl]
          exact hxu
        · rw [if_neg hji] at hy
          rw [if_neg (fun e => hji e.symm)]
          obtain ⟨q0, q1, q2⟩ := hcl j y hy
          have hj : j < m.kids.length := (List.getElem?_eq_some_iff.1 hy).1
          have ng : ¬ Tf i g := fun h => (hTf i g hil h).2 rfl
          exact ⟨hkeep g _ _ (by omega) ng q0, hkeep g _ _ (by omega) ng q1, hkeep g _ _ (by omega) ng q2⟩
      · intro j y hy
        rw [List.getElem?_set] at hy
        by_cases hji : i = j
        · subst hji
          rw [if_pos rfl, if_pos hil] at hy
          cases hy
          rw [if_pos rfl]
          exact hxk
        · rw [if_neg hji] at hy
          rw [if_neg (fun e => hji e.symm)]
          have hj : j < m.kids.length := (List.getElem?_eq_some_iff.1 hy).1
          exact (hkd j y hy).at.keep (fun c q v hc hcell => hkeep c q v (fun e => (hTf j c hj hc).2 e.1) (hd j i c hj hil (fun e => hji e.symm) hc) hcell) fun c hc => hQ c (hT c (hTf j c hj hc).1)
/-- a node in a box of its own -/
theorem box_new (w : World) (k : Int) (t : ByteArray) (u : Value) (T : TypeId) : NCells (w.alloc (.cells #[.int .i64 k, .string t, u] T)) w.heap.size 0 k t u ∧ Below w.heap.size w (w.alloc (.cells #[.int .i64 k, .string t, u] T)) ∧ (w.alloc (.cells #[.int .i64 k, .string t, u] T)).heap.size = w.heap.size + 1 := by
  have h1 := World.alloc_heap_new w (.cells #[.int .i64 k, .string t, u] T)
  exact ⟨⟨cell_of_block h1 rfl, cell_of_block h1 rfl, cell_of_block h1 rfl⟩, (Below.refl _ _).alloc (Nat.le_refl _) _, by simp⟩
theorem NCells.stays {w w' : World} {b o : Nat} {k : Int} {t : ByteArray} {u : Value} (h : NCells w b o k t u) (hb : Below w.heap.size w w') : NCells w' b o k t u :=
  h.keep fun o _ hc => (hb.cell (p := ⟨b, o, none⟩) (World.block_lt_of_cell? _ _ hc)).trans hc
theorem keeps_set (w : World) (X o : Nat) (u : Value) {O : Nat → Prop} (hO : O X) : Keeps O w (w.setCell ⟨X, o, none⟩ u) :=
  ⟨rfl, rfl, rfl, by simp, fun b _ hb => heap_setCell_other w _ b u fun e => hb (by rw [e]; exact hO)⟩
/-- three cells of a block set -/
theorem put3 (w : World) (g o : Nat) {k : Int} {t : ByteArray} {u : Value} (h : NCells w g o k t u) (hl : Loose w g) (a b c : Value) :
    ∀ w', ((w.setCell ⟨g, o, none⟩ a).setCell ⟨g, o + 1, none⟩ b).setCell ⟨g, o + 2, none⟩ c = w' →
    (w'.cell? ⟨g, o, none⟩ = some a ∧ w'.cell? ⟨g, o + 1, none⟩ = some b ∧ w'.cell? ⟨g, o + 2, none⟩ = some c) ∧ (∀ d q v, ¬ (d = g ∧ o ≤ q ∧ q < o + 3) → w.cell? ⟨d, q, none⟩ = some v → w'.cell? ⟨d, q, none⟩ = some v) ∧ Keeps (fun d => d = g) w w' ∧ w'.heap.size = w.heap.size ∧ Loose w' g := by
  rintro w' rfl
  obtain ⟨cs, T, hb⟩ := hl
  have e0 := heap_setCell_same w g o _ _ a hb
  have e1 := heap_setCell_same _ g (o + 1) _ _ b e0
  have e2 := heap_setCell_same _ g (o + 2) _ _ c e1
  have hk : Keeps (fun d => d = g) w (((w.setCell ⟨g, o, none⟩ a).setCell ⟨g, o + 1, none⟩ b).setCell ⟨g, o + 2, none⟩ c) := (((keeps_set w g o a (O := fun d => d = g) rfl).trans (keeps_set _ g (o + 1) b (O := fun d => d = g) rfl)).trans (keeps_set _ g (o + 2) c (O := fun d => d = g) rfl))
  refine ⟨⟨?_, ?_, ?_⟩, ?_, hk, by simp, ⟨_, _, e2⟩⟩
  · rw [World.cell?_setCell_other _ _ _ _ (by simp), World.cell?_setCell_other _ _ _ _ (by simp)]
    exact World.cell?_setCell_same _ _ _ h.1
  · rw [World.cell?_setCell_other _ _ _ _ (by simp)]
    exact World.cell?_setCell_same _ _ _ (by rw [World.cell?_setCell_other _ _ _ _ (by simp)]; exact h.2.1)
  · exact World.cell?_setCell_same _ _ _ (by rw [World.cell?_setCell_other _ _ _ _ (by simp), World.cell?_setCell_other _ _ _ _ (by simp)]; exact h.2.2)
  · intro d q v hne hv
    rw [World.cell?_setCell_other _ _ _ _ (fun e => by cases e; exact hne ⟨rfl, by omega, by omega⟩), World.cell?_setCell_other _ _ _ _ (fun e => by cases e; exact hne ⟨rfl, by omega, by omega⟩), World.cell?_setCell_other _ _ _ _ (fun e => by cases e; exact hne ⟨rfl, by omega, by omega⟩)]
    exact hv
theorem bytes_eq {a b : ByteArray} (h : a.toList = b.toList) : a = b := by
  rw [ByteArray.toList_eq, ByteArray.toList_eq] at h
  exact ByteArray.ext (Array.toList_inj.1 h)
theorem eqN_no {n m : NodeT} (h : n ≠ m) : eqN n m = false := by
  cases he : eqN n m
  · rfl
  · exact absurd ((eqN_iff n m).1 he) h
theorem list_take_eq {α : Type} {l l' : List α} {j : Nat} {x y : α} (h : l.take j = l'.take j) (hx : l[j]? = some x) (hy : l'[j]? = some y) (e : x = y) : l.take (j + 1) = l'.take (j + 1) := by
  subst e
  rw [List.take_add_one, List.take_add_one, h, hx, hy]
theorem own_succ' {w : World} {b e sz n : Nat} {v : Value} {xs : List Value} (h : w.ownsRow b e sz v (n + 1) xs) : ∃ g cap, v = .slice (some ⟨g, 0, none⟩) (n + 1) cap := by
  rcases h.2 with ⟨_, h⟩ | ⟨g, cap, cur, h, _⟩
  · omega
  · exact ⟨g, cap, h⟩
theorem row_shape' {w : World} {base : Nat} {e : TypeId} {size : Nat} {v : Value} {n : Nat} {xs : List Value} (h : w.ownsRow base e size v n xs) : ∃ p c, v = .slice p n c ∧ n ≤ c := by
  rcases h.2 with ⟨rfl, rfl⟩ | ⟨g, cap, cur, rfl, _, _, hc, _⟩
  · exact ⟨none, 0, rfl, Nat.le_refl _⟩
  · exact ⟨_, cap, rfl, hc⟩
/-- the cells of a block that has just been laid -/
theorem new_cells (w : World) (cs : List Value) (T : TypeId) : ∀ (j : Nat) u, cs[j]? = some u → (w.alloc (.cells cs.toArray T)).cell? ((⟨w.heap.size, 0, none⟩ : Addr).add j) = some u := by
  intro j u hu
  have hb := World.alloc_heap_new w (.cells cs.toArray T)
  rw [addr_zero]
  exact cell_of_block hb (by rw [List.getElem?_toArray]; exact hu)
/-- a row of copies that grows -/
structure CopyInv (W1 : World) (N : Nat) (e : TypeId) (l : List NodeT) (j : Nat) (v : Value) (us : List Value) (T : Nat → Nat → Prop) (wr : World) : Prop where
  own : wr.ownsRow N e 3 v j (nodeC (l.take j) us)
  len : us.length = j
  bel : Below W1.heap.size W1 wr
  low : ∀ i c, i < j → T i c → N ≤ c ∧ c < wr.heap.size ∧ some c ≠ v.ownBlock
  dis : ∀ i k c, i < j → k < j → i ≠ k → T i c → ¬ T k c
  kids : ∀ (i : Nat) x u, l[i]? = some x → us[i]? = some u → KidsApart wr (T i) u x.kids
theorem CopyInv.start (W1 : World) (N : Nat) (e : TypeId) (l : List NodeT) : CopyInv W1 N e l 0 (.slice none 0 0) [] (fun _ _ => False) W1 :=
  ⟨World.ownsRow_nil _ _ _ _, rfl, Below.refl _ _, fun i c h => by omega, fun i k c h => by omega, fun i x u _ h => by simp at h⟩
/-- one more: behind the kid's copy (w1), some blocks (w2), and the append (w3) -/
theorem CopyInv.next {W1 wr w1 w2 w3 : World} {N : Nat} {e : TypeId} {l : List NodeT} {j : Nat} {v v' u : Value} {us : List Value} {T : Nat → Nat → Prop} {x : NodeT} (h : CopyInv W1 N e l j v us T wr) (hN : W1.heap.size ≤ N) (hN2 : N ≤ wr.heap.size) (hx : l[j]? = some x)
    (hb1 : Below wr.heap.size wr w1) (hk : KidsApart w1 (fun c => wr.heap.size ≤ c ∧ c < w1.heap.size) u x.kids) (hb2 : Below w1.heap.size w1 w2)
    (hown : w3.ownsRow N e 3 v' (j + 1) (nodeC (l.take j) us ++ [.int .i64 x.kind, .string x.text, u])) (hkeep : Keeps (fun b => some b = v.ownBlock) w2 w3) (hnew : v'.ownBlock = v.ownBlock ∨ v'.ownBlock = some w2.heap.size) :
    CopyInv W1 N e l (j + 1) v' (us ++ [u]) (fun i c => if i = j then wr.heap.size ≤ c ∧ c < w1.heap.size else T i c) w3 := by
  have hlen := h.len
  have hj : j < l.length := (List.getElem?_eq_some_iff.1 hx).1
  have hw : ∀ c, some c = v.ownBlock → N ≤ c ∧ c < wr.heap.size := fun c hc => h.own.lt c hc.symm
  have hs3 : w2.heap.size ≤ w3.heap.size := hkeep.size
  have hs2 : w1.heap.size ≤ w2.heap.size := hb2.size
  have hs1 : wr.heap.size ≤ w1.heap.size := hb1.size
  have fresh : ∀ c, c < w2.heap.size → some c ≠ v.ownBlock → some c ≠ v'.ownBlock := fun c hc hn e => by
    rcases hnew with h | h
    · exact hn (e.trans h)
    · rw [h] at e; cases e; omega
  refine ⟨?_, by simp [hlen], ?_, ?_, ?_, ?_⟩
  · rw [show l.take (j + 1) = l.take j ++ [x] by rw [List.take_add_one, hx]; rfl, nodeC_snoc x u _ _ (by rw [List.length_take]; omega)]
    exact hown
  · refine (h.bel.trans (hb1.mono h.bel.size)).trans ((hb2.mono (Nat.le_trans h.bel.size hs1)).trans (hkeep.below (Nat.le_trans (Nat.le_trans h.bel.size hs1) hs2) fun b hb => ?_))
    have := (hw b hb).1; omega
  · intro i c hi ht
    by_cases e : i = j
    · rw [if_pos e] at ht
      refine ⟨by omega, by omega, fresh c (by omega) fun e => ?_⟩
      have := (hw c e).2; omega
    · rw [if_neg e] at ht
      obtain ⟨a, b, c'⟩ := h.low i c (by omega) ht
      exact ⟨a, by omega, fresh c (by omega) c'⟩
  · intro i k c hi hk' hne ht hT
    by_cases e : i = j
    · rw [if_pos e] at ht
      rw [if_neg (by omega)] at hT
      have := (h.low k c (by omega) hT).2.1; omega
    · rw [if_neg e] at ht
      by_cases e2 : k = j
      · rw [if_pos e2] at hT
        have := (h.low i c (by omega) ht).2.1; omega
      · rw [if_neg e2] at hT
        exact h.dis i k c (by omega) (by omega) hne ht hT
  · intro i y u' hy hu'
    by_cases e : i = j
    · subst e
      rw [hx] at hy; cases hy
      rw [List.getElem?_append_right (by omega), hlen, Nat.sub_self] at hu'
      obtain rfl : u = u' := by simpa using hu'
      have := (hk.stays hb2).keeps hkeep (fun b hb e => by have := (hw b e).2; omega)
      simpa using this
    · have hi : i < us.length := by
        have := (List.getElem?_eq_some_iff.1 hu').1
        rw [List.length_append, List.length_singleton] at this; omega
      rw [List.getElem?_append_left hi] at hu'
      have := (((h.kids i y u' hy hu').stays hb1).stays hb2).keeps hkeep (fun b hb => (h.low i b (by omega) hb).2.2)
      simpa [e] using this
theorem CopyInv.done {W1 wr : World} {N : Nat} {e : TypeId} {l : List NodeT} {v : Value} {us : List Value} {T : Nat → Nat → Prop} (h : CopyInv W1 N e l l.length v us T wr) (hl : l.length ≤ 4611686018427387904) : KidsApart wr (fun c => N ≤ c ∧ c < wr.heap.size) v l := by
  have ho := h.own
  rw [List.take_length] at ho
  exact KidsApart.of_own ho h.len hl (fun g hg => ho.lt g hg.symm) (fun i c hi ht => ⟨⟨(h.low i c hi ht).1, (h.low i c hi ht).2.1⟩, (h.low i c hi ht).2.2⟩) h.dis h.kids
/-- a block that holds a node -/
def NBox (w : World) (B : Nat) (T : TypeId) (k : Int) (t : ByteArray) (u : Value) : Prop := w.heap[B]? = some (.cells #[.int .i64 k, .string t, u] T (0, 0))
theorem NBox.stays {w w' : World} {B : Nat} {T : TypeId} {k : Int} {t : ByteArray} {u : Value} (h : NBox w B T k t u) (hb : Below w.heap.size w w') : NBox w' B T k t u :=
  (hb.block B (Array.getElem?_eq_some_iff.1 h).1).trans h
theorem NBox.keeps {w w' : World} {O : Nat → Prop} {B : Nat} {T : TypeId} {k : Int} {t : ByteArray} {u : Value} (h : NBox w B T k t u) (hk : Keeps O w w') (hO : ¬ O B) : NBox w' B T k t u := hk.heap h hO
theorem NBox.cells {w : World} {B : Nat} {T : TypeId} {k : Int} {t : ByteArray} {u : Value} (h : NBox w B T k t u) :
    w.cell? ⟨B, 0, none⟩ = some (.int .i64 k) ∧ w.cell? ⟨B, 1, none⟩ = some (.string t) ∧ w.cell? ⟨B, 2, none⟩ = some u := ⟨cell_of_block h rfl, cell_of_block h rfl, cell_of_block h rfl⟩
theorem NBox.free {w : World} {B : Nat} {T : TypeId} {k : Int} {t : ByteArray} {u : Value} (h : NBox w B T k t u) :
    w.frozen? ⟨B, 0, none⟩ = false ∧ w.frozen? ⟨B, 1, none⟩ = false ∧ w.frozen? ⟨B, 2, none⟩ = false := ⟨frozen_of_row w B 0 _ _ h, frozen_of_row w B 1 _ _ h, frozen_of_row w B 2 _ _ h⟩
theorem NBox.lt {w : World} {B : Nat} {T : TypeId} {k : Int} {t : ByteArray} {u : Value} (h : NBox w B T k t u) : B < w.heap.size := (Array.getElem?_eq_some_iff.1 h).1
/-- all three set -/
theorem NBox.put {w : World} {B : Nat} {T : TypeId} {k k' : Int} {t t' : ByteArray} {u u' : Value} (h : NBox w B T k t u) :
    NBox (((w.setCell ⟨B, 0, none⟩ (.int .i64 k')).setCell ⟨B, 1, none⟩ (.string t')).setCell ⟨B, 2, none⟩ u') B T k' t' u' ∧ Keeps (fun b => b = B) w (((w.setCell ⟨B, 0, none⟩ (.int .i64 k')).setCell ⟨B, 1, none⟩ (.string t')).setCell ⟨B, 2, none⟩ u') := by
  have e0 := heap_setCell_same w B 0 _ _ (.int .i64 k') h
  have e1 := heap_setCell_same _ B 1 _ _ (.string t') e0
  have e2 := heap_setCell_same _ B 2 _ _ u' e1
  have hO : (fun b => b = B) B := rfl
  exact ⟨e2, ((keeps_set _ _ _ _ (O := fun b => b = B) hO).trans (keeps_set _ _ _ _ hO)).trans (keeps_set _ _ _ _ hO)⟩
theorem nbox_new (w : World) (T : TypeId) (k : Int) (t : ByteArray) (u : Value) : NBox (w.alloc (.cells #[.int .i64 k, .string t, u] T)) w.heap.size T k t u := World.alloc_heap_new w _
theorem NBox.two {w : World} {B : Nat} {T : TypeId} {k k' : Int} {t t' : ByteArray} {u u' : Value} (h : NBox w B T k t u) (h' : NBox w B T k' t' u') : k = k' ∧ t = t' ∧ u = u' := by
  unfold NBox at h h'
  rw [h] at h'
  simp only [Option.some.injEq, Obj.cells.injEq, Array.mk.injEq, List.cons.injEq, Value.int.injEq, Value.string.injEq, true_and, and_true] at h'
  exact h'
theorem NCells.zero {w : World} {b : Nat} {k : Int} {t : ByteArray} {u : Value} (h : NCells w b 0 k t u) : w.cell? ⟨b, 0, none⟩ = some (.int .i64 k) ∧ w.cell? ⟨b, 1, none⟩ = some (.string t) ∧ w.cell? ⟨b, 2, none⟩ = some u := h
theorem KidsApart.loose {w : World} {S : Nat → Prop} {v : Value} {l : List NodeT} (h : KidsApart w S v l) : KidsAt w (fun c => S c ∧ Loose w c) v l := by
  induction h with
  | mk S p cap l b o us T hp hlen hT hd hc hk ih =>
    refine .mk p cap l b o us (fun h => ⟨(hp h).1.1, (hp h).1.2, (hp h).2⟩) hlen hc fun i x hx => ?_
    have hi : i < l.length := (List.getElem?_eq_some_iff.1 hx).1
    exact (ih i x hx).mono fun c h => ⟨(hT i c hi h.1).1, h.2⟩
theorem Loose.keeps {w w' : World} {O : Nat → Prop} {b : Nat} (h : Loose w b) (hk : Keeps O w w') (hO : ¬ O b) : Loose w' b := h.keep fun hl => hk.block b hl hO
theorem Loose.stays {w w' : World} {b : Nat} (h : Loose w b) (hb : Below w.heap.size w w') : Loose w' b := h.keep fun hl => hb.block b hl
end Go.Sub
