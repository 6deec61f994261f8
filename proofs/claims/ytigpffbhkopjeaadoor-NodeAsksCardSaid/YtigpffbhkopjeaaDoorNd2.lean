/- How a tree of nodes lies in memory: a row of three cells each, of which the third is the row of its kids. No condition. -/
import Derived.Test.YtigpffbhkopjeaaDoorNd1
import Derived.Test.YtigpffbhkopjeaaDoorAppend
namespace Go.Sub
open Go.RowKit

/-- three cells of a node -/
def NCells (w : World) (b o : Nat) (k : Int) (t : ByteArray) (u : Value) : Prop :=
  w.cell? ⟨b, o, none⟩ = some (.int .i64 k) ∧ w.cell? ⟨b, o + 1, none⟩ = some (.string t) ∧ w.cell? ⟨b, o + 2, none⟩ = some u
/-- a row of nodes, in blocks of S alone -/
inductive KidsAt (w : World) (S : Nat → Prop) : Value → List NodeT → Prop
  | mk (p : Option Addr) (cap : Nat) (l : List NodeT) (b o : Nat) (us : Nat → Value)
      (hp : 0 < l.length → p = some ⟨b, o, none⟩ ∧ S b) (hlen : l.length ≤ 4611686018427387904)
      (hc : ∀ i x, l[i]? = some x → NCells w b (o + i * 3) x.kind x.text (us i))
      (hk : ∀ i x, l[i]? = some x → KidsAt w S (us i) x.kids) : KidsAt w S (.slice p l.length cap) l
/-- a node as a value -/
def nodeV (n : NodeT) (u : Value) : Value := .agg #[.int .i64 n.kind, .string n.text, u]

theorem NCells.keep {w w' : World} {b o : Nat} {k : Int} {t : ByteArray} {u : Value} (h : NCells w b o k t u) (hc : ∀ o c, w.cell? ⟨b, o, none⟩ = some c → w'.cell? ⟨b, o, none⟩ = some c) : NCells w' b o k t u :=
  ⟨hc _ _ h.1, hc _ _ h.2.1, hc _ _ h.2.2⟩
theorem NCells.lt {w : World} {b o : Nat} {k : Int} {t : ByteArray} {u : Value} (h : NCells w b o k t u) : b < w.heap.size := World.block_lt_of_cell? _ _ h.1
theorem KidsAt.keep {w w' : World} {S S' : Nat → Prop} {v : Value} {l : List NodeT} (h : KidsAt w S v l) (hc : ∀ b o c, S b → w.cell? ⟨b, o, none⟩ = some c → w'.cell? ⟨b, o, none⟩ = some c) (hS : ∀ b, S b → S' b) : KidsAt w' S' v l := by
  induction h with
  | mk p cap l b o us hp hlen hcl hk ih =>
    refine .mk p cap l b o us (fun h => ⟨(hp h).1, hS _ (hp h).2⟩) hlen (fun i x hx => ?_) (fun i x hx => ih i x hx)
    have h0 : 0 < l.length := by have := (List.getElem?_eq_some_iff.1 hx).1; omega
    exact (hcl i x hx).keep fun o c h => hc b o c (hp h0).2 h
theorem KidsAt.mono {w : World} {S S' : Nat → Prop} {v : Value} {l : List NodeT} (h : KidsAt w S v l) (hS : ∀ b, S b → S' b) : KidsAt w S' v l := h.keep (fun _ _ _ _ h => h) hS
theorem KidsAt.stays {w w' : World} {S : Nat → Prop} {v : Value} {l : List NodeT} (h : KidsAt w S v l) (hb : Below w.heap.size w w') : KidsAt w' S v l :=
  h.keep (fun b o _ _ hc => (hb.cell (p := ⟨b, o, none⟩) (World.block_lt_of_cell? _ _ hc)).trans hc) fun _ h => h
theorem KidsAt.keeps {w w' : World} {S O : Nat → Prop} {v : Value} {l : List NodeT} (h : KidsAt w S v l) (hk : Keeps O w w') (hO : ∀ b, S b → ¬ O b) : KidsAt w' S v l :=
  h.keep (fun _ _ _ hs hc => hk.cell hc (hO _ hs)) fun _ h => h
/-- its blocks lie in the heap -/
theorem KidsAt.within {w : World} {S : Nat → Prop} {v : Value} {l : List NodeT} (h : KidsAt w S v l) : KidsAt w (fun b => S b ∧ b < w.heap.size) v l := by
  induction h with
  | mk p cap l b o us hp hlen hcl hk ih =>
    refine .mk p cap l b o us (fun h => ⟨(hp h).1, (hp h).2, ?_⟩) hlen hcl ih
    exact (hcl 0 (l[0]'h) (List.getElem?_eq_getElem h)).lt
theorem KidsAt.shape {w : World} {S : Nat → Prop} {v : Value} {l : List NodeT} (h : KidsAt w S v l) : ∃ p cap, v = .slice p l.length cap ∧ l.length ≤ 4611686018427387904 := by
  cases h; exact ⟨_, _, rfl, by assumption⟩
theorem KidsAt.kid {w : World} {S : Nat → Prop} {p : Option Addr} {n cap : Nat} {l : List NodeT} (h : KidsAt w S (.slice p n cap) l) {i : Nat} {x : NodeT} (hx : l[i]? = some x) :
    ∃ b o u, p = some ⟨b, o, none⟩ ∧ S b ∧ NCells w b (o + i * 3) x.kind x.text u ∧ KidsAt w S u x.kids := by
  generalize hv : Value.slice p n cap = v at h
  cases h with
  | mk p' cap' l b o us hp hlen hcl hk =>
    cases hv
    have h0 : 0 < l.length := by have := (List.getElem?_eq_some_iff.1 hx).1; omega
    exact ⟨b, o, us i, (hp h0).1, (hp h0).2, hcl i x hx, hk i x hx⟩
theorem KidsAt.nil (w : World) (S : Nat → Prop) : KidsAt w S (.slice none 0 0) [] :=
  .mk none 0 [] 0 0 (fun _ => .slice none 0 0) (fun h => absurd h (by simp)) (by simp) (fun i x h => by simp at h) (fun i x h => by simp at h)
/-- the first some -/
theorem KidsAt.take {w : World} {S : Nat → Prop} {p : Option Addr} {n cap : Nat} {l : List NodeT} (h : KidsAt w S (.slice p n cap) l) (k c : Nat) (hk : k ≤ n) : KidsAt w S (.slice p k c) (l.take k) := by
  generalize hv : Value.slice p n cap = v at h
  cases h with
  | mk p' cap' l b o us hp hlen hcl hkd =>
    cases hv
    have e : (l.take k).length = k := by rw [List.length_take]; omega
    have get : ∀ i x, (l.take k)[i]? = some x → l[i]? = some x := fun i x hx => by
      rw [List.getElem?_take] at hx
      split at hx
      · exact hx
      · cases hx
    have h2 := KidsAt.mk p c (l.take k) b o us (fun h => hp (by rw [e] at h; omega)) (by rw [e]; omega) (fun i x hx => hcl i x (get i x hx)) (fun i x hx => hkd i x (get i x hx))
    rwa [e] at h2
theorem addr_zero (g j : Nat) : (⟨g, 0, none⟩ : Addr).add j = ⟨g, j, none⟩ := by unfold Addr.add; split <;> simp_all
/-- how the cells of nodes lie in a row, given the rows of their kids -/
def nodeC : List NodeT → List Value → List Value
  | x :: r, u :: us => .int .i64 x.kind :: .string x.text :: u :: nodeC r us
  | _, _ => []
theorem nodeC_len : ∀ (l : List NodeT) (us : List Value), us.length = l.length → (nodeC l us).length = l.length * 3
  | [], _, _ => by simp [nodeC]
  | x :: r, [], h => by simp at h
  | x :: r, u :: us, h => by
    have ih := nodeC_len r us (by simpa using h)
    simp only [nodeC, List.length_cons, ih]; omega
theorem nodeC_snoc (x : NodeT) (u : Value) : ∀ (l : List NodeT) (us : List Value), us.length = l.length → nodeC (l ++ [x]) (us ++ [u]) = nodeC l us ++ [.int .i64 x.kind, .string x.text, u]
  | [], [], _ => rfl
  | [], _ :: _, h => by simp at h
  | y :: r, [], h => by simp at h
  | y :: r, w :: us, h => by
    have ih := nodeC_snoc x u r us (by simpa using h)
    simp only [List.cons_append, nodeC, ih]
theorem nodeC_get : ∀ {l : List NodeT} {us : List Value} {i : Nat} {x : NodeT} {u : Value}, l[i]? = some x → us[i]? = some u → (nodeC l us)[i * 3]? = some (.int .i64 x.kind) ∧ (nodeC l us)[i * 3 + 1]? = some (.string x.text) ∧ (nodeC l us)[i * 3 + 2]? = some u
  | [], _, i, x, u, h, _ => by simp at h
  | y :: r, [], i, x, u, _, h => by simp at h
  | y :: r, w :: us, 0, x, u, h, h' => by simp at h h'; subst h h'; exact ⟨rfl, rfl, rfl⟩
  | y :: r, w :: us, i + 1, x, u, h, h' => by
    simp at h h'
    have ih := nodeC_get h h'
    rw [show (i + 1) * 3 = i * 3 + 3 by omega]
    simp only [nodeC]
    exact ih
theorem nodeC_one : ∀ (l : List NodeT) (us : List Value), (∀ u ∈ us, u.oneCell' = true) → ∀ c ∈ nodeC l us, c.oneCell' = true
  | [], _, _, c, h => by simp [nodeC] at h
  | x :: r, [], _, c, h => by simp [nodeC] at h
  | x :: r, u :: us, hu, c, h => by
    simp only [nodeC, List.mem_cons] at h
    rcases h with rfl | rfl | rfl | h
    · rfl
    · rfl
    · exact hu _ (by simp)
    · exact nodeC_one r us (fun u h => hu u (by simp [h])) c h
/-- a row that one owns, of nodes whose kids lie in S -/
theorem KidsAt.of_own {w : World} {base : Nat} {e : TypeId} {S : Nat → Prop} {v : Value} {l : List NodeT} {us : List Value} (h : w.ownsRow base e 3 v l.length (nodeC l us)) (hl : us.length = l.length) (hn : l.length ≤ 4611686018427387904)
    (hS : ∀ g, some g = v.ownBlock → S g) (hk : ∀ (i : Nat) x u, l[i]? = some x → us[i]? = some u → KidsAt w S u x.kids) : KidsAt w S v l := by
  have hget : ∀ i x, l[i]? = some x → us[i]? = some (us.getD i (.slice none 0 0)) := fun i x hx => by
    have hi : i < us.length := by have := (List.getElem?_eq_some_iff.1 hx).1; omega
    rw [List.getD_eq_getElem?_getD, List.getElem?_eq_getElem hi]; rfl
  rcases h.2 with ⟨rfl, h0⟩ | ⟨g, cap, cur, rfl, hb, hg, hnc, hcm, hcs, htake⟩
  · have : l = [] := List.eq_nil_of_length_eq_zero h0
    subst this
    exact .nil w S
  · have cell : ∀ j c, (nodeC l us)[j]? = some c → w.cell? ⟨g, j, none⟩ = some c := fun j c hc => by
      have hx := (World.ownsRow.cells (g := g) h rfl) j c hc
      rwa [addr_zero] at hx
    refine .mk _ cap l g 0 (fun i => us.getD i (.slice none 0 0)) (fun _ => ⟨rfl, hS g rfl⟩) hn (fun i x hx => ?_) (fun i x hx => hk i x _ hx (hget i x hx))
    obtain ⟨c0, c1, c2⟩ := nodeC_get hx (hget i x hx)
    rw [Nat.zero_add]
    exact ⟨cell _ _ c0, cell _ _ c1, cell _ _ c2⟩
end Go.Sub
