/- The tree of choices, plainly. No condition. -/
import Derived.Test.YtigpffbhkopjeaaDoorNd10
namespace Go.Sub

def treeTexts : List ByteArray := [⟨#[]⟩, ⟨#[97]⟩, ⟨#[124]⟩, ⟨#[36, 120]⟩, ⟨#[46]⟩, ⟨#[101, 108, 115, 101]⟩, ⟨#[98, 48]⟩, ⟨#[10]⟩]
def textAt (k : Nat) : ByteArray := treeTexts.getD k ⟨#[]⟩
/-- how many of the last ones become kids -/
def takeN (l : List NodeT) (b : UInt8) : Nat := min (b.toNat / 8 % 4) l.length
def treeStep (l : List NodeT) (a b : UInt8) : List NodeT :=
  l.take (l.length - takeN l b) ++ [.mk (a.toNat % 40 : Nat) (textAt (b.toNat % 8)) (l.drop (l.length - takeN l b))]
/-- behind j pairs of choices -/
def treeL (c : List UInt8) : Nat → List NodeT
  | 0 => [.mk 1 ⟨#[]⟩ []]
  | j + 1 => treeStep (treeL c j) (c.getD (2 * j) 0) (c.getD (2 * j + 1) 0)
def treeJ (c : List UInt8) : Nat := min 30 (c.length / 2)
def treeN (c : List UInt8) : NodeT := .mk 10 ⟨#[]⟩ (treeL c (treeJ c))

theorem takeN_le (l : List NodeT) (b : UInt8) : takeN l b ≤ l.length := Nat.min_le_right _ _
theorem treeStep_len (l : List NodeT) (a b : UInt8) : (treeStep l a b).length = l.length - takeN l b + 1 := by
  unfold treeStep; rw [List.length_append, List.length_take, List.length_singleton]; omega
theorem treeL_len (c : List UInt8) : ∀ j, 1 ≤ (treeL c j).length ∧ (treeL c j).length ≤ j + 1
  | 0 => by simp [treeL]
  | j + 1 => by
    have := treeL_len c j
    rw [treeL, treeStep_len]; omega
theorem countL_treeStep (l : List NodeT) (a b : UInt8) : countL (treeStep l a b) = countL l + 1 := by
  unfold treeStep
  rw [countL_append]
  have h := countL_append (l.take (l.length - takeN l b)) (l.drop (l.length - takeN l b))
  rw [List.take_append_drop] at h
  simp only [countL, countN]; omega
theorem countL_treeL (c : List UInt8) : ∀ j, countL (treeL c j) = j + 1
  | 0 => by simp [treeL, countL, countN]
  | j + 1 => by rw [treeL, countL_treeStep, countL_treeL c j]
theorem count_tree (c : List UInt8) : countN (treeN c) ≤ 32 := by
  unfold treeN; rw [countN, countL_treeL]; unfold treeJ; omega
theorem textAt_mem (k : Nat) : textAt k ∈ treeTexts := by
  unfold textAt
  rw [List.getD_eq_getElem?_getD]
  by_cases h : k < treeTexts.length
  · rw [List.getElem?_eq_getElem h]; exact List.getElem_mem h
  · rw [List.getElem?_eq_none (by omega)]; exact List.mem_cons_self
theorem good_treeL (c : List UInt8) : ∀ j, ∀ x ∈ treeL c j, goodN treeTexts x
  | 0, x, h => by
    simp only [treeL, List.mem_singleton] at h
    subst h
    exact goodN.mk ⟨by simp, by simp, List.mem_cons_self⟩ (fun x h => by cases h)
  | j + 1, x, h => by
    rw [treeL] at h
    unfold treeStep at h
    rcases List.mem_append.1 h with h | h
    · exact good_treeL c j x (List.mem_of_mem_take h)
    · rw [List.mem_singleton.1 h]
      refine goodN.mk ⟨?_, ?_, textAt_mem _⟩ fun y hy => good_treeL c j y (List.mem_of_mem_drop hy)
      · rw [NodeT.kind_mk]; omega
      · rw [NodeT.kind_mk]; omega
theorem good_tree (c : List UInt8) : goodN treeTexts (treeN c) :=
  goodN.mk ⟨by simp [treeN], by simp [treeN], List.mem_cons_self⟩ fun x hx => good_treeL c _ x hx
/-- how much there is of a good tree -/
theorem good_weight : ∀ n : NodeT, goodN treeTexts n → weightN n ≤ 5 * countN n := by
  refine NodeT.ind fun n ih hn => ?_
  have ht : ∀ t ∈ treeTexts, t.size ≤ 4 := by
    intro t h
    simp only [treeTexts, List.mem_cons, List.not_mem_nil, or_false] at h
    rcases h with rfl | rfl | rfl | rfl | rfl | rfl | rfl | rfl <;> decide
  have hk : ∀ l : List NodeT, (∀ x ∈ l, weightN x ≤ 5 * countN x) → weightL l ≤ 5 * countL l := by
    intro l
    induction l with
    | nil => intro _; simp [weightL, countL]
    | cons x r ihr =>
      intro h
      have := h x (by simp)
      have := ihr fun y hy => h y (by simp [hy])
      simp only [weightL, countL]; omega
  have h1 := ht _ hn.top.2.2
  have h2 := hk n.kids fun x hx => ih x hx (hn.kid hx)
  rw [weightN_eq, countN_eq]; omega
theorem weight_tree (c : List UInt8) : weightN (treeN c) ≤ 160 := by
  have := good_weight _ (good_tree c); have := count_tree c; omega
end Go.Sub
