/- Trees of nodes, plainly: how many, how deep, what is left of a weight, by a path, another one at a path, all paths. No condition. -/
import Derived.WalkKit
import Derived.ProofKit
namespace Go.Sub

/-- a node: its kind, its text, its kids -/
inductive NodeT where
  | mk (kind : Int) (text : ByteArray) (kids : List NodeT)

def NodeT.kind : NodeT → Int | .mk k _ _ => k
def NodeT.text : NodeT → ByteArray | .mk _ t _ => t
def NodeT.kids : NodeT → List NodeT | .mk _ _ l => l
@[simp] theorem NodeT.kind_mk (k t l) : (NodeT.mk k t l).kind = k := rfl
@[simp] theorem NodeT.text_mk (k t l) : (NodeT.mk k t l).text = t := rfl
@[simp] theorem NodeT.kids_mk (k t l) : (NodeT.mk k t l).kids = l := rfl
theorem NodeT.eta (n : NodeT) : NodeT.mk n.kind n.text n.kids = n := by cases n; rfl

mutual
def countN : NodeT → Nat
  | .mk _ _ l => 1 + countL l
def countL : List NodeT → Nat
  | [] => 0
  | x :: r => countN x + countL r
end
mutual
def deepN : NodeT → Nat
  | .mk _ _ l => 1 + deepL l
def deepL : List NodeT → Nat
  | [] => 0
  | x :: r => max (deepN x) (deepL r)
end
-- how much there is of a tree
mutual
def weightN : NodeT → Nat
  | .mk _ t l => 1 + t.size + weightL l
def weightL : List NodeT → Nat
  | [] => 0
  | x :: r => weightN x + weightL r
end
mutual
def leftN : NodeT → Int → Int
  | .mk _ t l, m => leftL l (m - (1 + (t.size : Int)))
def leftL : List NodeT → Int → Int
  | [], m => m
  | x :: r, m => if 0 ≤ m then leftL r (leftN x m) else m
end
mutual
def pathsN : NodeT → List (List Nat)
  | .mk _ _ l => [] :: pathsL l 0
def pathsL : List NodeT → Nat → List (List Nat)
  | [], _ => []
  | x :: r, i => (pathsN x).map (i :: ·) ++ pathsL r (i + 1)
end
mutual
def eqN : NodeT → NodeT → Bool
  | .mk k t l, .mk k' t' l' => decide (k = k') && decide (t = t') && eqL l l'
def eqL : List NodeT → List NodeT → Bool
  | [], [] => true
  | x :: r, y :: r' => eqN x y && eqL r r'
  | [], _ :: _ => false
  | _ :: _, [] => false
end
/-- by a path of numbers -/
def atN : NodeT → List Int → Option NodeT
  | n, [] => some n
  | n, i :: p => if 0 ≤ i then match n.kids[i.toNat]? with | some k => atN k p | none => none else none
def withN : NodeT → List Int → NodeT → Option NodeT
  | _, [], x => some x
  | n, i :: p, x => if 0 ≤ i then match n.kids[i.toNat]? with | some k => (withN k p x).map fun y => .mk n.kind n.text (n.kids.set i.toNat y) | none => none else none

mutual
def tmaxN : NodeT → Nat
  | .mk _ t l => max t.size (tmaxL l)
def tmaxL : List NodeT → Nat
  | [] => 0
  | x :: r => max (tmaxN x) (tmaxL r)
end
theorem tmaxL_mem {l : List NodeT} {x : NodeT} (h : x ∈ l) : tmaxN x ≤ tmaxL l := by
  induction l with
  | nil => cases h
  | cons y r ih =>
    rw [tmaxL]
    rcases List.mem_cons.1 h with rfl | h
    · omega
    · have := ih h; omega
theorem tmaxN_eq (n : NodeT) : tmaxN n = max n.text.size (tmaxL n.kids) := by cases n; rw [tmaxN]; rfl
mutual
theorem tmax_le_weight : ∀ n : NodeT, tmaxN n ≤ weightN n
  | .mk _ t l => by rw [tmaxN, weightN]; have := tmaxL_le_weight l; omega
theorem tmaxL_le_weight : ∀ l : List NodeT, tmaxL l ≤ weightL l
  | [] => by simp [tmaxL]
  | x :: r => by rw [tmaxL, weightL]; have := tmax_le_weight x; have := tmaxL_le_weight r; omega
end
theorem countN_eq (n : NodeT) : countN n = 1 + countL n.kids := by cases n; rw [countN]; rfl
theorem deepN_eq (n : NodeT) : deepN n = 1 + deepL n.kids := by cases n; rw [deepN]; rfl
theorem weightN_eq (n : NodeT) : weightN n = 1 + n.text.size + weightL n.kids := by cases n; rw [weightN]; rfl
theorem leftN_eq (n : NodeT) (m : Int) : leftN n m = leftL n.kids (m - (1 + (n.text.size : Int))) := by cases n; rw [leftN]; rfl
theorem pathsN_eq (n : NodeT) : pathsN n = [] :: pathsL n.kids 0 := by cases n; rw [pathsN]; rfl
theorem countN_pos (n : NodeT) : 0 < countN n := by rw [countN_eq]; omega
theorem weightN_pos (n : NodeT) : 0 < weightN n := by rw [weightN_eq]; omega
theorem countL_mem {l : List NodeT} {x : NodeT} (h : x ∈ l) : countN x ≤ countL l := by
  induction l with
  | nil => cases h
  | cons y r ih =>
    rw [countL]
    rcases List.mem_cons.1 h with rfl | h
    · omega
    · have := ih h; omega
theorem countL_take (l : List NodeT) (i : Nat) {x : NodeT} (h : l[i]? = some x) : countL (l.take (i + 1)) = countL (l.take i) + countN x := by
  induction l generalizing i with
  | nil => simp at h
  | cons y r ih =>
    cases i with
    | zero => simp at h; subst h; simp [countL]
    | succ i => simp at h; simp only [List.take_succ_cons, countL, ih i h]; omega
theorem countL_le_length (l : List NodeT) : l.length ≤ countL l := by
  induction l with
  | nil => simp [countL]
  | cons y r ih => rw [countL, List.length_cons]; have := countN_pos y; omega
theorem deepL_take (l : List NodeT) (i : Nat) {x : NodeT} (h : l[i]? = some x) : deepL (l.take (i + 1)) = max (deepL (l.take i)) (deepN x) := by
  induction l generalizing i with
  | nil => simp at h
  | cons y r ih =>
    cases i with
    | zero => simp at h; subst h; simp [deepL]
    | succ i => simp at h; simp only [List.take_succ_cons, deepL, ih i h]; omega
theorem deepL_take_le (l : List NodeT) (i : Nat) : deepL (l.take i) ≤ deepL l := by
  induction l generalizing i with
  | nil => simp
  | cons y r ih =>
    cases i with
    | zero => simp [deepL]
    | succ i => simp only [List.take_succ_cons, deepL]; have := ih i; omega
theorem countL_append (a b : List NodeT) : countL (a ++ b) = countL a + countL b := by
  induction a with
  | nil => simp [countL]
  | cons y r ih => simp only [List.cons_append, countL, ih]; omega
theorem weightL_append (a b : List NodeT) : weightL (a ++ b) = weightL a + weightL b := by
  induction a with
  | nil => simp [weightL]
  | cons y r ih => simp only [List.cons_append, weightL, ih]; omega
mutual
theorem count_le_weight : ∀ n : NodeT, countN n ≤ weightN n
  | .mk _ t l => by rw [countN, weightN]; have := countL_le_weight l; omega
theorem countL_le_weight : ∀ l : List NodeT, countL l ≤ weightL l
  | [] => by simp [countL]
  | x :: r => by rw [countL, weightL]; have := count_le_weight x; have := countL_le_weight r; omega
end
mutual
theorem deep_le_count : ∀ n : NodeT, deepN n ≤ countN n
  | .mk _ t l => by rw [countN, deepN]; have := deepL_le_count l; omega
theorem deepL_le_count : ∀ l : List NodeT, deepL l ≤ countL l
  | [] => by simp [deepL]
  | x :: r => by rw [countL, deepL]; have := deep_le_count x; have := deepL_le_count r; omega
end
-- what is left: all but the weight, or less than nothing
mutual
theorem leftN_low : ∀ (n : NodeT) (m : Int), leftN n m ≤ m
  | .mk _ t l, m => by rw [leftN]; have := leftL_low l (m - (1 + (t.size : Int))); omega
theorem leftL_low : ∀ (l : List NodeT) (m : Int), leftL l m ≤ m
  | [], m => by rw [leftL]; omega
  | x :: r, m => by
    rw [leftL]
    split
    · have := leftN_low x m; have := leftL_low r (leftN x m); omega
    · omega
end
mutual
theorem leftN_is : ∀ (n : NodeT) (m : Int), 0 ≤ leftN n m → leftN n m = m - weightN n
  | .mk _ t l, m, h => by
    rw [leftN] at h ⊢
    rw [leftL_is l _ h, weightN]; omega
theorem leftL_is : ∀ (l : List NodeT) (m : Int), 0 ≤ leftL l m → leftL l m = m - weightL l
  | [], m, h => by rw [leftL, weightL]; omega
  | x :: r, m, h => by
    rw [leftL] at h ⊢
    split at h
    · rename_i hm
      rw [if_pos hm, leftL_is r _ h, weightL]
      have h2 := leftL_low r (leftN x m)
      rw [leftN_is x m (by omega)]; omega
    · omega
end
theorem leftL_neg (l : List NodeT) {m : Int} (h : m < 0) : leftL l m = m := by
  cases l with
  | nil => rw [leftL]
  | cons x r => rw [leftL, if_neg (by omega)]
theorem leftL_take (l : List NodeT) (i : Nat) {x : NodeT} (h : l[i]? = some x) (m : Int) (hm : 0 ≤ leftL (l.take i) m) : leftL (l.take (i + 1)) m = leftN x (leftL (l.take i) m) := by
  induction l generalizing i m with
  | nil => simp at h
  | cons y r ih =>
    cases i with
    | zero =>
      simp at h; subst h
      simp only [List.take_zero, leftL] at hm ⊢
      simp [leftL, hm]
    | succ i =>
      simp at h
      simp only [List.take_succ_cons, leftL] at hm ⊢
      split at hm
      · rename_i h0
        rw [if_pos h0, if_pos h0, ih i h _ hm]
      · omega
theorem leftL_stop (l : List NodeT) (i : Nat) (m : Int) (hm : leftL (l.take i) m < 0) : leftL l m = leftL (l.take i) m := by
  induction l generalizing i m with
  | nil => simp
  | cons y r ih =>
    cases i with
    | zero => simp only [List.take_zero, leftL] at hm ⊢; rw [if_neg (by omega)]
    | succ i =>
      simp only [List.take_succ_cons, leftL] at hm ⊢
      split
      · rename_i h0; rw [if_pos h0] at hm; exact ih i _ hm
      · rfl
mutual
theorem eqN_iff : ∀ a b : NodeT, eqN a b = true ↔ a = b
  | .mk k t l, .mk k' t' l' => by
    rw [eqN]
    have := eqL_iff l l'
    simp only [Bool.and_eq_true, decide_eq_true_eq, NodeT.mk.injEq, this]
    exact and_assoc
theorem eqL_iff : ∀ a b : List NodeT, eqL a b = true ↔ a = b
  | [], [] => by simp [eqL]
  | x :: r, y :: r' => by
    rw [eqL]
    have := eqL_iff r r'
    have := eqN_iff x y
    simp [*]
  | [], _ :: _ => by simp [eqL]
  | _ :: _, [] => by simp [eqL]
end
/-- a law for trees by their kids -/
theorem NodeT.ind {p : NodeT → Prop} (h : ∀ n : NodeT, (∀ x ∈ n.kids, p x) → p n) : ∀ n, p n := by
  intro n
  generalize hk : countN n = k
  induction k using Nat.strongRecOn generalizing n with
  | _ k ih =>
    refine h n fun x hx => ih (countN x) ?_ x rfl
    have := countL_mem hx
    rw [countN_eq] at hk
    omega
end Go.Sub
