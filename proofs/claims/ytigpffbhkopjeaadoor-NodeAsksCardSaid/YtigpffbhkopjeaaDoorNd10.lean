/- Paths of trees, and trees as texts, plainly. No condition but those that each law names. -/
import Derived.Test.YtigpffbhkopjeaaDoorNd1
import Derived.Lib.ItoaNum
namespace Go.Sub

def zs (p : List Nat) : List Int := p.map fun (i : Nat) => (i : Int)
@[simp] theorem zs_nil : zs [] = [] := rfl
@[simp] theorem zs_cons (i : Nat) (p : List Nat) : zs (i :: p) = (i : Int) :: zs p := rfl
theorem atN_nil (n : NodeT) : atN n [] = some n := by rw [atN]
theorem atN_cons (n : NodeT) (i : Int) (p : List Int) : atN n (i :: p) = if 0 ≤ i then (n.kids[i.toNat]?).bind (fun k => atN k p) else none := by
  rw [atN]; split
  · split <;> rename_i h <;> rw [h] <;> rfl
  · rfl
theorem withN_nil (n x : NodeT) : withN n [] x = some x := by rw [withN]
theorem withN_cons (n : NodeT) (i : Int) (p : List Int) (x : NodeT) : withN n (i :: p) x = if 0 ≤ i then (n.kids[i.toNat]?).bind (fun k => (withN k p x).map fun y => .mk n.kind n.text (n.kids.set i.toNat y)) else none := by
  rw [withN]; split
  · split <;> rename_i h <;> rw [h] <;> rfl
  · rfl
theorem atN_append : ∀ (p : List Int) (n : NodeT) (q : List Int), atN n (p ++ q) = (atN n p).bind (fun m => atN m q)
  | [], n, q => by rw [List.nil_append, atN_nil]; rfl
  | i :: p, n, q => by
    rw [List.cons_append, atN_cons, atN_cons]
    split
    · cases n.kids[i.toNat]? with
      | none => rfl
      | some k => exact atN_append p k q
    · rfl
theorem withN_some : ∀ (p : List Int) (n x : NodeT), (withN n p x).isSome = (atN n p).isSome
  | [], n, x => by rw [withN_nil, atN_nil]; rfl
  | i :: p, n, x => by
    rw [withN_cons, atN_cons]
    split
    · cases n.kids[i.toNat]? with
      | none => rfl
      | some k => have := withN_some p k x; simp only [Option.bind_some, Option.isSome_map]; exact this
    · rfl
theorem at_beyond (p : List Int) (n m : NodeT) (h : atN n p = some m) (x : NodeT) : atN n (p ++ [(m.kids.length : Int)]) = none ∧ withN n (p ++ [(m.kids.length : Int)]) x = none := by
  have h1 : atN n (p ++ [(m.kids.length : Int)]) = none := by
    rw [atN_append, h]
    show atN m [(m.kids.length : Int)] = none
    rw [atN_cons, if_pos (by omega)]
    simp
  refine ⟨h1, ?_⟩
  have := withN_some (p ++ [(m.kids.length : Int)]) n x
  rw [h1] at this
  cases hw : withN n (p ++ [(m.kids.length : Int)]) x with
  | none => rfl
  | some y => rw [hw] at this; cases this
theorem countL_set (l : List NodeT) (i : Nat) (k y : NodeT) (h : l[i]? = some k) : countL (l.set i y) + countN k = countL l + countN y := by
  induction l generalizing i with
  | nil => simp at h
  | cons z r ih =>
    cases i with
    | zero => simp at h; subst h; simp only [List.set_cons_zero, countL]; omega
    | succ i => simp at h; have := ih i h; simp only [List.set_cons_succ, countL]; omega
theorem with_at : ∀ (p : List Int) (n x m : NodeT), withN n p x = some m → atN m p = some x ∧ ∀ o, atN n p = some o → countN m + countN o = countN n + countN x
  | [], n, x, m, h => by
    rw [withN_nil] at h; cases h
    refine ⟨atN_nil _, fun o ho => ?_⟩
    rw [atN_nil] at ho; cases ho; omega
  | i :: p, n, x, m, h => by
    rw [withN_cons] at h
    split at h
    · rename_i h0
      cases hk : n.kids[i.toNat]? with
      | none => rw [hk] at h; cases h
      | some k =>
        rw [hk] at h
        simp only [Option.bind_some, Option.map_eq_some_iff] at h
        obtain ⟨y, hy, rfl⟩ := h
        obtain ⟨a1, a2⟩ := with_at p k x y hy
        have hl : i.toNat < n.kids.length := (List.getElem?_eq_some_iff.1 hk).1
        refine ⟨?_, fun o ho => ?_⟩
        · rw [atN_cons, if_pos h0, NodeT.kids_mk, List.getElem?_set_self hl]; exact a1
        · rw [atN_cons, if_pos h0, hk] at ho
          have := a2 o ho
          have h3 := countL_set n.kids i.toNat k y hk
          rw [countN_eq, countN_eq n, NodeT.kids_mk]; omega
    · cases h
/-- two paths part somewhere -/
def apartN : List Int → List Int → Bool
  | i :: p, j :: q => decide (i ≠ j) || apartN p q
  | _, _ => false
theorem with_apart : ∀ (p q : List Int) (n x m : NodeT), withN n p x = some m → apartN p q = true → atN m q = atN n q
  | [], _, _, _, _, _, h => by simp [apartN] at h
  | _ :: _, [], _, _, _, _, h => by simp [apartN] at h
  | i :: p, j :: q, n, x, m, hw, h => by
    rw [withN_cons] at hw
    split at hw
    · rename_i h0
      cases hk : n.kids[i.toNat]? with
      | none => rw [hk] at hw; cases hw
      | some k =>
        rw [hk] at hw
        simp only [Option.bind_some, Option.map_eq_some_iff] at hw
        obtain ⟨y, hy, rfl⟩ := hw
        have hl : i.toNat < n.kids.length := (List.getElem?_eq_some_iff.1 hk).1
        rw [atN_cons, atN_cons, NodeT.kids_mk]
        by_cases hj : 0 ≤ j
        · rw [if_pos hj, if_pos hj]
          by_cases e : i = j
          · subst e
            rw [List.getElem?_set_self hl, hk]
            simp only [apartN, ne_eq, not_true_eq_false, decide_false, Bool.false_or] at h
            exact with_apart p q k x y hy h
          · rw [List.getElem?_set_ne (by omega)]
        · rw [if_neg hj, if_neg hj]
    · cases hw
-- the paths of a tree
theorem pathsL_mem : ∀ (l : List NodeT) (i : Nat) (p : List Nat), p ∈ pathsL l i ↔ ∃ j q k, l[j]? = some k ∧ q ∈ pathsN k ∧ p = (i + j) :: q
  | [], i, p => by simp [pathsL]
  | x :: r, i, p => by
    rw [pathsL, List.mem_append, List.mem_map, pathsL_mem r (i + 1) p]
    constructor
    · rintro (⟨q, hq, rfl⟩ | ⟨j, q, k, hk, hq, rfl⟩)
      · exact ⟨0, q, x, rfl, hq, rfl⟩
      · exact ⟨j + 1, q, k, hk, hq, by rw [show i + 1 + j = i + (j + 1) by omega]⟩
    · rintro ⟨j, q, k, hk, hq, rfl⟩
      cases j with
      | zero => simp at hk; subst hk; exact .inl ⟨q, hq, rfl⟩
      | succ j => exact .inr ⟨j, q, k, by simpa using hk, hq, by rw [show i + 1 + j = i + (j + 1) by omega]⟩
theorem pathsL_take (l : List NodeT) (j : Nat) {x : NodeT} (h : l[j]? = some x) (i : Nat) : pathsL (l.take (j + 1)) i = pathsL (l.take j) i ++ (pathsN x).map ((i + j) :: ·) := by
  induction l generalizing i j with
  | nil => simp at h
  | cons y r ih =>
    cases j with
    | zero => simp at h; subst h; simp [pathsL]
    | succ j => simp at h; simp only [List.take_succ_cons, pathsL, ih j h (i + 1), List.append_assoc]; rw [show i + 1 + j = i + (j + 1) by omega]
theorem paths_at (n : NodeT) : ∀ p ∈ pathsN n, ∃ m, atN n (zs p) = some m := by
  refine NodeT.ind (p := fun n => ∀ p ∈ pathsN n, ∃ m, atN n (zs p) = some m) (fun n ih => ?_) n
  intro p hp
  rw [pathsN_eq] at hp
  rcases List.mem_cons.1 hp with rfl | hp
  · exact ⟨n, atN_nil n⟩
  · obtain ⟨j, q, k, hk, hq, rfl⟩ := (pathsL_mem _ _ _).1 hp
    obtain ⟨m, hm⟩ := ih k (List.mem_of_getElem? hk) q hq
    refine ⟨m, ?_⟩
    rw [zs_cons, atN_cons, if_pos (by omega), Nat.zero_add, Int.toNat_natCast, hk]
    exact hm
mutual
theorem paths_length : ∀ n : NodeT, (pathsN n).length = countN n
  | .mk _ _ l => by rw [pathsN, countN, List.length_cons, pathsL_length l 0]; omega
theorem pathsL_length : ∀ (l : List NodeT) (i : Nat), (pathsL l i).length = countL l
  | [], i => by simp [pathsL, countL]
  | x :: r, i => by rw [pathsL, countL, List.length_append, List.length_map, paths_length x, pathsL_length r]
end
def longest (l : List (List Nat)) : Nat := l.foldl (fun a p => max a p.length) 0
theorem longest_foldl : ∀ (l : List (List Nat)) (a : Nat), l.foldl (fun a p => max a p.length) a = max a (longest l)
  | [], a => by simp [longest]
  | p :: r, a => by
    simp only [longest, List.foldl_cons]
    rw [longest_foldl r (max a p.length), longest_foldl r (max 0 p.length)]
    omega
theorem longest_append (a b : List (List Nat)) : longest (a ++ b) = max (longest a) (longest b) := by
  show (a ++ b).foldl _ 0 = _
  rw [List.foldl_append, longest_foldl b]; rfl
theorem longest_cons (p : List Nat) (b : List (List Nat)) : longest (p :: b) = max p.length (longest b) := by
  show (p :: b).foldl _ 0 = _
  rw [List.foldl_cons, longest_foldl b]; omega
theorem longest_map (i : Nat) : ∀ l : List (List Nat), longest (l.map (i :: ·)) = if l = [] then 0 else longest l + 1
  | [] => by simp [longest]
  | p :: r => by
    rw [List.map_cons, longest_cons, longest_cons, longest_map i r, if_neg (show ¬ (p :: r = []) from fun h => by cases h), List.length_cons]
    split
    · rename_i h; subst h; rw [show longest [] = 0 from rfl]; omega
    · omega
mutual
theorem deep_paths : ∀ n : NodeT, deepN n = longest (pathsN n) + 1
  | .mk _ _ l => by rw [deepN, pathsN, longest_cons, deepL_paths l 0]; simp; omega
theorem deepL_paths : ∀ (l : List NodeT) (i : Nat), deepL l = longest (pathsL l i)
  | [], i => by simp [deepL, pathsL, longest]
  | x :: r, i => by
    rw [deepL, pathsL, longest_append, longest_map, if_neg (fun h => ?_), deep_paths x, deepL_paths r (i + 1)]
    have := paths_length x; have := countN_pos x; rw [h] at *; simp at *; omega
end
theorem nodup_map_cons (i : Nat) {l : List (List Nat)} (h : l.Nodup) : (l.map (i :: ·)).Nodup := by
  induction l with
  | nil => simp
  | cons p r ih =>
    rw [List.nodup_cons] at h
    rw [List.map_cons, List.nodup_cons]
    refine ⟨fun hm => ?_, ih h.2⟩
    obtain ⟨q, hq, e⟩ := List.mem_map.1 hm
    injection e with _ e
    exact h.1 (e ▸ hq)
mutual
theorem paths_nodup : ∀ n : NodeT, (pathsN n).Nodup
  | .mk _ _ l => by
    rw [pathsN, List.nodup_cons]
    refine ⟨fun h => ?_, pathsL_nodup l 0⟩
    obtain ⟨j, q, k, _, _, e⟩ := (pathsL_mem _ _ _).1 h
    cases e
theorem pathsL_nodup : ∀ (l : List NodeT) (i : Nat), (pathsL l i).Nodup
  | [], i => by simp [pathsL]
  | x :: r, i => by
    rw [pathsL, List.nodup_append]
    refine ⟨nodup_map_cons i (paths_nodup x), pathsL_nodup r (i + 1), ?_⟩
    intro p hp p' hp' e
    subst e
    obtain ⟨q, _, rfl⟩ := List.mem_map.1 hp
    obtain ⟨j, q', k, _, _, e⟩ := (pathsL_mem _ _ _).1 hp'
    injection e with e _
    omega
end
-- as a text
mutual
def showN (Q : ByteArray → List UInt8) : NodeT → List UInt8
  | .mk k t l => 40 :: (Lib.itoa k ++ 32 :: (Q t ++ (showL Q l ++ [41])))
def showL (Q : ByteArray → List UInt8) : List NodeT → List UInt8
  | [] => []
  | x :: r => showN Q x ++ showL Q r
end
theorem showN_eq (Q : ByteArray → List UInt8) (n : NodeT) : showN Q n = 40 :: (Lib.itoa n.kind ++ 32 :: (Q n.text ++ (showL Q n.kids ++ [41]))) := by cases n; rw [showN]; rfl
theorem showL_append (Q : ByteArray → List UInt8) (a b : List NodeT) : showL Q (a ++ b) = showL Q a ++ showL Q b := by
  induction a with
  | nil => simp [showL]
  | cons x r ih => simp only [List.cons_append, showL, ih, List.append_assoc]
theorem decDigits_inj : ∀ (a b : Nat) (s t : List UInt8), Lib.decDigits a ++ 32 :: s = Lib.decDigits b ++ 32 :: t → a = b ∧ s = t := by
  have dig : ∀ u : Nat, ∀ c ∈ Lib.decDigits u, c ≠ 32 := by
    intro u
    induction u using Nat.strongRecOn with
    | _ u ih =>
      intro c hc
      rw [Lib.decDigits] at hc
      split at hc
      · simp only [List.mem_singleton] at hc; subst hc
        intro e; have := congrArg UInt8.toNat e; simp at this; omega
      · rcases List.mem_append.1 hc with h | h
        · exact ih (u / 10) (by omega) c h
        · simp only [List.mem_singleton] at h; subst h
          intro e; have := congrArg UInt8.toNat e; simp at this; omega
  have cut : ∀ (x y s t : List UInt8), (∀ c ∈ x, c ≠ 32) → (∀ c ∈ y, c ≠ 32) → x ++ 32 :: s = y ++ 32 :: t → x = y ∧ s = t := by
    intro x
    induction x with
    | nil =>
      intro y s t _ hy e
      cases y with
      | nil => simp at e; exact ⟨rfl, e⟩
      | cons c r => simp only [List.nil_append, List.cons_append] at e; injection e with e _; exact absurd e.symm (hy c (by simp))
    | cons d x ih =>
      intro y s t hx hy e
      cases y with
      | nil => simp only [List.nil_append, List.cons_append] at e; injection e with e _; exact absurd e (hx d (by simp))
      | cons c r =>
        simp only [List.cons_append] at e
        injection e with e1 e2
        obtain ⟨h1, h2⟩ := ih r s t (fun c h => hx c (by simp [h])) (fun c h => hy c (by simp [h])) e2
        exact ⟨by rw [e1, h1], h2⟩
  have inj : ∀ a b : Nat, Lib.decDigits a = Lib.decDigits b → a = b := by
    intro a
    induction a using Nat.strongRecOn with
    | _ a ih =>
      intro b e
      have pos : ∀ u : Nat, Lib.decDigits u ≠ [] := by
        intro u h; rw [Lib.decDigits] at h; split at h <;> simp at h
      rw [Lib.decDigits, Lib.decDigits.eq_1 b] at e
      split at e
      · split at e
        · simp only [List.cons.injEq, and_true] at e
          have := congrArg UInt8.toNat e; simp at this; omega
        · have := congrArg List.length e
          rw [List.length_append] at this
          have h2 := pos (b / 10)
          have h3 : (Lib.decDigits (b / 10)).length ≠ 0 := fun h => h2 (List.eq_nil_of_length_eq_zero h)
          simp only [List.length_cons, List.length_nil] at this; omega
      · split at e
        · have := congrArg List.length e
          rw [List.length_append] at this
          have h2 := pos (a / 10)
          have h3 : (Lib.decDigits (a / 10)).length ≠ 0 := fun h => h2 (List.eq_nil_of_length_eq_zero h)
          simp only [List.length_cons, List.length_nil] at this; omega
        · obtain ⟨e1, e2⟩ := List.append_inj' e rfl
          have := ih (a / 10) (by omega) (b / 10) e1
          simp only [List.cons.injEq, and_true] at e2
          have := congrArg UInt8.toNat e2; simp at this; omega
  intro a b s t e
  obtain ⟨h1, h2⟩ := cut _ _ s t (dig a) (dig b) e
  exact ⟨inj a b h1, h2⟩
/-- trees of such kinds and texts alone -/
def goodN (T : List ByteArray) (n : NodeT) : Prop := ∀ (p : List Int) m, atN n p = some m → 0 ≤ m.kind ∧ m.kind ≤ 255 ∧ m.text ∈ T
theorem goodN.kid {T : List ByteArray} {n x : NodeT} (h : goodN T n) (hx : x ∈ n.kids) : goodN T x := by
  intro p m hm
  obtain ⟨i, hi, rfl⟩ := List.getElem_of_mem hx
  refine h ((i : Int) :: p) m ?_
  rw [atN_cons, if_pos (by omega), Int.toNat_natCast, List.getElem?_eq_getElem hi]
  exact hm
theorem goodN.top {T : List ByteArray} {n : NodeT} (h : goodN T n) : 0 ≤ n.kind ∧ n.kind ≤ 255 ∧ n.text ∈ T := h [] n (atN_nil n)
theorem goodN.mk {T : List ByteArray} {n : NodeT} (h : 0 ≤ n.kind ∧ n.kind ≤ 255 ∧ n.text ∈ T) (hk : ∀ x ∈ n.kids, goodN T x) : goodN T n := by
  intro p m hm
  cases p with
  | nil => rw [atN_nil] at hm; cases hm; exact h
  | cons i p =>
    rw [atN_cons] at hm
    split at hm
    · cases hkk : n.kids[i.toNat]? with
      | none => rw [hkk] at hm; cases hm
      | some k => rw [hkk] at hm; exact hk k (List.mem_of_getElem? hkk) p m hm
    · cases hm
/-- no text of a list is ahead of another one -/
def apartQ (Q : ByteArray → List UInt8) (T : List ByteArray) : Prop := ∀ a ∈ T, ∀ b ∈ T, ∀ s t : List UInt8, Q a ++ s = Q b ++ t → a = b ∧ s = t
theorem show_inj {Q : ByteArray → List UInt8} {T : List ByteArray} (hQ : apartQ Q T) : ∀ (n : NodeT), goodN T n → ∀ (m : NodeT) (s t : List UInt8), goodN T m → showN Q n ++ s = showN Q m ++ t → n = m ∧ s = t := by
  refine NodeT.ind fun n ih hn m s t hm e => ?_
  obtain ⟨k, x, l⟩ := n
  obtain ⟨k', x', l'⟩ := m
  obtain ⟨n0, n1, n2⟩ := hn.top
  obtain ⟨m0, m1, m2⟩ := hm.top
  simp only [NodeT.kind_mk, NodeT.text_mk] at n0 n1 n2 m0 m1 m2
  have hit : ∀ z : Int, 0 ≤ z → Lib.itoa z = Lib.decDigits z.toNat := fun z hz => by unfold Lib.itoa; rw [if_neg (by omega)]
  rw [showN, showN, hit k n0, hit k' m0] at e
  simp only [List.cons_append, List.append_assoc] at e
  injection e with _ e
  obtain ⟨e1, e⟩ := decDigits_inj _ _ _ _ e
  obtain ⟨e2, e⟩ := hQ x n2 x' m2 _ _ e
  have key : ∀ (l l' : List NodeT) (s t : List UInt8), (∀ y ∈ l, goodN T y ∧ ∀ (m : NodeT) (s t : List UInt8), goodN T m → showN Q y ++ s = showN Q m ++ t → y = m ∧ s = t) → (∀ y ∈ l', goodN T y) → showL Q l ++ 41 :: s = showL Q l' ++ 41 :: t → l = l' ∧ s = t := by
    intro l
    induction l with
    | nil =>
      intro l' s t _ h2 e
      cases l' with
      | nil => simp [showL] at e; exact ⟨rfl, e⟩
      | cons y r => obtain ⟨a, b, c⟩ := y; simp only [showL, showN, List.nil_append, List.cons_append] at e; injection e with e _; exact absurd e (by decide)
    | cons y r ihr =>
      intro l' s t h1 h2 e
      cases l' with
      | nil => obtain ⟨a, b, c⟩ := y; simp only [showL, showN, List.nil_append, List.cons_append] at e; injection e with e _; exact absurd e (by decide)
      | cons y' r' =>
        simp only [showL, List.append_assoc] at e
        obtain ⟨e1, e2⟩ := (h1 y (by simp)).2 y' _ _ (h2 y' (by simp)) e
        obtain ⟨e3, e4⟩ := ihr r' s t (fun z hz => h1 z (by simp [hz])) (fun z hz => h2 z (by simp [hz])) e2
        exact ⟨by rw [e1, e3], e4⟩
  obtain ⟨e3, e4⟩ := key l l' s t (fun y hy => ⟨hn.kid hy, ih y hy (hn.kid hy)⟩) (fun y hy => hm.kid hy) (by simpa using e)
  exact ⟨by rw [show k = k' by omega, e2, e3], e4⟩
theorem show_same {Q : ByteArray → List UInt8} {T : List ByteArray} (hQ : apartQ Q T) {n m : NodeT} (hn : goodN T n) (hm : goodN T m) : (showN Q n = showN Q m) = (n = m) := by
  apply propext
  constructor
  · intro e; exact (show_inj hQ n hn m [] [] hm (by rw [e])).1
  · intro e; rw [e]
end Go.Sub
