/- How many nodes, and how deep: the code. Its condition: how the tree lies in memory; at most 10^9 nodes. -/
import Derived.Test.YtigpffbhkopjeaaDoorNd7
namespace Go.Proofs.YtigpffbhkopjeaaDoor
open Go.RowKit Go.Sub Go.Sort

/-- a row of numbers -/
def IntsAt (w : World) (S : Nat → Prop) (v : Value) (xs : List Int) : Prop := ∃ p cap b o, v = .slice p xs.length cap ∧ (0 < xs.length → p = some ⟨b, o, none⟩ ∧ S b) ∧ xs.length ≤ 4611686018427387904 ∧ ∀ (i : Nat) x, xs[i]? = some x → w.cell? ⟨b, o + i, none⟩ = some (.int .i64 x)
def intC (xs : List Int) : List Value := xs.map fun x => .int .i64 x
theorem IntsAt.keep {w w' : World} {S S' : Nat → Prop} {v : Value} {xs : List Int} (h : IntsAt w S v xs) (hc : ∀ b o c, S b → w.cell? ⟨b, o, none⟩ = some c → w'.cell? ⟨b, o, none⟩ = some c) (hS : ∀ b, S b → S' b) : IntsAt w' S' v xs := by
  obtain ⟨p, cap, b, o, e, hp, hl, hx⟩ := h
  refine ⟨p, cap, b, o, e, fun h => ⟨(hp h).1, hS _ (hp h).2⟩, hl, fun i x hi => hc _ _ _ (hp ?_).2 (hx i x hi)⟩
  have := (List.getElem?_eq_some_iff.1 hi).1; omega
theorem IntsAt.stays {w w' : World} {S : Nat → Prop} {v : Value} {xs : List Int} (h : IntsAt w S v xs) (hb : Below w.heap.size w w') : IntsAt w' S v xs :=
  h.keep (fun b o _ _ hc => (hb.cell (p := ⟨b, o, none⟩) (World.block_lt_of_cell? _ _ hc)).trans hc) fun _ h => h
theorem IntsAt.keeps {w w' : World} {S O : Nat → Prop} {v : Value} {xs : List Int} (h : IntsAt w S v xs) (hk : Keeps O w w') (hO : ∀ b, S b → ¬ O b) : IntsAt w' S v xs :=
  h.keep (fun _ _ _ hs hc => hk.cell hc (hO _ hs)) fun _ h => h
theorem IntsAt.mono {w : World} {S S' : Nat → Prop} {v : Value} {xs : List Int} (h : IntsAt w S v xs) (hS : ∀ b, S b → S' b) : IntsAt w S' v xs := h.keep (fun _ _ _ _ h => h) hS
theorem IntsAt.of_own {w : World} {base : Nat} {e : TypeId} {v : Value} {xs : List Int} {S : Nat → Prop} (h : w.ownsRow base e 1 v xs.length (intC xs)) (hl : xs.length ≤ 4611686018427387904) (hS : ∀ g, some g = v.ownBlock → S g) : IntsAt w S v xs := by
  rcases h.2 with ⟨rfl, h0⟩ | ⟨g, cap, cur, rfl, hb, hg, hnc, hcm, hcs, htake⟩
  · have : xs = [] := List.eq_nil_of_length_eq_zero h0
    subst this
    exact ⟨none, 0, 0, 0, rfl, fun h => absurd h (by simp), hl, fun i x h => by simp at h⟩
  · refine ⟨_, cap, g, 0, rfl, fun _ => ⟨rfl, hS g rfl⟩, hl, fun i x hx => ?_⟩
    have hc : (intC xs)[i]? = some (.int .i64 x) := by unfold intC; rw [List.getElem?_map, hx]; rfl
    have hx := (World.ownsRow.cells (g := g) h rfl) i _ hc
    rwa [addr_zero, show i = 0 + i by omega] at hx
theorem IntsAt.shape {w : World} {S : Nat → Prop} {v : Value} {xs : List Int} (h : IntsAt w S v xs) : ∃ p cap, v = .slice p xs.length cap ∧ xs.length ≤ 4611686018427387904 := by
  obtain ⟨p, cap, b, o, e, hp, hl, hx⟩ := h; exact ⟨p, cap, e, hl⟩
theorem IntsAt.at {w : World} {S : Nat → Prop} {p : Option Addr} {n cap : Nat} {xs : List Int} (h : IntsAt w S (.slice p n cap) xs) {i : Nat} {x : Int} (hi : xs[i]? = some x) : ∃ b o, p = some ⟨b, o, none⟩ ∧ S b ∧ w.cell? ⟨b, o + i, none⟩ = some (.int .i64 x) := by
  obtain ⟨p', cap', b, o, e, hp, hl, hx⟩ := h
  cases e
  have := hp (by have := (List.getElem?_eq_some_iff.1 hi).1; omega)
  exact ⟨b, o, this.1, this.2, hx i x hi⟩
def sumZ (xs : List Int) : Int := xs.sum
def maxZ (xs : List Int) : Int := xs.foldl max 0
theorem sumZ_take {xs : List Int} {i : Nat} {x : Int} (h : xs[i]? = some x) : sumZ (xs.take (i + 1)) = sumZ (xs.take i) + x := by
  unfold sumZ; rw [List.take_add_one, h]; simp
theorem maxZ_take {xs : List Int} {i : Nat} {x : Int} (h : xs[i]? = some x) : maxZ (xs.take (i + 1)) = max (maxZ (xs.take i)) x := by
  unfold maxZ; rw [List.take_add_one, h]; simp
theorem sumZ_take_le {xs : List Int} (h0 : ∀ x ∈ xs, 0 ≤ x) (i : Nat) : 0 ≤ sumZ (xs.take i) ∧ sumZ (xs.take i) ≤ sumZ xs := by
  induction xs generalizing i with
  | nil => simp [sumZ]
  | cons y r ih =>
    have hy := h0 y (by simp)
    have hr := ih (fun x hx => h0 x (by simp [hx]))
    cases i with
    | zero => have := hr r.length; rw [List.take_length] at this; simp [sumZ] at this ⊢; omega
    | succ i => have := hr i; simp [sumZ] at this ⊢; omega
set_option maxRecDepth 100000 in
set_option maxHeartbeats 1000000 in
theorem count1_calls (xs : List Int) (v : Value) (w : World) (S : Nat → Prop) (hv : IntsAt w S v xs) (h0 : ∀ x ∈ xs, 0 ≤ x) (hs : sumZ xs ≤ 1000000000) :
    Calls Tryd.prog 32 #[v] w fun e w' => e = .returned (.int .i64 (1 + sumZ xs)) ∧ Below w.heap.size w w' := by
  obtain ⟨p, cap, rfl, hl⟩ := hv.shape
  have HV := Lib.hid hv
  have H0 := Lib.hid h0
  clear hv h0
  go_enter Tryd.func32, Tryd.ntmps32
  go_wp2
  go_loopw [3, 8] (fun c i wr => ∃ j : Nat, j ≤ xs.length ∧ i = .int .i64 j ∧ c = .int .i64 (1 + sumZ (xs.take j)) ∧ Hid (Below w.heap.size w wr)) (fun _ i _ => xs.length - (intOf i).toNat)
  case atStart => exact ⟨0, Nat.zero_le _, rfl, rfl, Lib.hid (Below.refl _ _)⟩
  case round =>
    obtain ⟨j, hj, rfl, rfl, HW⟩ := hrel
    have hb := sumZ_take_le H0.out j
    by_cases hlt : j < xs.length
    · have hx := List.getElem?_eq_getElem hlt
      have hb2 := sumZ_take_le H0.out (j + 1)
      have hxs := sumZ_take hx
      have hx0 := H0.out _ (List.getElem_mem hlt)
      obtain ⟨b, o, rfl, -, c0⟩ := (HV.out.stays HW.out).at hx
      generalize xs[j] = x at *
      generalize sumZ (xs.take j) = s at *
      have hb3 : s + x ≤ 1000000000 := by omega
      have HX := Lib.hid hxs
      clear hxs hx hb2
      go_wp2
      go_roundw
      case rel => exact ⟨j + 1, by omega, by go_num, by rw [HX.out]; go_num, HW⟩
      case measure => simp [intOf]; omega
    · obtain rfl : j = xs.length := by omega
      have HT := Lib.hid (show sumZ (xs.take xs.length) = sumZ xs by rw [List.take_length])
      generalize sumZ (xs.take xs.length) = s at *
      go_wp2
      go_ret
      rw [← HT.out]
      exact ⟨rfl, HW.out⟩
theorem maxZ_pos (xs : List Int) : 0 ≤ maxZ xs := by
  have : ∀ (l : List Int) (a : Int), a ≤ l.foldl max a := by
    intro l
    induction l with
    | nil => intro a; exact Int.le_refl _
    | cons y r ih => intro a; have := ih (max a y); simp only [List.foldl_cons]; omega
  exact this xs 0
theorem maxZ_le (xs : List Int) (b : Int) (hb : 0 ≤ b) (h : ∀ x ∈ xs, x ≤ b) : maxZ xs ≤ b := by
  have : ∀ (l : List Int) (a : Int), a ≤ b → (∀ x ∈ l, x ≤ b) → l.foldl max a ≤ b := by
    intro l
    induction l with
    | nil => intro a ha _; exact ha
    | cons y r ih => intro a ha hl; simp only [List.foldl_cons]; exact ih _ (by have := hl y (by simp); omega) (fun x hx => hl x (by simp [hx]))
  exact this xs 0 hb h
theorem maxZ_snoc (xs : List Int) : maxZ (xs ++ [0]) = maxZ xs := by
  have := maxZ_pos xs
  unfold maxZ at *
  rw [List.foldl_append]; simp; omega
set_option maxRecDepth 100000 in
set_option maxHeartbeats 1000000 in
theorem max_calls (xs : List Int) (v : Value) (w : World) (S : Nat → Prop) (hv : IntsAt w S v xs) (h0 : ∀ x ∈ xs, 0 ≤ x) (hs : 0 < xs.length) :
    Calls Tryd.prog 34 #[v] w fun e w' => e = .returned (.int .i64 (maxZ xs)) ∧ w' = w := by
  obtain ⟨p, cap, rfl, hl⟩ := hv.shape
  have hf := List.getElem?_eq_getElem hs
  obtain ⟨b, o, rfl, -, cf⟩ := hv.at hf
  have hm1 : maxZ (xs.take 1) = xs[0] := by
    have := maxZ_take hf
    have h1 := h0 _ (List.getElem_mem hs)
    rw [this]; simp [maxZ]; omega
  have HV := Lib.hid hv
  have H0 := Lib.hid h0
  have HM := Lib.hid hm1
  have hpos : 1 ≤ xs.length := hs
  have y1 : ((xs.length : Int) < 1) = False := by apply eq_false; omega
  clear hv h0 hf hm1
  rw [Nat.add_zero] at cf
  go_enter Tryd.func34, Tryd.ntmps34
  go_wp2
  clear y1
  go_loopw [3, 4] (fun c i wr => ∃ j : Nat, 1 ≤ j ∧ j ≤ xs.length ∧ i = .int .i64 j ∧ c = .int .i64 (maxZ (xs.take j)) ∧ wr = w) (fun _ i _ => xs.length - (intOf i).toNat)
  case atStart => exact ⟨1, by omega, by omega, rfl, by rw [HM.out], rfl⟩
  case round =>
    obtain ⟨j, hj1, hj, rfl, rfl, rfl⟩ := hrel
    by_cases hlt : j < xs.length
    · have hx := List.getElem?_eq_getElem hlt
      have hxs := maxZ_take hx
      obtain ⟨b', o', e, -, c0⟩ := HV.out.at hx
      cases e
      generalize xs[j] = x at *
      generalize maxZ (xs.take j) = s at *
      have HX := Lib.hid hxs
      clear hxs hx
      go_wp2
      go_roundw
      case rel => exact ⟨j + 1, by omega, by omega, by go_num, by rw [HX.out, show max s x = if s < x then x else s by split <;> omega], trivial⟩
      case measure => simp [intOf]; omega
    · obtain rfl : j = xs.length := by omega
      have HT := Lib.hid (show maxZ (xs.take xs.length) = maxZ xs by rw [List.take_length])
      generalize maxZ (xs.take xs.length) = s at *
      go_wp2
      go_ret
      rw [← HT.out]
      exact ⟨rfl, rfl⟩
theorem ints_und : Tryd.prog.underlying 37 = some (.slice 3) := by kernel_rfl
theorem int_info : (Tryd.prog.info? 3).map (fun i => (i.zero, i.size, i.bytes)) = some (some (.int .i64 0), 1, 8) := by kernel_rfl
/-- what a function makes of a row of numbers that one owns -/
def JoinOk (J : FuncId) (f : List Int → Int) : Prop := ∀ (xs : List Int) (v : Value) (w : World) (base : Nat), w.ownsRow base 3 1 v xs.length (intC xs) → base ≤ w.heap.size → (∀ x ∈ xs, 0 ≤ x) → sumZ xs ≤ 1000000000 → xs.length ≤ 1000000000 →
    Calls Tryd.prog J #[v] w fun e w' => e = .returned (.int .i64 (f xs)) ∧ Below base w w'
theorem count1_ok : JoinOk 32 (fun xs => 1 + sumZ xs) := fun xs v w base hr hb h0 hs hl =>
  (count1_calls xs v w (fun _ => True) (IntsAt.of_own hr (by omega) fun _ _ => trivial) h0 hs).mono fun e w' ⟨a, b⟩ => ⟨a, b.mono hb⟩
set_option maxRecDepth 100000 in
set_option maxHeartbeats 1000000 in
theorem deep1_ok : JoinOk 33 (fun xs => 1 + maxZ xs) := by
  intro xs v w base hr hb h0 hs hl
  obtain ⟨i0, hi, hz0, hz1, hz2⟩ := info_parts int_info
  have hm0 := maxZ_pos xs
  have hm1 : maxZ xs ≤ 1000000000 := maxZ_le xs _ (by omega) fun x hx => by
    obtain ⟨i, hi, rfl⟩ := List.getElem_of_mem hx
    have a := sumZ_take (List.getElem?_eq_getElem hi)
    have b := sumZ_take_le h0 i
    have c := sumZ_take_le h0 (i + 1)
    omega
  have H0 := Lib.hid h0
  have HR := Lib.hid (ownsRow_keeps hr (Keeps.alloc (fun _ => False) w (.cells #[.int .i64 0] 3)) (fun _ _ h => h))
  obtain ⟨p, cap, rfl, hcap⟩ := row_shape' hr
  have HN := Lib.hid (new_cells w [.int .i64 0] 3)
  clear hr h0
  have HLT := Lib.hid (fun c (hc : some c = (Value.slice p xs.length cap).ownBlock) => HR.out.lt c hc.symm)
  go_enter Tryd.func33, Tryd.ntmps33
  go_wp2_with (first
    | (at_builtin; refine wpList_append_O _ rfl _ _ 37 rfl base 3 i0 _ 1 8 ints_und hi hz0 hz1 hz2 rfl (by decide) _ xs.length _ rfl HR.out ⟨w.heap.size, 0, none⟩ 1 1 [.int .i64 0] rfl rfl HN.out (by intro u hu; simp at hu; subst hu; rfl) (by simp only [maxLen]; omega) (by omega) (by simp; omega) ?_; intro v' w3 hown hkeep hblk _; have hst : Below base w w3 := ((Keeps.alloc (fun b => some b = (Value.slice p xs.length cap).ownBlock) w (.cells #[.int .i64 0] 3)).trans hkeep).below hb (fun b hb2 => (HLT.out b hb2).1); have hown2 : w3.ownsRow base 3 1 v' (xs ++ [0]).length (intC (xs ++ [0])) := (by unfold intC at *; rw [List.length_append, List.map_append]; exact hown); have HI := Lib.hid (IntsAt.of_own (S := fun _ => True) hown2 (by rw [List.length_append]; simp; omega) (fun _ _ => trivial)); have HST := Lib.hid hst; clear hst hown2 hown hkeep hblk)
    | (go_at_call 34; refine (max_calls (xs ++ [0]) _ _ _ HI.out (by intro x hx; rcases List.mem_append.1 hx with h | h; exact H0.out x h; simp at h; omega) (by simp)).mono ?_; rw [maxZ_snoc]; rintro e w4 ⟨rfl, rfl⟩))
  all_goals go_ret
  all_goals first | exact ⟨rfl, HST.out⟩ | (rw [show (1 : Int) + maxZ xs = 1 by omega]; exact ⟨rfl, HST.out⟩)
end Go.Proofs.YtigpffbhkopjeaaDoor
