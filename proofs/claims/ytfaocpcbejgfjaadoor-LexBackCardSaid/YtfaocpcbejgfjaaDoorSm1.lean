/- Two lists of tokens are compared. Its condition: how they lie in memory. -/
import Derived.Test.YtfaocpcbejgfjaaDoorLs4
namespace Go.Proofs.YtfaocpcbejgfjaaDoor
open Go.RowKit Go.Sub

abbrev TokB := Int × ByteArray
/-- a list of tokens as it lies in memory -/
def TokRow (w : World) (v : Value) (xs : List TokB) : Prop := ∃ p cap, v = .slice p xs.length cap ∧ xs.length ≤ 4611686018427387904 ∧ ∀ (i : Nat) x, xs[i]? = some x → ∃ b o, p = some ⟨b, o, none⟩ ∧ w.cell? ⟨b, o + i * 2, none⟩ = some (.int .i64 x.1) ∧ w.cell? ⟨b, o + i * 2 + 1, none⟩ = some (.string x.2)
theorem TokRow.below {w w' : World} {v : Value} {xs : List TokB} (h : TokRow w v xs) (hb : Below w.heap.size w w') : TokRow w' v xs := by
  obtain ⟨p, cap, h1, h2, h3⟩ := h
  refine ⟨p, cap, h1, h2, fun i x hx => ?_⟩
  obtain ⟨b, o, e, c1, c2⟩ := h3 i x hx
  exact ⟨b, o, e, (hb.cell (World.block_lt_of_cell? _ _ c1)).trans c1, (hb.cell (World.block_lt_of_cell? _ _ c2)).trans c2⟩
/-- the tokens that a run tells -/
def tokB (l : List UInt8) (x : Tok3) : TokB := ((x.1 : Int), ⟨((l.drop x.2.1).take x.2.2).toArray⟩)
theorem tokC_get {l : List UInt8} : ∀ {ys : List Tok3} {i : Nat} {x : TokB}, (ys.map (tokB l))[i]? = some x → (tokC l ys)[i * 2]? = some (.int .i64 x.1) ∧ (tokC l ys)[i * 2 + 1]? = some (.string x.2)
  | [], i, x, h => by simp at h
  | y :: ys, 0, x, h => by
    have : tokB l y = x := by simpa using h
    subst this
    exact ⟨rfl, rfl⟩
  | y :: ys, i + 1, x, h => by
    obtain ⟨h1, h2⟩ := tokC_get (ys := ys) (i := i) (x := x) (by simpa using h)
    have e : tokC l (y :: ys) = .int .i64 (y.1 : Int) :: .string ⟨((l.drop y.2.1).take y.2.2).toArray⟩ :: tokC l ys := rfl
    rw [e, show (i + 1) * 2 = i * 2 + 1 + 1 by omega, show i * 2 + 1 + 1 + 1 = (i * 2 + 1) + 1 + 1 by omega]
    simp only [List.getElem?_cons_succ]
    exact ⟨h1, h2⟩
theorem add_plain (g j : Nat) : (⟨g, 0, none⟩ : Addr).add j = ⟨g, j, none⟩ := by unfold Addr.add; split <;> simp_all
theorem tokRow_own {w : World} {base : Nat} {e : TypeId} {v : Value} {l : List UInt8} {ys : List Tok3} (h : w.ownsRow base e 2 v ys.length (tokC l ys)) (hl : ys.length ≤ 4611686018427387904) : TokRow w v (ys.map (tokB l)) := by
  obtain ⟨h1, h2⟩ := h
  rcases h2 with ⟨rfl, h0⟩ | ⟨g, cap, cur, rfl, h3⟩
  · have : ys = [] := List.length_eq_zero_iff.1 h0
    subst this
    exact ⟨none, 0, rfl, by simp, fun i x hx => by simp at hx⟩
  · refine ⟨some ⟨g, 0, none⟩, cap, by rw [List.length_map], by rw [List.length_map]; exact hl, fun i x hx => ?_⟩
    obtain ⟨c1, c2⟩ := tokC_get hx
    have hrow : w.ownsRow base e 2 (.slice (some ⟨g, 0, none⟩) ys.length cap) ys.length (tokC l ys) := ⟨h1, .inr ⟨g, cap, cur, rfl, h3⟩⟩
    exact ⟨g, 0, rfl, by rw [Nat.zero_add]; exact row_cells hrow _ c1, by rw [Nat.zero_add]; exact row_cells hrow _ c2⟩

theorem take_more {xs ys : List TokB} {n : Nat} {x : TokB} (h : xs.take n = ys.take n) (hx : xs[n]? = some x) (hy : ys[n]? = some x) : xs.take (n + 1) = ys.take (n + 1) := by
  rw [List.take_add_one, List.take_add_one, h, hx, hy]
theorem dec_ne {xs ys : List TokB} {n : Nat} {x y : TokB} (hx : xs[n]? = some x) (hy : ys[n]? = some y) (h : x ≠ y) : decide (xs = ys) = false := by
  rw [decide_eq_false_iff_not]
  intro e
  rw [e, hy] at hx
  exact h (Option.some.inj hx).symm
theorem dec_len {xs ys : List TokB} (h : xs.length ≠ ys.length) : decide (xs = ys) = false := by
  rw [decide_eq_false_iff_not]
  intro e
  exact h (by rw [e])
theorem dec_all {xs ys : List TokB} {n : Nat} (h : xs.take n = ys.take n) (hx : xs.length ≤ n) (hy : ys.length ≤ n) : decide (xs = ys) = true := by
  rw [decide_eq_true_iff]
  rwa [List.take_of_length_le hx, List.take_of_length_le hy] at h
theorem tok_ext {x y : TokB} (h1 : x.1 = y.1) (h2 : x.2.toList = y.2.toList) : x = y := by
  obtain ⟨a, b⟩ := x
  obtain ⟨c, d⟩ := y
  dsimp only at h1 h2
  subst h1
  rw [Lib.toList_data, Lib.toList_data] at h2
  have : b = d := by cases b; cases d; simp_all
  rw [this]

set_option maxRecDepth 100000 in
set_option maxHeartbeats 2000000 in
theorem same_calls (v1 v2 : Value) (xs ys : List TokB) (w : World) (h1 : TokRow w v1 xs) (h2 : TokRow w v2 ys) :
    Calls Tryd.prog 13 #[v1, v2] w fun e w' => e = .returned (.bool (decide (xs = ys))) ∧ Below w.heap.size w w' := by
  obtain ⟨p1, cap1, rfl, hl1, hc1⟩ := h1 
  obtain ⟨p2, cap2, rfl, hl2, hc2⟩ := h2 
  by_cases hlen : xs.length = ys.length 
  · have ylen : ((xs.length : Int) = (ys.length : Int)) = True := by apply eq_true; omega 
    have ylen2 : ((xs.length : Int) != (ys.length : Int)) = false := by simp; omega 
    go_enter Tryd.func13, Tryd.ntmps13 
    go_wp2 
    go_loopw [5] (fun i wr => ∃ n : Nat, i = .int .i64 n ∧ n ≤ xs.length ∧ Hid (xs.take n = ys.take n) ∧ ∃ q, wr = w.drewN q) (fun i _ => xs.length - (intOf i).toNat) 
    case atStart => exact ⟨0, rfl, by omega, Lib.hid (by simp), 0, rfl⟩ 
    case round => 
      obtain ⟨n, rfl, hn, Hn, q, rfl⟩ := hrel 
      by_cases hlt : n < xs.length 
      · obtain ⟨x, hx⟩ : ∃ x, xs[n]? = some x := ⟨_, List.getElem?_eq_getElem hlt⟩ 
        obtain ⟨y, hy⟩ : ∃ y, ys[n]? = some y := ⟨_, List.getElem?_eq_getElem (by omega)⟩ 
        obtain ⟨a, o1, rfl, ca1, ca2⟩ := hc1 n x hx 
        obtain ⟨b, o2, rfl, cb1, cb2⟩ := hc2 n y hy 
        have Hx := Lib.hid hx 
        have Hy := Lib.hid hy 
        clear hc1 hc2 hx hy 
        by_cases e1 : x.1 = y.1 
        · by_cases e2 : x.2.toList = y.2.toList 
          · have Hxy := Lib.hid (tok_ext e1 e2) 
            go_wp2 
            go_quiet (fail) 
            go_wp2 
            go_roundw 
            case rel => exact ⟨n + 1, by go_num, by omega, Lib.hid (take_more Hn.out Hx.out (by rw [Hxy.out]; exact Hy.out)), _, by first | rfl | exact drewN_drewN _ _ _⟩ 
            case measure => simp only [intOf]; omega 
          · have Hxy := Lib.hid (fun (e : x = y) => e2 (by rw [e])) 
            go_wp2 
            go_quiet (fail) 
            go_wp2 
            go_ret 
            exact ⟨by rw [dec_ne Hx.out Hy.out Hxy.out]; rfl, by first | exact below_drewN (Below.refl _ _) _ | exact below_drewN (below_drewN (Below.refl _ _) _) _⟩ 
        · have Hxy := Lib.hid (fun (e : x = y) => e1 (by rw [e])) 
          go_wp2 
          go_quiet (fail) 
          go_wp2 
          go_ret 
          exact ⟨by rw [dec_ne Hx.out Hy.out Hxy.out]; rfl, by first | exact below_drewN (Below.refl _ _) _ | exact below_drewN (below_drewN (Below.refl _ _) _) _⟩ 
      · clear hc1 hc2 
        go_wp2 
        go_ret 
        exact ⟨by rw [dec_all Hn.out (by omega) (by omega)]; rfl, by first | exact below_drewN (Below.refl _ _) _ | exact below_drewN (below_drewN (Below.refl _ _) _) _⟩ 
  · have ylen : ((xs.length : Int) = (ys.length : Int)) = False := by apply eq_false; omega 
    have ylen2 : ((xs.length : Int) != (ys.length : Int)) = true := by simp; omega 
    have Hd := Lib.hid (dec_len hlen) 
    clear hc1 hc2 
    go_enter Tryd.func13, Tryd.ntmps13 
    go_wp2 
    go_ret 
    exact ⟨by rw [Hd.out]; rfl, Below.refl _ _⟩
set_option maxRecDepth 100000 in
set_option maxHeartbeats 2000000 in
theorem equal_calls (v1 v2 : Value) (xs ys : List TokB) (w : World) (h1 : TokRow w v1 xs) (h2 : TokRow w v2 ys) :
    Calls Tryd.prog 30 #[v1, v2] w fun e w' => e = .returned (.bool (decide (xs = ys))) ∧ Below w.heap.size w w' := by
  obtain ⟨p1, cap1, rfl, hl1, hc1⟩ := h1 
  obtain ⟨p2, cap2, rfl, hl2, hc2⟩ := h2 
  by_cases hlen : xs.length = ys.length 
  · have ylen : ((xs.length : Int) = (ys.length : Int)) = True := by apply eq_true; omega 
    have ylen2 : ((xs.length : Int) != (ys.length : Int)) = false := by simp; omega 
    go_enter Tryd.func30, Tryd.ntmps30 
    go_wp2 
    go_loopw [13] (fun i wr => ∃ n : Nat, i = .int .i64 n ∧ n ≤ xs.length ∧ Hid (xs.take n = ys.take n) ∧ ∃ q, wr = w.drewN q) (fun i _ => xs.length - (intOf i).toNat) 
    case atStart => exact ⟨0, rfl, by omega, Lib.hid (by simp), 0, rfl⟩ 
    case round => 
      obtain ⟨n, rfl, hn, Hn, q, rfl⟩ := hrel 
      by_cases hlt : n < xs.length 
      · obtain ⟨x, hx⟩ : ∃ x, xs[n]? = some x := ⟨_, List.getElem?_eq_getElem hlt⟩ 
        obtain ⟨y, hy⟩ : ∃ y, ys[n]? = some y := ⟨_, List.getElem?_eq_getElem (by omega)⟩ 
        obtain ⟨a, o1, rfl, ca1, ca2⟩ := hc1 n x hx 
        obtain ⟨b, o2, rfl, cb1, cb2⟩ := hc2 n y hy 
        have Hx := Lib.hid hx 
        have Hy := Lib.hid hy 
        clear hc1 hc2 hx hy 
        by_cases e1 : x.1 = y.1 
        · by_cases e2 : x.2.toList = y.2.toList 
          · have Hxy := Lib.hid (tok_ext e1 e2) 
            go_wp2 
            go_quiet (fail) 
            go_wp2 
            go_roundw 
            case rel => exact ⟨n + 1, by go_num, by omega, Lib.hid (take_more Hn.out Hx.out (by rw [Hxy.out]; exact Hy.out)), _, by first | rfl | exact drewN_drewN _ _ _⟩ 
            case measure => simp only [intOf]; omega 
          · have Hxy := Lib.hid (fun (e : x = y) => e2 (by rw [e])) 
            go_wp2 
            go_quiet (fail) 
            go_wp2 
            go_ret 
            exact ⟨by rw [dec_ne Hx.out Hy.out Hxy.out]; rfl, by first | exact below_drewN (Below.refl _ _) _ | exact below_drewN (below_drewN (Below.refl _ _) _) _⟩ 
        · have Hxy := Lib.hid (fun (e : x = y) => e1 (by rw [e])) 
          go_wp2 
          go_quiet (fail) 
          go_wp2 
          go_ret 
          exact ⟨by rw [dec_ne Hx.out Hy.out Hxy.out]; rfl, by first | exact below_drewN (Below.refl _ _) _ | exact below_drewN (below_drewN (Below.refl _ _) _) _⟩ 
      · clear hc1 hc2 
        go_wp2 
        go_ret 
        exact ⟨by rw [dec_all Hn.out (by omega) (by omega)]; rfl, by first | exact below_drewN (Below.refl _ _) _ | exact below_drewN (below_drewN (Below.refl _ _) _) _⟩ 
  · have ylen : ((xs.length : Int) = (ys.length : Int)) = False := by apply eq_false; omega 
    have ylen2 : ((xs.length : Int) != (ys.length : Int)) = true := by simp; omega 
    have Hd := Lib.hid (dec_len hlen) 
    clear hc1 hc2 
    go_enter Tryd.func30, Tryd.ntmps30 
    go_wp2 
    go_ret 
    exact ⟨by rw [Hd.out]; rfl, Below.refl _ _⟩
end Go.Proofs.YtfaocpcbejgfjaaDoor
