/- All paths of a tree: the document's answer. Its condition: how the tree lies in memory; at most 10^8 nodes. -/
import Derived.Test.YtigpffbhkopjeaaDoorNd28
import Derived.Test.YtigpffbhkopjeaaDoorNd32
import Derived.Test.YtigpffbhkopjeaaDoorNd24
namespace Go.Proofs.YtigpffbhkopjeaaDoor
open Go.RowKit Go.Sub Go.Sort

theorem run_append_none {P : Program} (w : World) (base : Nat) (t ty e : TypeId) (i : TypeInfo) (size : Nat) (ht : P.underlying t = some (.slice e)) (hi : P.info? e = some i)
    (v : Value) (n c : Nat) (xs : List Value) (hown : w.ownsRow base e size v n xs) : (Builtin.append_ #[t, t] ty #[v, .slice none 0 c]).run P w = .ok v w := by
  rcases hown.2 with ⟨rfl, rfl⟩ | ⟨g, cap, cur, rfl, _, _, hnc, _⟩
  · simp [Builtin.append_, run_underlying ht, sizeOf, typeInfo, hi, Builtin.lenOf, Builtin.firstCells]
  · simp [Builtin.append_, run_underlying ht, sizeOf, typeInfo, hi, Builtin.lenOf, Builtin.firstCells, hnc, storeCells]
theorem wpList_append_none {P : Program} (w : World) {ops : Array Oper} {rest : List Oper} {o : Oper} {a : Act} {Q : Exit → Act → World → Prop}
    (hg : o.guard = none) (s x : Operand) (t : TypeId) (hop : o.op = Op.call { callee := Callee.builtin Builtin.append, args := #[s, x], argTypes := #[t, t] })
    (base : Nat) (e : TypeId) (i : TypeInfo) (size : Nat) (h1 : P.underlying t = some (.slice e)) (h2 : P.info? e = some i)
    (v : Value) (k c : Nat) (xs : List Value) (hs : a.eval s = v) (hown : w.ownsRow base e size v k xs) (hx : a.eval x = .slice none 0 c)
    (hK : wpList P ops Q rest (a.put o.dst v) w) : wpList P ops Q (o :: rest) a w := by
  refine wpList_plain hg fun K hK' => ?_
  have hrun := run_append_none (P := P) w base t o.type e i size h1 h2 v k c xs hown
  unfold Oper.wp
  simp [execOp, hop, resolve, invoke, builtin, hs, hx, hrun, Result.andThen]
  exact hK' _ _ hK
/-- a row of rows of ints -/
structure RowsP (base : Nat) (v : Value) (ps : List (List Nat)) (us : List Value) (W : World) : Prop where
  own : W.ownsRow base 37 1 v ps.length us
  len : us.length = ps.length
  ints : ∀ (i : Nat) p u, ps[i]? = some p → us[i]? = some u → IntsAt W (fun b => base ≤ b ∧ b < W.heap.size ∧ some b ≠ v.ownBlock) u (zs p)
  caps : ∀ (i : Nat) p u, ps[i]? = some p → us[i]? = some u → ∃ q n c, u = .slice q n c ∧ p.length ≤ c
theorem own_lt {w : World} {base : Nat} {e : TypeId} {sz n : Nat} {v : Value} {xs : List Value} (h : w.ownsRow base e sz v n xs) : ∀ g, some g = v.ownBlock → g < w.heap.size := by
  intro g hg
  rcases h.2 with ⟨rfl, _⟩ | ⟨g', cap, cur, rfl, _, h3, _⟩
  · cases hg
  · cases hg; exact (Array.getElem?_eq_some_iff.1 h3).1
theorem RowsP.stays {base : Nat} {v : Value} {ps : List (List Nat)} {us : List Value} {W W' : World} (h : RowsP base v ps us W) (hb : Below W.heap.size W W') : RowsP base v ps us W' where
  own := ownsRow_keeps h.own (Keeps.of_below' (O := fun _ => False) hb) (fun _ _ e => e)
  len := h.len
  ints := fun i p u hp hu => ((h.ints i p u hp hu).stays hb).mono fun _ hx => ⟨hx.1, Nat.lt_of_lt_of_le hx.2.1 hb.size, hx.2.2⟩
  caps := h.caps
theorem RowsP.push {base : Nat} {v v' u : Value} {ps : List (List Nat)} {p : List Nat} {us : List Value} {W W' : World} (h : RowsP base v ps us W) (hu : IntsAt W (fun b => base ≤ b ∧ b < W.heap.size ∧ some b ≠ v.ownBlock) u (zs p)) (hc : ∃ q n c, u = .slice q n c ∧ p.length ≤ c)
    (hown : W'.ownsRow base 37 1 v' (ps.length + 1) (us ++ [u])) (hk : Keeps (fun b => some b = v.ownBlock) W W') (hblk : v'.ownBlock = v.ownBlock ∨ v'.ownBlock = some W.heap.size) : RowsP base v' (ps ++ [p]) (us ++ [u]) W' where
  own := by rw [List.length_append]; exact hown
  len := by rw [List.length_append, List.length_append, h.len]; rfl
  ints := fun i q z hq hz => by
    have key : ∀ {q z}, IntsAt W (fun b => base ≤ b ∧ b < W.heap.size ∧ some b ≠ v.ownBlock) z (zs q) → IntsAt W' (fun b => base ≤ b ∧ b < W'.heap.size ∧ some b ≠ v'.ownBlock) z (zs q) := fun hx =>
      (hx.keeps hk fun b hb e => hb.2.2 e).mono fun b hb => ⟨hb.1, Nat.lt_of_lt_of_le hb.2.1 hk.size, fun e => by
        rcases hblk with h1 | h1
        · exact hb.2.2 (e.trans h1)
        · rw [h1] at e; cases e; exact Nat.lt_irrefl _ hb.2.1⟩
    by_cases hi : i < ps.length
    · rw [List.getElem?_append_left hi] at hq
      rw [List.getElem?_append_left (by rw [h.len]; exact hi)] at hz
      exact key (h.ints i q z hq hz)
    · rw [List.getElem?_append_right (by omega)] at hq
      rw [List.getElem?_append_right (by rw [h.len]; omega), h.len] at hz
      have : i - ps.length = 0 := by have := (List.getElem?_eq_some_iff.1 hq).1; simp at this; omega
      rw [this] at hq hz
      simp at hq hz
      subst hq hz
      exact key hu
  caps := fun i q z hq hz => by
    by_cases hi : i < ps.length
    · rw [List.getElem?_append_left hi] at hq
      rw [List.getElem?_append_left (by rw [h.len]; exact hi)] at hz
      exact h.caps i q z hq hz
    · rw [List.getElem?_append_right (by omega)] at hq
      rw [List.getElem?_append_right (by rw [h.len]; omega), h.len] at hz
      have : i - ps.length = 0 := by have := (List.getElem?_eq_some_iff.1 hq).1; simp at this; omega
      rw [this] at hq hz
      simp at hq hz
      subst hq hz
      exact hc
theorem own_ge {w : World} {base : Nat} {e : TypeId} {sz n : Nat} {v : Value} {xs : List Value} (h : w.ownsRow base e sz v n xs) : ∀ g, some g = v.ownBlock → base ≤ g := by
  intro g hg
  rcases h.2 with ⟨rfl, _⟩ | ⟨g', cap, cur, rfl, h3, _⟩
  · cases hg
  · cases hg; exact h3
theorem RowsP.keeps {base : Nat} {v : Value} {ps : List (List Nat)} {us : List Value} {W W' : World} {O : Nat → Prop} (h : RowsP base v ps us W) (hk : Keeps O W W') (hO : ∀ b, base ≤ b → b < W.heap.size → ¬ O b) : RowsP base v ps us W' where
  own := ownsRow_keeps h.own hk (fun g hg => hO g (own_ge h.own g hg) (own_lt h.own g hg))
  len := h.len
  ints := fun i p u hp hu => ((h.ints i p u hp hu).keeps hk fun b hb => hO b hb.1 hb.2.1).mono fun _ hx => ⟨hx.1, Nat.lt_of_lt_of_le hx.2.1 hk.size, hx.2.2⟩
  caps := h.caps
theorem RowsP.at {base g n cv : Nat} {ps : List (List Nat)} {us : List Value} {W : World} (h : RowsP base (.slice (some ⟨g, 0, none⟩) n cv) ps us W) {i : Nat} {p : List Nat} (hp : ps[i]? = some p) : ∃ q c, W.cell? ⟨g, i, none⟩ = some (.slice q p.length c) ∧ IntsAt W (fun b => base ≤ b ∧ b < W.heap.size) (.slice q p.length c) (zs p) ∧ p.length ≤ c := by
  have hi : i < us.length := by rw [h.len]; exact (List.getElem?_eq_some_iff.1 hp).1
  have hu := List.getElem?_eq_getElem hi
  have hc := World.ownsRow.cells (g := g) h.own rfl _ _ hu
  rw [addr_zero] at hc
  have hx := h.ints i p _ hp hu
  obtain ⟨q, c, e, _⟩ := hx.shape
  obtain ⟨q', n', c', e', hc'⟩ := h.caps i p _ hp hu
  rw [zs_length] at e
  rw [e] at hc hx e'
  cases e'
  exact ⟨q, c, hc, hx.mono fun b hb => ⟨hb.1, hb.2.1⟩, hc'⟩
def doneP (n : NodeT) (j : Nat) : List (List Nat) := [] :: pathsL (n.kids.take j) 0
def doneK (n x : NodeT) (j k : Nat) : List (List Nat) := doneP n j ++ ((pathsN x).take k).map (j :: ·)
theorem doneK_zero (n x : NodeT) (j : Nat) : doneK n x j 0 = doneP n j := by unfold doneK; simp
theorem doneK_succ {n x : NodeT} {j k : Nat} {q : List Nat} (h : (pathsN x)[k]? = some q) : doneK n x j (k + 1) = doneK n x j k ++ [j :: q] := by
  unfold doneK; rw [List.take_add_one, h]; simp
theorem doneK_end {n x : NodeT} {j : Nat} (h : n.kids[j]? = some x) : doneK n x j (pathsN x).length = doneP n (j + 1) := by
  unfold doneK doneP; rw [pathsL_take _ _ h, List.take_length, Nat.zero_add]; rfl
theorem doneP_end (n : NodeT) : doneP n n.kids.length = pathsN n := by unfold doneP; rw [List.take_length, pathsN_eq]
theorem doneK_le {n x : NodeT} {j k : Nat} (h : n.kids[j]? = some x) : (doneK n x j k).length ≤ countN n := by
  have h1 := countL_append (n.kids.take (j + 1)) (n.kids.drop (j + 1))
  rw [List.take_append_drop, countL_take _ _ h] at h1
  have h2 := paths_length x
  unfold doneK doneP
  rw [List.length_append, List.length_cons, List.length_map, pathsL_length, List.length_take, countN_eq]
  omega
def RPathsTold (n : NodeT) (w : World) (e : Ending) (W' : World) : Prop := ∃ v us, e = .returned v ∧ RowsP (w.heap.size + 1) v (pathsN n) us W' ∧ Below w.heap.size w W'
theorem RowsP.told {base : Nat} {v : Value} {n : NodeT} {us : List Value} {W : World} (h : RowsP base v (pathsN n) us W) : PathsAt W v n := by
  have hpos : 0 < (pathsN n).length := by rw [pathsN_eq]; simp
  obtain ⟨g, cap, rfl, _⟩ := own_pos h.own hpos
  refine ⟨g, cap, rfl, fun i p hp => ?_⟩
  have hi : i < us.length := by rw [h.len]; exact (List.getElem?_eq_some_iff.1 hp).1
  have hu := List.getElem?_eq_getElem hi
  have hc := World.ownsRow.cells (g := g) h.own rfl _ _ hu
  rw [addr_zero] at hc
  exact ⟨_, hc, (h.ints i p _ hp hu).mono fun _ _ => trivial⟩
set_option maxRecDepth 100000 in
set_option maxHeartbeats 4000000 in
theorem rpaths_calls : ∀ (n : NodeT) (u : Value) (w : World) (S : Nat → Prop), KidsAt w S u n.kids → countN n ≤ 100000000 →
    Calls Tryd.prog 22 #[nodeV n u] w (RPathsTold n w) := by
  refine NodeT.ind fun n ih => ?_
  intro u w S hu hn
  obtain ⟨pu, cu, rfl, lu⟩ := hu.shape
  have IH := Lib.hid ih
  have hal1 := (Below.refl w.heap.size w).alloc (Nat.le_refl _) (.cells #[.int .i64 n.kind, .string n.text, .slice pu n.kids.length cu] 25)
  have hal2 := hal1.alloc (by simp) (.cells #[.slice none 0 0] 37)
  have hbn := (nbox_new w 25 n.kind n.text (.slice pu n.kids.length cu)).stays ((Below.refl _ _).alloc (Nat.le_refl _) (.cells #[.slice none 0 0] 37))
  have hr0 : RowsP (w.heap.size + 1) (.slice (some ⟨w.heap.size + 1, 0, none⟩) 1 1) (doneP n 0) [.slice none 0 0] ((w.alloc (.cells #[.int .i64 n.kind, .string n.text, .slice pu n.kids.length cu] 25)).alloc (.cells #[.slice none 0 0] 37)) := by
    have b1 := World.alloc_heap_new (w.alloc (.cells #[.int .i64 n.kind, .string n.text, .slice pu n.kids.length cu] 25)) (.cells #[.slice none 0 0] 37)
    rw [World.size_alloc] at b1
    refine ⟨⟨rfl, .inr ⟨w.heap.size + 1, 1, _, rfl, Nat.le_refl _, b1, by simp [doneP, pathsL], by simp [maxLen], rfl, rfl⟩⟩, by simp [doneP, pathsL], fun i p z hp hz => ?_, fun i p z hp hz => ?_⟩
    · match i, hp, hz with
      | 0, hp, hz =>
        simp [doneP, pathsL] at hp hz
        subst hp hz
        exact ⟨none, 0, 0, 0, rfl, fun h => absurd h (by simp [zs]), by simp [zs], fun i x hx => by simp [zs] at hx⟩
      | i + 1, hp, hz => simp [doneP, pathsL] at hp
    · match i, hp, hz with
      | 0, hp, hz =>
        simp [doneP, pathsL] at hp hz
        subst hp hz
        exact ⟨none, 0, 0, rfl, Nat.le_refl _⟩
      | i + 1, hp, hz => simp [doneP, pathsL] at hp
  have HU := Lib.hid (hu.within.stays hal2)
  have HB := Lib.hid hal2
  have HBN := Lib.hid hbn
  have HR0 := Lib.hid hr0
  unfold nodeV
  clear ih hu hal1 hal2 hbn hr0
  go_enter Tryd.func22, Tryd.ntmps22
  go_wp2
  generalize hW1 : (w.alloc (.cells #[.int .i64 n.kind, .string n.text, .slice pu n.kids.length cu] 25)).alloc (.cells #[.slice none 0 0] 37) = W1 at *
  have hz1 : W1.heap.size = w.heap.size + 2 := by rw [← hW1]; simp
  have HZ1 := Lib.hid hz1
  clear hW1 hz1
  go_loopw [3, 4] (fun v i wr => ∃ (j : Nat) (us : List Value), j ≤ n.kids.length ∧ i = .int .i64 j ∧ Hid (RowsP (w.heap.size + 1) v (doneP n j) us wr) ∧ Hid (Below (w.heap.size + 1) W1 wr)) (fun _ i _ => n.kids.length - (intOf i).toNat)
  case atStart => exact ⟨0, _, Nat.zero_le _, rfl, HR0, Lib.hid (Below.refl _ _)⟩
  case round =>
    rename_i v
    obtain ⟨j, us, hj, rfl, HR, HW⟩ := hrel
    obtain ⟨pv, cv, rfl, hcv⟩ := row_shape' HR.out.own
    obtain ⟨c0, c1, c2⟩ := (HBN.out.keeps (Keeps.of_below HW.out) (by omega)).cells
    by_cases hlt : j < n.kids.length
    · have hx := List.getElem?_eq_getElem hlt
      have hku := HU.out.keeps (Keeps.of_below HW.out) (fun b hb e => by have := hb.2; omega)
      obtain ⟨b, o, ux, rfl, -, a1, ax⟩ := hku.kid hx
      obtain ⟨px, cx, rfl, lx⟩ := ax.shape
      obtain ⟨d0, d1, d2⟩ := a1
      have hcx : countN n.kids[j] ≤ 100000000 := by have := countL_mem (List.getElem_mem hlt); have := countN_eq n; omega
      have hcall := IH.out (n.kids[j]) (List.getElem_mem hlt) _ wr _ ax hcx
      have HX := Lib.hid hx
      have hdl := fun k => doneK_le (k := k) hx
      have HDE := Lib.hid (doneK_end hx)
      generalize n.kids[j] = x at *
      have HDL := Lib.hid hdl
      have HPL := Lib.hid (paths_length x)
      unfold nodeV at hcall
      have Hc := Lib.hid hcall
      clear hx hku ax hcall hdl
      go_wp2_with (go_at_call 22; (with_reducible refine (Hc.out).mono ?_); rintro e w2 ⟨v5, us5, rfl, hp5, hb5⟩; obtain ⟨g5, cv5, rfl, -⟩ := own_pos hp5.own (by rw [pathsN_eq]; simp); have HP5 := Lib.hid hp5; have HB5 := Lib.hid hb5; clear hp5 hb5)
      have HR2 := Lib.hid (HR.out.stays HB5.out)
      have hw2 := HW.out.trans (HB5.out.mono (by have := HW.out.size; have := HZ1.out; omega))
      have HW2 := Lib.hid hw2
      have hap : ∀ g, some g = (Value.slice pv (doneP n j).length cv).ownBlock → ¬ (wr.heap.size + 1 ≤ g ∧ g < w2.heap.size) := fun g hg => by have := own_lt HR.out.own g hg; omega
      have HAP := Lib.hid hap
      have HS5 := Lib.hid HB5.out.size
      have hzr := HW.out.size
      rw [HZ1.out] at hzr
      clear hap hw2
      clear HR HW Hc c0 c1 c2 d0 d1 d2 HB5
      generalize wr.heap.size = Nr at *
      go_loopw [3, 6] (fun v i wr => ∃ (k : Nat) (us : List Value), k ≤ (pathsN x).length ∧ i = .int .i64 k ∧ Hid (RowsP (w.heap.size + 1) v (doneK n x j k) us wr) ∧ Hid (∀ g, some g = v.ownBlock → ¬ (Nr + 1 ≤ g ∧ g < w2.heap.size)) ∧ Hid (Keeps (fun b => ¬ (Nr + 1 ≤ b ∧ b < w2.heap.size)) w2 wr) ∧ Hid (Below (w.heap.size + 1) W1 wr)) (fun _ i _ => (pathsN x).length - (intOf i).toNat)
      case atStart => exact ⟨0, _, Nat.zero_le _, rfl, by rw [doneK_zero]; exact HR2, by exact HAP, Lib.hid (Keeps.refl _ _), HW2⟩
      case round =>
        rename_i v7
        obtain ⟨k, us7, hk, rfl, HR7, HA7, HK7, HW7⟩ := hrel
        have hd7 := HDL.out k
        obtain ⟨p7, c7, rfl, hc7⟩ := row_shape' HR7.out.own
        clear HR2 HAP HW2
        by_cases hlk : k < (pathsN x).length
        · have HLK := Lib.hid hlk
          have hq := List.getElem?_eq_getElem hlk
          have h5 := HP5.out.keeps HK7.out (fun b h1 h2 e => e ⟨h1, h2⟩)
          obtain ⟨q5, cc5, hcell5, hint5, -⟩ := h5.at hq
          have hpl := path_len hq
          have hsucc := doneK_succ (n := n) (j := j) hq
          generalize (pathsN x)[k] = qq at *
          obtain ⟨i0, hi, hz0, hz1, hz2⟩ := info_parts int_info
          obtain ⟨i1, hi1, hz10, hz11, hz12⟩ := info_parts path_info
          have hbA : Below wr.heap.size wr (wr.alloc (.cells #[.int .i64 (j : Int)] 3)) := (Below.refl _ _).alloc (Nat.le_refl _) _
          have hoA : (wr.alloc (.cells #[.int .i64 (j : Int)] 3)).ownsRow wr.heap.size 3 1 (.slice (some ⟨wr.heap.size, 0, none⟩) 1 1) 1 [.int .i64 (j : Int)] := ⟨rfl, .inr ⟨wr.heap.size, 1, _, rfl, Nat.le_refl _, World.alloc_heap_new wr _, by simp, by simp [maxLen], rfl, rfl⟩⟩
          have hcA := (hbA.cell (World.block_lt_of_cell? _ _ hcell5)).trans hcell5
          have hiA := hint5.stays hbA
          have hzA : (wr.alloc (.cells #[.int .i64 (j : Int)] 3)).heap.size = wr.heap.size + 1 := by simp
          have hnil : q5 = none → qq = [] := fun e => by
            cases qq with
            | nil => rfl
            | cons x r =>
              obtain ⟨b, o, e2, -, -⟩ := hint5.at (i := 0) (x := (x : Int)) rfl
              rw [e] at e2; cases e2
          have hcell : ∀ ad, q5 = some ad → ∀ (i : Nat) u, (intC (zs qq))[i]? = some u → (wr.alloc (.cells #[.int .i64 (j : Int)] 3)).cell? (ad.add i) = some u := fun ad e i u hu => by
            subst e
            unfold intC at hu
            rw [List.getElem?_map, Option.map_eq_some_iff] at hu
            obtain ⟨x, hxj, rfl⟩ := hu
            obtain ⟨b, o, e, -, hc⟩ := hiA.at hxj
            cases e
            rwa [show (⟨b, o, none⟩ : Addr).add i = ⟨b, o + i, none⟩ by unfold Addr.add; split <;> simp_all]
          have HOA := Lib.hid hoA
          have HBA := Lib.hid hbA
          have HC := Lib.hid hcell
          have HQ := Lib.hid hsucc
          have HZA := Lib.hid hzA
          have hdk := HDL.out (k + 1)
          rw [hsucc, List.length_append] at hdk
          simp only [List.length_cons, List.length_nil] at hdk
          clear hoA hbA hcell hsucc hint5 hiA hq h5 hzA
          cases q5 with
          | none =>
            obtain rfl := hnil rfl
            have hl0 : ([] : List Nat).length = 0 := rfl
            have HO6 : Hid ((wr.alloc (.cells #[.int .i64 (j : Int)] 3)).ownsRow wr.heap.size 3 1 (.slice (some ⟨wr.heap.size, 0, none⟩) 1 1) 1 ([.int .i64 (j : Int)] ++ intC (zs []))) := Lib.hid HOA.out
            have HB6 := HBA
            have HCC : Hid ((j :: ([] : List Nat)).length ≤ 1) := Lib.hid (Nat.le_refl _)
            clear hnil
            go_upto_region 11 with (at_builtin; go_loud (refine wpList_append_none _ rfl _ _ 37 rfl wr.heap.size 3 i0 1 ints_und hi _ 1 _ _ rfl HOA.out rfl ?_))
            generalize wr.alloc (.cells #[.int .i64 (j : Int)] 3) = W6 at *
            have hi6 := IntsAt.of_own (S := fun b => wr.heap.size ≤ b ∧ b < W6.heap.size) (xs := zs (j :: [])) (v := .slice (some ⟨wr.heap.size, 0, none⟩) (1) 1) (w := W6) (base := wr.heap.size) (e := 3) (by have h := HO6.out; rw [show (zs (j :: [])).length = 1 by rw [zs_length, List.length_cons]; omega]; exact h) (by rw [zs_length, List.length_cons]; omega) (fun g hg => ⟨own_ge HO6.out g hg, own_lt HO6.out g hg⟩) 
            have hr6 := HR7.out.stays HB6.out 
            have al := (Below.refl W6.heap.size W6).alloc (Nat.le_refl _) (.cells #[.slice (some ⟨wr.heap.size, 0, none⟩) (1) 1] 37) 
            have hn6 := new_cells W6 [.slice (some ⟨wr.heap.size, 0, none⟩) (1) 1] 37 
            have HR6 := Lib.hid (hr6.stays al) 
            have HI6 := Lib.hid (hi6.stays al) 
            have HN6 := Lib.hid hn6 
            have HB7 := Lib.hid (HB6.out.trans (al.mono HB6.out.size)) 
            have HZ6 := Lib.hid (show (W6.alloc (.cells #[.slice (some ⟨wr.heap.size, 0, none⟩) (1) 1] 37)).heap.size = W6.heap.size + 1 by simp) 
            have HG6 := Lib.hid (own_ge HO6.out wr.heap.size rfl) 
            have HOL := Lib.hid (fun g hg => own_lt HR7.out.own g hg) 
            have HOG := Lib.hid (fun g hg => own_ge HR7.out.own g hg) 
            clear hi6 hr6 al hn6 
            have hlk2 := HLK.out 
            have hpx2 : (pathsN x).length ≤ 100000000 := (by rw [HPL.out]; exact hcx) 
            go_wp2_with (at_builtin; go_loud (refine wpList_append_O _ rfl _ _ 33 rfl (w.heap.size + 1) 37 i1 _ 1 24 paths_und hi1 hz10 hz11 hz12 rfl (by decide) _ (doneK n x j k).length _ rfl HR6.out.own ⟨W6.heap.size, 0, none⟩ 1 1 [.slice (some ⟨wr.heap.size, 0, none⟩) (1) 1] rfl rfl HN6.out (by intro u hu; simp at hu; subst hu; rfl) (by simp only [maxLen]; omega) (by omega) (by have := HZ6.out; have := HB6.out.size; have := HK7.out.size; have := HS5.out; omega) ?_; intro v8 W8 hown hkeep hblk _; have hps := HR6.out.push (p := j :: []) (HI6.out.mono (fun b hb => ⟨by have := HK7.out.size; have := HS5.out; omega, by have := HZ6.out; omega, fun e => by have := HOL.out b e; omega⟩)) ⟨_, _, _, rfl, HCC.out⟩ hown hkeep hblk; obtain ⟨p8, c8, rfl, -⟩ := row_shape' hown; have HR8 := Lib.hid hps; have HK8 := Lib.hid hkeep; have HBL := Lib.hid hblk; clear hown hkeep hblk hps)) 
            have hsz := HB6.out.size 
            have hsz5 := HS5.out 
            have hk8 : Keeps (fun b => ¬ (Nr + 1 ≤ b ∧ b < w2.heap.size)) wr W8 := ((Keeps.of_below' (O := fun b => ¬ (Nr + 1 ≤ b ∧ b < w2.heap.size)) HB7.out)).trans (HK8.out.mono fun b _ e => HA7.out b e) 
            have hb8 : Below (w.heap.size + 1) wr W8 := (HB7.out.mono (by have := HK7.out.size; omega)).trans (HK8.out.below (by have := HZ6.out; have := HK7.out.size; omega) fun b e => HOG.out b e) 
            have HK9 := Lib.hid (HK7.out.trans hk8) 
            have HW9 := Lib.hid (HW7.out.trans hb8) 
            have HA9 : Hid (∀ g, some g = (Value.slice p8 ((doneK n x j k).length + 1) c8).ownBlock → ¬ (Nr + 1 ≤ g ∧ g < w2.heap.size)) := Lib.hid (fun g hg => by have hz6 := HZ6.out; have hk7 := HK7.out.size; rcases HBL.out with h | h; exact HA7.out g (hg.trans h); rw [h] at hg; cases hg; omega) 
            clear hk8 hb8 
            go_roundw 
            case rel => exact ⟨k + 1, us7 ++ [.slice (some ⟨wr.heap.size, 0, none⟩) (1) 1], HLK.out, by go_num, by rw [HQ.out]; exact HR8, HA9, HK9, HW9⟩ 
            case measure => simp [intOf]; have := HLK.out; omega
          | some ad =>
            clear hnil
            go_upto_region 11 with (at_builtin; go_loud (refine wpList_append_O _ rfl _ _ 37 rfl wr.heap.size 3 i0 _ 1 8 ints_und hi hz0 hz1 hz2 rfl (by decide) _ 1 _ rfl HOA.out ad qq.length cc5 (intC (zs qq)) rfl (by unfold intC; rw [List.length_map, zs_length]; omega) (HC.out ad rfl) (by intro u hu; unfold intC at hu; obtain ⟨x, _, rfl⟩ := List.mem_map.1 hu; rfl) (by simp only [maxLen]; omega) (by omega) (by have := HZA.out; omega) ?_; intro v6 W6 hown hkeep hblk _; obtain ⟨g6, c6, rfl, -, -, -, hcc⟩ := own_pos hown (by omega); have HCC : Hid ((j :: qq).length ≤ c6) := Lib.hid (by rw [List.length_cons]; omega); have HO6 := Lib.hid hown; have HB6 := Lib.hid (HBA.out.trans (hkeep.below (n := wr.heap.size) (by have := HZA.out; omega) (fun b hb => by cases hb; exact Nat.le_refl _))); clear hown hkeep hblk hcc))
            have hi6 := IntsAt.of_own (S := fun b => wr.heap.size ≤ b ∧ b < W6.heap.size) (xs := zs (j :: qq)) (v := .slice (some ⟨g6, 0, none⟩) (1 + qq.length) c6) (w := W6) (base := wr.heap.size) (e := 3) (by have h := HO6.out; rw [show (zs (j :: qq)).length = 1 + qq.length by rw [zs_length, List.length_cons]; omega]; exact h) (by rw [zs_length, List.length_cons]; omega) (fun g hg => ⟨own_ge HO6.out g hg, own_lt HO6.out g hg⟩) 
            have hr6 := HR7.out.stays HB6.out 
            have al := (Below.refl W6.heap.size W6).alloc (Nat.le_refl _) (.cells #[.slice (some ⟨g6, 0, none⟩) (1 + qq.length) c6] 37) 
            have hn6 := new_cells W6 [.slice (some ⟨g6, 0, none⟩) (1 + qq.length) c6] 37 
            have HR6 := Lib.hid (hr6.stays al) 
            have HI6 := Lib.hid (hi6.stays al) 
            have HN6 := Lib.hid hn6 
            have HB7 := Lib.hid (HB6.out.trans (al.mono HB6.out.size)) 
            have HZ6 := Lib.hid (show (W6.alloc (.cells #[.slice (some ⟨g6, 0, none⟩) (1 + qq.length) c6] 37)).heap.size = W6.heap.size + 1 by simp) 
            have HG6 := Lib.hid (own_ge HO6.out g6 rfl) 
            have HOL := Lib.hid (fun g hg => own_lt HR7.out.own g hg) 
            have HOG := Lib.hid (fun g hg => own_ge HR7.out.own g hg) 
            clear hi6 hr6 al hn6 
            have hlk2 := HLK.out 
            have hpx2 : (pathsN x).length ≤ 100000000 := (by rw [HPL.out]; exact hcx) 
            go_wp2_with (at_builtin; go_loud (refine wpList_append_O _ rfl _ _ 33 rfl (w.heap.size + 1) 37 i1 _ 1 24 paths_und hi1 hz10 hz11 hz12 rfl (by decide) _ (doneK n x j k).length _ rfl HR6.out.own ⟨W6.heap.size, 0, none⟩ 1 1 [.slice (some ⟨g6, 0, none⟩) (1 + qq.length) c6] rfl rfl HN6.out (by intro u hu; simp at hu; subst hu; rfl) (by simp only [maxLen]; omega) (by omega) (by have := HZ6.out; have := HB6.out.size; have := HK7.out.size; have := HS5.out; omega) ?_; intro v8 W8 hown hkeep hblk _; have hps := HR6.out.push (p := j :: qq) (HI6.out.mono (fun b hb => ⟨by have := HK7.out.size; have := HS5.out; omega, by have := HZ6.out; omega, fun e => by have := HOL.out b e; omega⟩)) ⟨_, _, _, rfl, HCC.out⟩ hown hkeep hblk; obtain ⟨p8, c8, rfl, -⟩ := row_shape' hown; have HR8 := Lib.hid hps; have HK8 := Lib.hid hkeep; have HBL := Lib.hid hblk; clear hown hkeep hblk hps)) 
            have hsz := HB6.out.size 
            have hsz5 := HS5.out 
            have hk8 : Keeps (fun b => ¬ (Nr + 1 ≤ b ∧ b < w2.heap.size)) wr W8 := ((Keeps.of_below' (O := fun b => ¬ (Nr + 1 ≤ b ∧ b < w2.heap.size)) HB7.out)).trans (HK8.out.mono fun b _ e => HA7.out b e) 
            have hb8 : Below (w.heap.size + 1) wr W8 := (HB7.out.mono (by have := HK7.out.size; omega)).trans (HK8.out.below (by have := HZ6.out; have := HK7.out.size; omega) fun b e => HOG.out b e) 
            have HK9 := Lib.hid (HK7.out.trans hk8) 
            have HW9 := Lib.hid (HW7.out.trans hb8) 
            have HA9 : Hid (∀ g, some g = (Value.slice p8 ((doneK n x j k).length + 1) c8).ownBlock → ¬ (Nr + 1 ≤ g ∧ g < w2.heap.size)) := Lib.hid (fun g hg => by have hz6 := HZ6.out; have hk7 := HK7.out.size; rcases HBL.out with h | h; exact HA7.out g (hg.trans h); rw [h] at hg; cases hg; omega) 
            clear hk8 hb8 
            go_roundw 
            case rel => exact ⟨k + 1, us7 ++ [.slice (some ⟨g6, 0, none⟩) (1 + qq.length) c6], HLK.out, by go_num, by rw [HQ.out]; exact HR8, HA9, HK9, HW9⟩ 
            case measure => simp [intOf]; have := HLK.out; omega
        · obtain rfl : k = (pathsN x).length := by omega
          have hr := HR7.out
          rw [HDE.out] at hr
          have HR8 := Lib.hid hr
          obtain ⟨p8, c8, e8, -⟩ := row_shape' hr.own
          cases e8
          clear hr HR7
          go_wp2
          go_roundw
          case rel => exact ⟨j + 1, us7, by omega, by go_num, by rw [← HDE.out] at HR8 ⊢; exact HR8, HW7⟩
          case measure => simp [intOf]; omega
    · obtain rfl : j = n.kids.length := by omega
      have hr := HR.out
      generalize (doneP n n.kids.length).length = m at *
      rw [doneP_end] at hr
      have HRT := Lib.hid hr
      clear hr hn
      go_wp2
      go_ret
      exact ⟨_, us, rfl, HRT.out, HB.out.trans (HW.out.mono (by omega))⟩
end Go.Proofs.YtigpffbhkopjeaaDoor
