/- The tree of choices: the law's own function. Its condition: how the choices lie in memory. -/
import Derived.Test.YtigpffbhkopjeaaDoorNd18
import Derived.Test.YtigpffbhkopjeaaDoorNd19
import Derived.IntWalk
namespace Go.Proofs.YtigpffbhkopjeaaDoor
open Go.RowKit Go.Sub Go.Sort

/-- a row of bytes -/
def BytesRow (w : World) (v : Value) (c : List UInt8) : Prop := ∃ p cap b o, v = .slice p c.length cap ∧ (0 < c.length → p = some ⟨b, o, none⟩) ∧ c.length ≤ 9223372036854775807 ∧ ∀ (i : Nat) x, c[i]? = some x → w.cell? ⟨b, o + i, none⟩ = some (.int .u8 (x.toNat : Int))
theorem BytesRow.stays {w w' : World} {v : Value} {c : List UInt8} (h : BytesRow w v c) (hb : Below w.heap.size w w') : BytesRow w' v c := by
  obtain ⟨p, cap, b, o, e, hp, hl, hx⟩ := h
  exact ⟨p, cap, b, o, e, hp, hl, fun i x hi => (hb.cell (p := ⟨b, o + i, none⟩) (World.block_lt_of_cell? _ _ (hx i x hi))).trans (hx i x hi)⟩
theorem nodeC_take : ∀ (l : List NodeT) (us : List Value) (d : Nat), us.length = l.length → (nodeC l us).take (d * 3) = nodeC (l.take d) (us.take d)
  | [], us, d, h => by
    have : us = [] := List.eq_nil_of_length_eq_zero h
    subst this; simp [nodeC]
  | x :: r, [], d, h => by simp at h
  | x :: r, u :: us, 0, h => by simp [nodeC]
  | x :: r, u :: us, d + 1, h => by
    rw [show (d + 1) * 3 = d * 3 + 3 by omega]
    simp only [nodeC, List.take_succ_cons, nodeC_take r us d (by simpa using h)]
theorem nodeC_drop : ∀ (l : List NodeT) (us : List Value) (d : Nat), us.length = l.length → (nodeC l us).drop (d * 3) = nodeC (l.drop d) (us.drop d)
  | [], us, d, h => by
    have : us = [] := List.eq_nil_of_length_eq_zero h
    subst this; simp [nodeC]
  | x :: r, [], d, h => by simp at h
  | x :: r, u :: us, 0, h => by simp
  | x :: r, u :: us, d + 1, h => by
    rw [show (d + 1) * 3 = d * 3 + 3 by omega]
    simp only [nodeC, List.drop_succ_cons, nodeC_drop r us d (by simpa using h)]
theorem ownsRow_less {w : World} {base : Nat} {e : TypeId} {size : Nat} {g n cap : Nat} {xs : List Value} (h : w.ownsRow base e size (.slice (some ⟨g, 0, none⟩) n cap) n xs) (d : Nat) (hd : d ≤ n) : w.ownsRow base e size (.slice (some ⟨g, 0, none⟩) d cap) d (xs.take (d * size)) := by
  obtain ⟨hl, h⟩ := h
  refine ⟨by rw [List.length_take, hl, Nat.min_eq_left (Nat.mul_le_mul_right _ hd)], ?_⟩
  rcases h with ⟨h, _⟩ | ⟨g', cap', cur, e1, e2, e3, e4, e5, e6, e7⟩
  · cases h
  · cases e1
    exact .inr ⟨g, cap, cur, rfl, e2, e3, Nat.le_trans hd e4, e5, e6, by rw [← e7, List.take_take, Nat.min_eq_left (Nat.mul_le_mul_right _ hd)]⟩
/-- how all lies behind j pairs -/
structure TreeInv (w : World) (l : List NodeT) (v : Value) (us : List Value) (wr : World) : Prop where
  own : wr.ownsRow (w.heap.size + 1) 25 3 v l.length (nodeC l us)
  len : us.length = l.length
  kids : ∀ (i : Nat) x u, l[i]? = some x → us[i]? = some u → KidsAt wr (fun b => w.heap.size < b ∧ b < wr.heap.size ∧ some b ≠ v.ownBlock) u x.kids
  txt : wr.heap[w.heap.size + 2]? = some (.cells ((treeTexts.map Value.string).toArray) 9 (0, 0))
  off : some (w.heap.size + 2) ≠ v.ownBlock
  box : NBox wr w.heap.size 25 0 ⟨#[]⟩ (.slice none 0 0)
  bel : Below w.heap.size w wr
theorem TreeInv.one {w : World} {l : List NodeT} {v : Value} {us : List Value} {wr : World} (h : TreeInv w l v us wr) : ∀ u ∈ us, u.oneCell' = true := by
  intro u hu
  obtain ⟨i, hi, rfl⟩ := List.getElem_of_mem hu
  have hl : i < l.length := by have := h.len; omega
  obtain ⟨p, c, e, _⟩ := (h.kids i l[i] us[i] (List.getElem?_eq_getElem hl) (List.getElem?_eq_getElem hi)).shape
  rw [e]; rfl
def TreePost (w : World) (c : List UInt8) (e : Ending) (w' : World) : Prop := ∃ u, e = .returned (nodeV (treeN c) u) ∧ KidsAt w' (fun b => w.heap.size ≤ b) u (treeN c).kids ∧ Below w.heap.size w w'
set_option maxRecDepth 100000 in
set_option maxHeartbeats 4000000 in
theorem tree_calls (c : List UInt8) (v : Value) (w : World) (hv : BytesRow w v c) :
    Calls Tryd.prog 9 #[v] w (TreePost w c) := by
  obtain ⟨pc, cc, bc, oc, rfl, hpc, hlc, hcc⟩ := hv
  have HP := Lib.hid hpc
  have HC := Lib.hid hcc
  clear hpc hcc
  go_enter Tryd.func9, Tryd.ntmps9
  go_wp2
  have hst : TreeInv w (treeL c 0) (.slice (some ⟨w.heap.size + 1, 0, none⟩) 1 1) [.slice none 0 0] (((w.alloc (.cells #[.int .i64 0, .string ⟨#[]⟩, .slice none 0 0] 25)).alloc (.cells #[.int .i64 1, .string ⟨#[]⟩, .slice none 0 0] 25)).alloc (.cells #[.string ⟨#[]⟩, .string ⟨#[97]⟩, .string ⟨#[124]⟩, .string ⟨#[36, 120]⟩, .string ⟨#[46]⟩, .string ⟨#[101, 108, 115, 101]⟩, .string ⟨#[98, 48]⟩, .string ⟨#[10]⟩] 9)) := by
    have b1 := World.alloc_heap_new (w.alloc (.cells #[.int .i64 0, .string ⟨#[]⟩, .slice none 0 0] 25)) (.cells #[.int .i64 1, .string ⟨#[]⟩, .slice none 0 0] 25)
    have b0 := (nbox_new w 25 0 ⟨#[]⟩ (.slice none 0 0)).stays (((Below.refl _ _).alloc (Nat.le_refl _) (.cells #[.int .i64 1, .string ⟨#[]⟩, .slice none 0 0] 25)).alloc (by simp) (.cells #[.string ⟨#[]⟩, .string ⟨#[97]⟩, .string ⟨#[124]⟩, .string ⟨#[36, 120]⟩, .string ⟨#[46]⟩, .string ⟨#[101, 108, 115, 101]⟩, .string ⟨#[98, 48]⟩, .string ⟨#[10]⟩] 9))
    have b2 := World.alloc_heap_new ((w.alloc (.cells #[.int .i64 0, .string ⟨#[]⟩, .slice none 0 0] 25)).alloc (.cells #[.int .i64 1, .string ⟨#[]⟩, .slice none 0 0] 25)) (.cells #[.string ⟨#[]⟩, .string ⟨#[97]⟩, .string ⟨#[124]⟩, .string ⟨#[36, 120]⟩, .string ⟨#[46]⟩, .string ⟨#[101, 108, 115, 101]⟩, .string ⟨#[98, 48]⟩, .string ⟨#[10]⟩] 9)
    replace b1 := (Below.heap_alloc _ (.cells #[.string ⟨#[]⟩, .string ⟨#[97]⟩, .string ⟨#[124]⟩, .string ⟨#[36, 120]⟩, .string ⟨#[46]⟩, .string ⟨#[101, 108, 115, 101]⟩, .string ⟨#[98, 48]⟩, .string ⟨#[10]⟩] 9) _ (by simp)).trans b1
    simp only [World.size_alloc] at b1 b2
    refine ⟨⟨rfl, .inr ⟨w.heap.size + 1, 1, _, rfl, Nat.le_refl _, b1, by simp [treeL], by simp [maxLen], rfl, rfl⟩⟩, rfl, ?_, b2, fun e => by injection e with e; exact absurd e (by simp), b0, ?_⟩
    · intro i x u hx hu
      match i, hx, hu with
      | 0, hx, hu =>
        simp only [treeL, List.getElem?_cons_zero, Option.some.injEq] at hx hu
        subst hx hu
        exact .nil _ _
      | i + 1, hx, hu => simp [treeL] at hx
    · exact (((Below.refl _ w).alloc (Nat.le_refl _) _).alloc (by simp) _).alloc (by simp; omega) _
  generalize ((w.alloc (.cells #[.int .i64 0, .string ⟨#[]⟩, .slice none 0 0] 25)).alloc (.cells #[.int .i64 1, .string ⟨#[]⟩, .slice none 0 0] 25)).alloc (.cells #[.string ⟨#[]⟩, .string ⟨#[97]⟩, .string ⟨#[124]⟩, .string ⟨#[36, 120]⟩, .string ⟨#[46]⟩, .string ⟨#[101, 108, 115, 101]⟩, .string ⟨#[98, 48]⟩, .string ⟨#[10]⟩] 9) = W1 at *
  have HST := Lib.hid hst
  clear hst
  go_loopw [3, 5] (fun v i wr => ∃ (j : Nat) (us : List Value), j ≤ treeJ c ∧ i = .int .i64 ((2 * j : Nat) : Int) ∧ Hid (TreeInv w (treeL c j) v us wr)) (fun _ i _ => 60 - (intOf i).toNat)
  case atStart => exact ⟨0, _, Nat.zero_le _, rfl, HST⟩
  case round =>
    rename_i v
    obtain ⟨j, us, hj, rfl, HI⟩ := hrel
    obtain ⟨pv, cv, rfl, hcv⟩ := row_shape' HI.out.own
    have hj30 : treeJ c ≤ 30 := Nat.min_le_left _ _
    by_cases hlt : 2 * j + 1 < c.length ∧ j < 30
    · have hx := List.getElem?_eq_getElem (show 2 * j < c.length by omega)
      have hy := List.getElem?_eq_getElem hlt.1
      obtain rfl := HP.out (by omega)
      have hcx := HC.out _ _ hx
      have hcy := HC.out _ _ hy
      have hwr := HI.out.bel
      replace hcx := (hwr.cell (p := ⟨bc, oc + 2 * j, none⟩) (World.block_lt_of_cell? _ _ hcx)).trans hcx
      replace hcy := (hwr.cell (p := ⟨bc, oc + (2 * j + 1), none⟩) (World.block_lt_of_cell? _ _ hcy)).trans hcy
      have hstep : treeL c (j + 1) = treeStep (treeL c j) c[2 * j] c[2 * j + 1] := by
        rw [treeL, List.getD_eq_getElem?_getD, List.getD_eq_getElem?_getD, hx, hy]; rfl
      have hlen := treeL_len c j
      have hj1 : j + 1 ≤ treeJ c := by unfold treeJ; omega
      generalize treeL c j = l at *
      have hbx := (c[2 * j]).toNat_lt
      have hby := (c[2 * j + 1]).toNat_lt
      generalize c[2 * j] = x at *
      generalize c[2 * j + 1] = y at *
      have hi60 : 2 * j < 60 := by omega
      have hil : 2 * j + 1 < c.length := hlt.1
      generalize hij : 2 * j = i at *
      have HSt := Lib.hid hstep
      have HIJ := Lib.hid hij
      have htx : ∀ k, k < 8 → wr.cell? ⟨w.heap.size + 2, k, none⟩ = some (.string (textAt k)) := fun k hk => by
        refine cell_of_block HI.out.txt ?_
        match k, hk with
        | 0, _ => rfl
        | 1, _ => rfl
        | 2, _ => rfl
        | 3, _ => rfl
        | 4, _ => rfl
        | 5, _ => rfl
        | 6, _ => rfl
        | 7, _ => rfl
      have hct := htx (y.toNat % 8) (by omega)
      have t1 : decide ((i : Int) + 1 < (c.length : Int)) = true := by simp; omega
      have t2 : decide ((i : Int) < 60) = true := by simp; omega
      have hil0 : i < c.length := by omega
      have hal : Below wr.heap.size wr (wr.alloc (.cells #[.int .i64 0, .string ⟨#[]⟩, .slice none 0 0] 25)) := (Below.refl _ _).alloc (Nat.le_refl _) _
      have hdx := (hal.cell (p := ⟨bc, oc + i, none⟩) (World.block_lt_of_cell? _ _ hcx)).trans hcx
      have hdy := (hal.cell (p := ⟨bc, oc + (i + 1), none⟩) (World.block_lt_of_cell? _ _ hcy)).trans hcy
      have hdt := (hal.cell (p := ⟨w.heap.size + 2, y.toNat % 8, none⟩) (World.block_lt_of_cell? _ _ hct)).trans hct
      clear hx hy hstep hij hlt htx hwr hal
      go_wp2
      go_region
      clear hdx hdy hdt hcx hct t1 t2
      have hal2 : Below wr.heap.size wr ((wr.alloc (.cells #[.int .i64 (x.toNat % 40), .string (textAt (y.toNat % 8)), .slice none 0 0] 25)).drew) := ((Below.refl _ _).alloc (Nat.le_refl _) _).drew
      have hnb : NBox ((wr.alloc (.cells #[.int .i64 (x.toNat % 40), .string (textAt (y.toNat % 8)), .slice none 0 0] 25)).drew) wr.heap.size 25 (x.toNat % 40) (textAt (y.toNat % 8)) (.slice none 0 0) := World.alloc_heap_new wr _
      have hszb : ((wr.alloc (.cells #[.int .i64 (x.toNat % 40), .string (textAt (y.toNat % 8)), .slice none 0 0] 25)).drew).heap.size = wr.heap.size + 1 := by show (wr.alloc _).heap.size = _; simp
      replace hcy := (hal2.cell (p := ⟨bc, oc + (i + 1), none⟩) (World.block_lt_of_cell? _ _ hcy)).trans hcy
      generalize (wr.alloc (.cells #[.int .i64 (x.toNat % 40), .string (textAt (y.toNat % 8)), .slice none 0 0] 25)).drew = WB at *
      have HAL := Lib.hid hal2
      have HNB := Lib.hid hnb
      have HSZ := Lib.hid hszb
      obtain ⟨n0, n1, n2⟩ := hnb.cells
      clear hal2 hnb hszb n2
      have hm : min ((y.toNat : Int) / 8 % 4) (l.length : Int) = ((takeN l y : Nat) : Int) := by unfold takeN; omega
      have hkl := takeN_le l y
      obtain ⟨vz, hvz⟩ : ∃ vz, vz = Value.slice none 0 0 := ⟨_, rfl⟩
      have n2 : WB.cell? ⟨wr.heap.size, 2, none⟩ = some vz := by rw [hvz]; exact HNB.out.cells.2.2
      have HVZ := Lib.hid hvz
      have hown := HI.out.own
      obtain ⟨g, rfl⟩ : ∃ g, pv = some ⟨g, 0, none⟩ := by
        rcases hown.2 with ⟨_, h⟩ | ⟨g, _, _, h, _⟩
        · omega
        · injection h with h; exact ⟨g, h⟩
      clear hvz
      go_wp2
      have HK := Lib.hid (rfl : takeN l y = takeN l y)
      generalize hk : takeN l y = k at *
      have HKY := Lib.hid hk
      clear hm hk
      obtain ⟨d, hd⟩ : ∃ d, d + k = l.length := ⟨l.length - k, by omega⟩
      have hll := HI.out.own.1
      have q4 : (l.length : Int) - (k : Int) = (d : Int) := by omega
      have wq : IntKind.i64.wrap (d : Int) = (d : Int) := IntWalk.i64_in _ (by omega)
      have q5 : l.length - d = k := by omega
      have q6 : d ≤ l.length := by omega
      have HD := Lib.hid hd
      clear hd hll
      obtain ⟨ad, hif, had⟩ : ∃ ad, (if cv = d then (some ⟨g, 0, none⟩ : Option Addr) else some ⟨g, d * 3, none⟩) = some ⟨g, ad, none⟩ ∧ (0 < k → ad = d * 3) := by
        by_cases h : cv = d
        · exact ⟨0, by rw [if_pos h], fun h2 => by omega⟩
        · exact ⟨d * 3, by rw [if_neg h], fun _ => rfl⟩
      obtain ⟨i0, hi, hz0, hz1, hz2⟩ := info_parts node_info
      have hcellR : ∀ (j : Nat) u, (nodeC (l.drop d) (us.drop d))[j]? = some u → WB.drew.cell? ((⟨g, ad, none⟩ : Addr).add j) = some u := by
        intro j' u hu
        have hjk : j' < (nodeC (l.drop d) (us.drop d)).length := (List.getElem?_eq_some_iff.1 hu).1
        rw [nodeC_len _ _ (by rw [List.length_drop, List.length_drop, HI.out.len]), List.length_drop] at hjk
        have e := had (by omega)
        subst e
        rw [← nodeC_drop _ _ _ HI.out.len, List.getElem?_drop] at hu
        have h1 := (World.ownsRow.cells (g := g) HI.out.own rfl) _ _ hu
        rw [addr_zero] at h1
        have h2 := (HAL.out.cell (p := ⟨g, d * 3 + j', none⟩) (World.block_lt_of_cell? _ _ h1)).trans h1
        rw [show (⟨g, d * 3, none⟩ : Addr).add j' = ⟨g, d * 3 + j', none⟩ by unfold Addr.add; split <;> simp_all]
        exact h2
      have hlenR : (nodeC (l.drop d) (us.drop d)).length = k * 3 := by rw [nodeC_len _ _ (by rw [List.length_drop, List.length_drop, HI.out.len]), List.length_drop, q5]
      have hoRow : WB.drew.ownsRow WB.heap.size 25 3 vz 0 [] := by rw [HVZ.out]; exact World.ownsRow_nil _ _ _ _
      obtain ⟨v', w', hrun, hr', hg', -, hblk⟩ := run_append_own2 (P := Tryd.prog) WB.drew WB.heap.size 23 23 25 i0 _ 3 48 nodes_und hi hz0 hz1 hz2 rfl (by decide) vz 0 [] hoRow ⟨g, ad, none⟩ k (cv - d) (nodeC (l.drop d) (us.drop d)) hlenR hcellR
        (nodeC_one _ _ fun u hu => HI.out.one u (List.mem_of_mem_drop hu)) (by simp only [maxLen]; omega) (by omega) (Nat.le_refl _)
      rw [Nat.zero_add, List.nil_append] at hr'
      have hk' : Keeps (fun _ => False) WB w' := by
        have h1 : Keeps (fun b => some b = vz.ownBlock) WB w' := (Keeps.drew (O := fun b => some b = vz.ownBlock) WB).trans (Keeps.of_grownBy hg' fun r h => h.symm)
        exact h1.mono fun b _ h => by rw [HVZ.out] at h; cases h
      have hnb' := HNB.out.keeps hk' (fun h => h)
      obtain ⟨m0, m1, m2⟩ := hnb'.cells
      obtain ⟨f0, f1, f2⟩ := hnb'.free
      obtain ⟨p', c', rfl, hc'⟩ := row_shape' hr'
      have HR := Lib.hid hr'
      have HK' := Lib.hid hk'
      have HB' := Lib.hid hblk
      clear hr' hg' hblk hoRow hlenR hcellR hk' hown
      simp [go_sem] at hrun
      go_region
      have hset : NBox (w'.setCell ⟨wr.heap.size, 2, none⟩ (.slice p' k c')) wr.heap.size 25 (x.toNat % 40) (textAt (y.toNat % 8)) (.slice p' k c') := heap_setCell_same w' wr.heap.size 2 _ _ _ hnb'
      have hkS := keeps_set w' wr.heap.size 2 (.slice p' k c') (O := fun b => b = wr.heap.size) rfl
      clear hrun hif m0 m1 m2 f0 f1 f2 n0 n1 n2 hnb'
      generalize w'.setCell ⟨wr.heap.size, 2, none⟩ (.slice p' k c') = W9 at *
      obtain ⟨s0, s1, s2⟩ := hset.cells
      have hglt := HI.out.own.lt g rfl
      have hk9 : Keeps (fun b => b = wr.heap.size) wr W9 := ((Keeps.of_below' (O := fun b => b = wr.heap.size) HAL.out).trans (HK'.out.mono fun b _ h => h.elim)).trans hkS
      have hless := ownsRow_less HI.out.own d q6
      rw [nodeC_take _ _ _ HI.out.len] at hless
      have hO9 := ownsRow_keeps (ownsRow_keeps hless hk9 (fun b hb e => by have h1 : b = g := Option.some.inj hb; have := hglt.2; omega)) (Keeps.alloc (fun _ => False) W9 (.cells #[.int .i64 (x.toNat % 40), .string (textAt (y.toNat % 8)), .slice p' k c'] 25)) (fun _ _ h => h)
      have HO9 := Lib.hid hO9
      have HN9 := Lib.hid (new_cells W9 [.int .i64 (x.toNat % 40), .string (textAt (y.toNat % 8)), .slice p' k c'] 25)
      have HK9 := Lib.hid hk9
      have HKS := Lib.hid hkS
      have hs9 := hk9.size
      have hsI := HI.out.bel.size
      clear hless hO9 hk9 hkS hset
      go_wp2_with (at_builtin; refine wpList_append_O _ rfl _ _ 23 rfl (w.heap.size + 1) 25 i0 _ 3 48 nodes_und hi hz0 hz1 hz2 rfl (by decide) _ d _ rfl HO9.out ⟨W9.heap.size, 0, none⟩ 1 1 [.int .i64 (x.toNat % 40), .string (textAt (y.toNat % 8)), .slice p' k c'] rfl rfl HN9.out (by intro u hu; simp at hu; rcases hu with rfl | rfl | rfl <;> rfl) (by simp only [maxLen]; omega) (by omega) (by simp; omega) ?_; intro v2 w3 hown2 hkeep2 hblk2 _; have HOW2 := Lib.hid hown2; have HKE2 := Lib.hid hkeep2; have HBL2 := Lib.hid hblk2; obtain ⟨g2, cap2, rfl⟩ := own_succ' hown2; clear hown2 hkeep2 hblk2)
      have hl' : treeL c (j + 1) = l.take d ++ [.mk ((x.toNat : Int) % 40) (textAt (y.toNat % 8)) (l.drop d)] := by
        rw [HSt.out]; unfold treeStep
        rw [HKY.out, show l.length - k = d by have := HD.out; omega, show ((x.toNat % 40 : Nat) : Int) = (x.toNat : Int) % 40 by omega]
      have hal9 : Keeps (fun _ => False) W9 (W9.alloc (.cells #[.int .i64 (x.toNat % 40), .string (textAt (y.toNat % 8)), .slice p' k c'] 25)) := Keeps.alloc _ _ _
      have hz9 : (W9.alloc (.cells #[.int .i64 (x.toNat % 40), .string (textAt (y.toNat % 8)), .slice p' k c'] 25)).heap.size = W9.heap.size + 1 := by simp
      have hk3 : Keeps (fun b => b = g) W9 w3 := (hal9.mono fun b _ h => h.elim).trans (HKE2.out.mono fun b _ h => Option.some.inj h)
      have hv2 : ∀ b, b < W9.heap.size + 1 → b ≠ g → some b ≠ (Value.slice (some ⟨g2, 0, none⟩) (d + 1) cap2).ownBlock := fun b hb hg e => by
        rcases HBL2.out with h | h
        · exact hg (Option.some.inj (e.trans h))
        · have := Option.some.inj (e.trans h); rw [hz9] at this; omega
      have hs3 := hk3.size
      have hgl := HI.out.own.lt g rfl
      have keepAll : ∀ {u : Value} {l2 : List NodeT} {S : Nat → Prop}, KidsAt W9 S u l2 → (∀ b, S b → w.heap.size < b ∧ b < W9.heap.size ∧ b ≠ g) → KidsAt w3 (fun b => w.heap.size < b ∧ b < w3.heap.size ∧ some b ≠ (Value.slice (some ⟨g2, 0, none⟩) (d + 1) cap2).ownBlock) u l2 := fun h hS =>
        (h.keeps hk3 fun b hb => (hS b hb).2.2).mono fun b hb => by
          obtain ⟨h1, h2, h3⟩ := hS b hb
          exact ⟨h1, by omega, hv2 b (by omega) h3⟩
      have hkid : ∀ (i' : Nat) z uz, l[i']? = some z → us[i']? = some uz → KidsAt W9 (fun b => w.heap.size < b ∧ b < wr.heap.size ∧ b ≠ g) uz z.kids := fun i' z uz hz huz =>
        ((HI.out.kids i' z uz hz huz).keeps HK9.out fun b hb e => by have := hb.2.1; omega).mono fun b hb => ⟨hb.1, hb.2.1, fun e => hb.2.2 (by rw [e]; rfl)⟩
      have hlt2 : w.heap.size + 2 < wr.heap.size := (Array.getElem?_eq_some_iff.1 HI.out.txt).1
      have hoff2 : w.heap.size + 2 ≠ g := fun e => HI.out.off (by rw [e]; rfl)
      refine ⟨⟨j + 1, us.take d ++ [.slice p' k c'], hj1, by have := HIJ.out; rw [show ((2 * (j + 1) : Nat) : Int) = (i : Int) + 2 by omega], Lib.hid ?_⟩, by simp [intOf]; omega⟩
      rw [hl']
      have hlu : (us.take d).length = (l.take d).length := by rw [List.length_take, List.length_take, HI.out.len]
      have hld : (l.take d).length = d := by rw [List.length_take]; omega
      refine ⟨?_, by simp [hlu], ?_, ?_, ?_, ?_, ?_⟩
      · have h := HOW2.out
        rw [nodeC_snoc _ _ _ _ hlu, List.length_append, hld]
        exact h
      · intro i' z uz hz huz
        by_cases hi' : i' < d
        · rw [List.getElem?_append_left (by omega), List.getElem?_take, if_pos hi'] at hz
          rw [List.getElem?_append_left (by omega), List.getElem?_take, if_pos hi'] at huz
          exact keepAll (hkid i' z uz hz huz) fun b hb => ⟨hb.1, by omega, hb.2.2⟩
        · rw [List.getElem?_append_right (by omega), hld] at hz
          rw [List.getElem?_append_right (by omega), hlu, hld] at huz
          have hi0 : i' - d = 0 := by
            have := (List.getElem?_eq_some_iff.1 hz).1
            simp at this; omega
          rw [hi0] at hz huz
          simp only [List.getElem?_cons_zero, Option.some.injEq] at hz huz
          subst hz huz
          have hdl : (l.drop d).length = k := by rw [List.length_drop]; exact q5
          have hbase : WB.heap.size = wr.heap.size + 1 := HSZ.out
          have hrow9 : W9.ownsRow WB.heap.size 25 3 (.slice p' k c') (l.drop d).length (nodeC (l.drop d) (us.drop d)) := by
            rw [hdl]
            exact ownsRow_keeps HR.out HKS.out fun b hb e => by have := (HR.out.lt b hb.symm).1; omega
          have hka := KidsAt.of_own (S := fun b => w.heap.size < b ∧ b < W9.heap.size ∧ b ≠ g) hrow9 (by rw [List.length_drop, List.length_drop, HI.out.len]) (by rw [hdl]; omega)
            (fun b hb => by have h := hrow9.lt b hb.symm; exact ⟨by omega, h.2, by omega⟩) (fun i2 z2 u2 hz2 hu2 => by
              rw [List.getElem?_drop] at hz2 hu2
              exact (hkid _ z2 u2 hz2 hu2).mono fun b hb => ⟨hb.1, by omega, hb.2.2⟩)
          exact keepAll hka fun b hb => hb
      · exact hk3.heap (HK9.out.heap HI.out.txt (by omega)) hoff2
      · exact hv2 _ (by omega) hoff2
      · exact (HI.out.box.keeps HK9.out (by omega)).keeps hk3 (by omega)
      · exact (HI.out.bel.trans (HK9.out.below (by omega) fun b hb => by omega)).trans (hk3.below (by omega) fun b hb => by omega)
    · have hjt : j = treeJ c := by unfold treeJ at *; omega
      subst hjt
      have hkids : KidsAt wr (fun b => w.heap.size < b) (.slice pv (treeL c (treeJ c)).length cv) (treeL c (treeJ c)) := KidsAt.of_own HI.out.own HI.out.len (by have := treeL_len c (treeJ c); have : treeJ c ≤ 30 := Nat.min_le_left _ _; omega)
        (fun g hg => by have := (HI.out.own.lt g hg.symm).1; omega) (fun i x u hx hu => (HI.out.kids i x u hx hu).mono fun b hb => hb.1)
      have hT : treeN c = .mk 10 ⟨#[]⟩ (treeL c (treeJ c)) := rfl
      have HT := Lib.hid hT
      have HKI := Lib.hid hkids
      have hbx := HI.out.box
      obtain ⟨b0, b1, b2⟩ := hbx.cells
      obtain ⟨f0, f1, f2⟩ := hbx.free
      have hput := hbx.put (k' := 10) (t' := ⟨#[]⟩) (u' := .slice pv (treeL c (treeJ c)).length cv)
      have HP2 := Lib.hid hput
      have HB2 := Lib.hid HI.out.bel
      have hlt2 : (2 * treeJ c + 1 < c.length ∧ treeJ c < 30) = False := by apply eq_false; omega
      have hend : ∀ (K : Act → World → Prop) (a : Act), True := fun _ _ => trivial
      clear hT hkids hput HI hend
      generalize treeL c (treeJ c) = l at *
      by_cases h1 : 2 * treeJ c + 1 < c.length
      · have h2 : 30 ≤ treeJ c := by omega
        have t1 : decide (((2 * treeJ c : Nat) : Int) + 1 < (c.length : Int)) = true := by simp; omega
        have t2 : decide (((2 * treeJ c : Nat) : Int) < 60) = false := by simp; omega
        clear hlt hlt2 h1 h2 hj
        have hib : 2 * treeJ c ≤ 60 := by omega
        generalize 2 * treeJ c = i at *
        go_wp2
        obtain ⟨hq, hP⟩ := HP2.out
        have hki := HKI.out.keeps hP (fun b hb e => by omega)
        have hbel := HB2.out.trans (hP.below HB2.out.size fun b hb => by omega)
        have HKi := Lib.hid hki
        have HBe := Lib.hid hbel
        clear HP2 hki hbel b0 b1 b2 f0 f1 f2
        generalize ((wr.setCell ⟨w.heap.size, 0, none⟩ (.int .i64 10)).setCell ⟨w.heap.size, 1, none⟩ (.string ⟨#[]⟩)).setCell ⟨w.heap.size, 2, none⟩ (.slice pv l.length cv) = W9 at *
        obtain ⟨q0, q1, q2⟩ := hq.cells
        clear hq hP
        refine bodyPost_ret (v := .agg #[.int .i64 10, .string ⟨#[]⟩, .slice pv l.length cv]) (by simp [results, Tryd.results9, go_sem, q0, q1, q2]) rfl ⟨_, by rw [HT.out]; rfl, ?_, HBe.out⟩
        rw [HT.out]
        exact HKi.out.mono fun b hb => Nat.le_of_lt hb
      · have t1 : decide (((2 * treeJ c : Nat) : Int) + 1 < (c.length : Int)) = false := by simp; omega
        clear hlt hlt2 h1 hj
        have hib : 2 * treeJ c ≤ 60 := by omega
        generalize 2 * treeJ c = i at *
        go_wp2
        obtain ⟨hq, hP⟩ := HP2.out
        have hki := HKI.out.keeps hP (fun b hb e => by omega)
        have hbel := HB2.out.trans (hP.below HB2.out.size fun b hb => by omega)
        have HKi := Lib.hid hki
        have HBe := Lib.hid hbel
        clear HP2 hki hbel b0 b1 b2 f0 f1 f2
        generalize ((wr.setCell ⟨w.heap.size, 0, none⟩ (.int .i64 10)).setCell ⟨w.heap.size, 1, none⟩ (.string ⟨#[]⟩)).setCell ⟨w.heap.size, 2, none⟩ (.slice pv l.length cv) = W9 at *
        obtain ⟨q0, q1, q2⟩ := hq.cells
        clear hq hP
        refine bodyPost_ret (v := .agg #[.int .i64 10, .string ⟨#[]⟩, .slice pv l.length cv]) (by simp [results, Tryd.results9, go_sem, q0, q1, q2]) rfl ⟨_, by rw [HT.out]; rfl, ?_, HBe.out⟩
        rw [HT.out]
        exact HKi.out.mono fun b hb => Nat.le_of_lt hb
end Go.Proofs.YtigpffbhkopjeaaDoor
