/- NodeLaid. Its condition: the lists lie in memory; the tables that Go's library reads. -/
import Derived.Test.YtigpffbhkopjeaaDoorNd28
import Derived.Test.YtigpffbhkopjeaaDoorNd13
import Derived.Deep.QuietTactic
namespace Go.Proofs.YtigpffbhkopjeaaDoor
open Go.RowKit Go.Sub Go.Sort
theorem apart_take : ∀ {P Q : List Int} {j : Nat} {x y : Int}, P[j]? = some x → Q[j]? = some y → apartN (P.take (j + 1)) (Q.take (j + 1)) = (apartN (P.take j) (Q.take j) || decide (x ≠ y))
  | [], _, _, _, _, h, _ => by simp at h
  | _ :: _, [], _, _, _, _, h => by simp at h
  | a :: P, b :: Q, 0, x, y, h1, h2 => by
    simp at h1 h2; subst h1; subst h2
    simp [apartN]
  | a :: P, b :: Q, j + 1, x, y, h1, h2 => by
    simp only [List.getElem?_cons_succ] at h1 h2
    simp only [List.take_succ_cons, apartN]
    rw [apart_take h1 h2, Bool.or_assoc]
theorem apart_all : ∀ (P Q : List Int) (j : Nat), (P.length ≤ j ∨ Q.length ≤ j) → apartN (P.take j) (Q.take j) = apartN P Q
  | [], Q, j, _ => by simp [apartN]
  | a :: P, [], j, _ => by cases j <;> simp [apartN]
  | a :: P, b :: Q, 0, h => by simp at h
  | a :: P, b :: Q, j + 1, h => by
    simp only [List.take_succ_cons, apartN]
    rw [apart_all P Q j (by simpa using h)]
set_option maxRecDepth 100000 in
set_option maxHeartbeats 4000000 in
theorem laid_core (c d : List UInt8) (v0 v1 : Value) (k i : Int) (hk0 : 0 ≤ k) (hk1 : k ≤ 255) (hi0 : 0 ≤ i) (hi1 : i ≤ 255) (w : World) (h0 : BytesRow w v0 c) (h1 : BytesRow w v1 d) (hT : Tabs w) :
    Calls Tryd.prog 8 #[v0, v1, .int .u8 k, .int .u8 i] w fun e w' => e = .returned (.bool true) ∧ Below w.heap.size w w' := by
  obtain ⟨a, ha⟩ : ∃ a, a = treeN c := ⟨_, rfl⟩
  obtain ⟨b, hb⟩ : ∃ b, b = treeN d := ⟨_, rfl⟩
  have oa : TreeOf a := ha ▸ treeOf c
  have ob : TreeOf b := hb ▸ treeOf d
  have Ha := Lib.hid ha
  have Hb := Lib.hid hb
  have OA := Lib.hid oa
  have OB := Lib.hid ob
  clear ha hb oa ob
  have HT := Lib.hid hT
  have H0 := Lib.hid h0
  have H1 := Lib.hid h1
  have wk : IntKind.i64.wrap k = k := IntWalk.i64_in _ (by omega)
  have wi : IntKind.i64.wrap i = i := IntWalk.i64_in _ (by omega)
  have ca32 : countN a ≤ 1000000000 := by have := OA.out.count; omega
  have cb32 : countN b ≤ 1000000000 := by have := OB.out.count; omega
  clear hT h0 h1
  go_enter Tryd.func8, Tryd.ntmps8
  have tc := Lib.hid (tree_told c v0 w H0.out a Ha.out) 
  go_upto_region 2 with (go_at_call 9; refine tc.out.mono ?_; rintro _ V1 ⟨pa, ca, rfl, ku, bl⟩) 
  obtain ⟨tb, bb, zz⟩ := treeBox_new ku.out bl.out 
  clear tc ku bl zz
  generalize V1.alloc (.cells #[.int .i64 a.kind, .string a.text, .slice pa a.kids.length ca] 25) = W1 at *
  generalize V1.heap.size = A at *
  have BW := Lib.hid bb
  replace HT := Lib.hid (HT.out.stays bb)
  replace H0 := Lib.hid (H0.out.stays bb)
  replace H1 := Lib.hid (H1.out.stays bb)
  have TA := Lib.hid tb
  clear tb bb
  have tc := Lib.hid (tree_told d v1 W1 H1.out b Hb.out) 
  go_upto_region 3 with (go_at_call 9; refine tc.out.mono ?_; rintro _ V2 ⟨pb, cb, rfl, ku, bl⟩) 
  obtain ⟨tb, bb, zz⟩ := treeBox_new ku.out bl.out 
  clear tc ku bl zz
  generalize V2.alloc (.cells #[.int .i64 b.kind, .string b.text, .slice pb b.kids.length cb] 25) = W2 at *
  generalize V2.heap.size = B at *
  replace HT := Lib.hid (HT.out.stays bb)
  replace H0 := Lib.hid (H0.out.stays bb)
  replace H1 := Lib.hid (H1.out.stays bb)
  replace TA := Lib.hid (TA.out.stays bb)
  replace BW := Lib.hid (BW.out.trans (bb.mono BW.out.size))
  have TB := Lib.hid tb
  clear tb bb
  have pc := paths_told a _ W2 _ TA.out.kids (by have := OA.out.count; omega)
  unfold nodeV at pc
  obtain ⟨n0, n1, n2⟩ := TA.out.box.cells
  have PC := Lib.hid pc
  have hpl : (pathsN a).length ≤ 32 := by rw [paths_length]; exact OA.out.count
  have hp0 : 0 < (pathsN a).length := by rw [paths_length]; exact countN_pos a
  have z0 : (0 : Int) ≤ ((pathsN a).length : Int) := by omega
  have y1 : (((pathsN a).length : Int) == 0) = false := by rw [beq_eq_false_iff_ne]; omega
  clear pc
  go_upto_region 6 with (go_at_call 16; refine PC.out.mono ?_; rintro _ W3 ⟨v, rfl, hp, bb⟩; obtain ⟨g, cv, rfl⟩ := hp.shape; have HP := Lib.hid hp; have BB := Lib.hid bb; clear hp bb)
  replace HT := Lib.hid (HT.out.stays BB.out)
  replace H0 := Lib.hid (H0.out.stays BB.out)
  replace H1 := Lib.hid (H1.out.stays BB.out)
  replace TA := Lib.hid (TA.out.stays BB.out)
  replace TB := Lib.hid (TB.out.stays BB.out)
  replace BW := Lib.hid (BW.out.trans (BB.out.mono BW.out.size))
  clear PC BB n0 n1 n2 y1
  obtain ⟨r, hr, hrl⟩ : ∃ r : Nat, k % ((pathsN a).length : Int) = (r : Int) ∧ r < (pathsN a).length := by
    have e1 := Int.emod_nonneg k (b := ((pathsN a).length : Int)) (by omega)
    have e2 := Int.emod_lt_of_pos k (b := ((pathsN a).length : Int)) (by omega)
    exact ⟨(k % ((pathsN a).length : Int)).toNat, by omega, by omega⟩
  obtain ⟨s, hs, hsl⟩ : ∃ r : Nat, i % ((pathsN a).length : Int) = (r : Int) ∧ r < (pathsN a).length := by
    have e1 := Int.emod_nonneg i (b := ((pathsN a).length : Int)) (by omega)
    have e2 := Int.emod_lt_of_pos i (b := ((pathsN a).length : Int)) (by omega)
    exact ⟨(i % ((pathsN a).length : Int)).toNat, by omega, by omega⟩
  have hx := List.getElem?_eq_getElem hrl
  have hy := List.getElem?_eq_getElem hsl
  obtain ⟨q, qc, hcell, hints⟩ := HP.out.at hx
  obtain ⟨q', qc', hcell', hints'⟩ := HP.out.at hy
  obtain ⟨o, ho⟩ := paths_at a _ (List.getElem_mem hrl)
  obtain ⟨o', ho'⟩ := paths_at a _ (List.getElem_mem hsl)
  have hpr : (pathsN a)[r].length ≤ 32 := Nat.le_trans (path_len hx) OA.out.count
  have hps : (pathsN a)[s].length ≤ 32 := Nat.le_trans (path_len hy) OA.out.count
  generalize (pathsN a)[r] = P at *
  generalize (pathsN a)[s] = Q at *
  have HO := Lib.hid ho
  have HO' := Lib.hid ho'
  have IP := Lib.hid hints
  have IQ := Lib.hid hints'
  clear hx hy hints hints' ho ho' HP
  go_upto_region 8 with (fail)
  clear hcell hcell' hr hs hrl hsl hpl hp0 z0
  obtain ⟨m, hm⟩ : ∃ m, withN a (zs P) b = some m := by
    have := withN_some (zs P) a b
    rw [HO.out] at this
    exact Option.isSome_iff_exists.1 (by rw [this]; rfl)
  obtain ⟨hm1, hm2⟩ := with_at _ _ _ _ hm
  have hmc := hm2 o HO.out
  have cm32 : countN m ≤ 1000000000 := by have := OA.out.count; have := OB.out.count; omega
  have wc := with_calls a b _ _ _ _ W3 _ _ _ TA.out.kids TB.out.kids IP.out ca32 cb32
  rw [hm] at wc
  unfold nodeV at wc
  have WC := Lib.hid wc
  have HM := Lib.hid hm
  have HM1 := Lib.hid hm1
  have HMC := Lib.hid hmc
  clear wc hm hm1 hm2 hmc
  obtain ⟨n0, n1, n2⟩ := TA.out.box.cells
  obtain ⟨m0, m1, m2⟩ := TB.out.box.cells
  go_upto_region 9 with (go_at_call 19; refine WC.out.mono ?_; rintro _ V ⟨u, rfl, ku, bl⟩; obtain ⟨pm, cm, rfl, lu⟩ := ku.shape; simp only [nodeV, Option.getD, Option.isSome] at ku ⊢; have KU := Lib.hid ku; have BL := Lib.hid bl; clear ku bl)
  obtain ⟨tb, bb, -⟩ := treeBox_new KU.out BL.out
  generalize V.alloc (.cells #[.int .i64 m.kind, .string m.text, .slice pm m.kids.length cm] 25) = W4 at *
  generalize V.heap.size = M at *
  clear n0 n1 n2 m0 m1 m2 KU BL lu WC
  replace HT := Lib.hid (HT.out.stays bb)
  replace H0 := Lib.hid (H0.out.stays bb)
  replace H1 := Lib.hid (H1.out.stays bb)
  replace TA := Lib.hid (TA.out.stays bb)
  replace TB := Lib.hid (TB.out.stays bb)
  replace IP := Lib.hid (IP.out.stays bb)
  replace IQ := Lib.hid (IQ.out.stays bb)
  replace BW := Lib.hid (BW.out.trans (bb.mono BW.out.size))
  have TM := Lib.hid tb
  clear tb bb
  have ac := at_calls m _ _ _ W4 _ _ TM.out.kids IP.out cm32
  rw [HM1.out] at ac
  unfold nodeV at ac
  have AC := Lib.hid ac
  clear ac
  obtain ⟨n0, n1, n2⟩ := TM.out.box.cells
  go_upto_region 10 with (go_at_call 17; refine AC.out.mono ?_; rintro _ V ⟨u, rfl, ku, bl⟩; obtain ⟨py, cy, rfl, lu⟩ := ku.shape; simp only [nodeV, Option.getD, Option.isSome] at ku ⊢; have KU := Lib.hid ku; have BL := Lib.hid bl; clear ku bl)
  obtain ⟨tb, bb, -⟩ := treeBox_new KU.out BL.out
  generalize V.alloc (.cells #[.int .i64 b.kind, .string b.text, .slice py b.kids.length cy] 25) = W5 at *
  generalize V.heap.size = Y at *
  clear n0 n1 n2 KU BL lu AC
  replace HT := Lib.hid (HT.out.stays bb)
  replace H0 := Lib.hid (H0.out.stays bb)
  replace H1 := Lib.hid (H1.out.stays bb)
  replace TA := Lib.hid (TA.out.stays bb)
  replace TB := Lib.hid (TB.out.stays bb)
  replace IP := Lib.hid (IP.out.stays bb)
  replace IQ := Lib.hid (IQ.out.stays bb)
  replace TM := Lib.hid (TM.out.stays bb)
  replace BW := Lib.hid (BW.out.trans (bb.mono BW.out.size))
  have TY := Lib.hid tb
  clear tb bb
  have lP : (zs P).length = P.length := zs_length P
  have lQ : (zs Q).length = Q.length := zs_length Q
  have LP := Lib.hid lP
  have LQ := Lib.hid lQ
  have zP : (0 : Int) ≤ (P.length : Int) := by omega
  have zQ : (0 : Int) ≤ (Q.length : Int) := by omega
  clear lP lQ
  go_wp2
  go_loopw [18, 19] (fun ap z wr => ∃ j : Nat, j ≤ P.length ∧ j ≤ Q.length ∧ z = .int .i64 j ∧ ap = .bool (apartN ((zs P).take j) ((zs Q).take j)) ∧ Hid (Below W5.heap.size W5 wr)) (fun _ z _ => P.length - (intOf z).toNat)
  case atStart => exact ⟨0, Nat.zero_le _, Nat.zero_le _, rfl, by simp [apartN], Lib.hid (Below.refl _ _)⟩
  case round =>
    obtain ⟨j, hj, hj', rfl, rfl, HB⟩ := hrel
    by_cases hlt : j < P.length ∧ j < Q.length
    · obtain ⟨hlp, hlq⟩ := hlt
      have hzp : j < (zs P).length := by rw [LP.out]; exact hlp
      have hzq : j < (zs Q).length := by rw [LQ.out]; exact hlq
      have hx := List.getElem?_eq_getElem hzp
      have hy := List.getElem?_eq_getElem hzq
      have hst := apart_take hx hy
      obtain ⟨b1, o1, rfl, -, hc1⟩ := (IP.out.stays HB.out).at hx
      obtain ⟨b2, o2, rfl, -, hc2⟩ := (IQ.out.stays HB.out).at hy
      generalize (zs P)[j] = x at *
      generalize (zs Q)[j] = y at *
      have HST := Lib.hid hst
      have HDR := Lib.hid (fun k => HB.out.trans (c := wr.drewN k) ⟨rfl, rfl, rfl, Nat.le_refl _, fun _ _ => rfl⟩)
      clear hst hx hy hzp hzq
      generalize apartN ((zs P).take j) ((zs Q).take j) = ap at *
      cases ap with
      | true =>
        go_wp2
        go_quiet (fail)
        go_wp2
        go_roundw
        case rel => exact ⟨j + 1, by omega, by omega, by go_num, by rw [HST.out]; rfl, Lib.hid (HDR.out _)⟩
        case measure => simp [intOf]; omega
      | false =>
        by_cases hxy : x = y
        · subst hxy
          go_wp2
          go_quiet (fail)
          go_wp2
          go_roundw
          case rel => exact ⟨j + 1, by omega, by omega, by go_num, by rw [HST.out]; simp, Lib.hid (HDR.out _)⟩
          case measure => simp [intOf]; omega
        · have hne : (x != y) = true := by rw [bne_iff_ne]; exact hxy
          go_wp2
          go_quiet (fail)
          go_wp2
          go_roundw
          case rel => exact ⟨j + 1, by omega, by omega, by go_num, by rw [HST.out]; simp [hxy], Lib.hid (HDR.out _)⟩
          case measure => simp [intOf]; omega
    · have hap := apart_all (zs P) (zs Q) j (by rw [LP.out, LQ.out]; omega)
      rw [hap]
      obtain ⟨ap, hap2⟩ : ∃ ap, ap = apartN (zs P) (zs Q) := ⟨_, rfl⟩
      rw [← hap2]
      have HAP := Lib.hid hap2
      have bb := HB.out
      clear hap hap2 HB
      have hcs : j = P.length ∨ (j < P.length ∧ j = Q.length) := by omega
      clear hlt
      rcases hcs with rfl | ⟨hlt, rfl⟩
      all_goals
        replace HT := Lib.hid (HT.out.stays bb)
        replace H0 := Lib.hid (H0.out.stays bb)
        replace H1 := Lib.hid (H1.out.stays bb)
        replace TA := Lib.hid (TA.out.stays bb)
        replace TB := Lib.hid (TB.out.stays bb)
        replace IP := Lib.hid (IP.out.stays bb)
        replace IQ := Lib.hid (IQ.out.stays bb)
        replace TM := Lib.hid (TM.out.stays bb)
        replace TY := Lib.hid (TY.out.stays bb)
        replace BW := Lib.hid (BW.out.trans (bb.mono BW.out.size))
        clear bb
        go_upto_region 15 with (fail)
        have ac := at_calls a _ _ _ wr _ _ TA.out.kids IQ.out ca32
        rw [HO'.out] at ac
        unfold nodeV at ac
        have AC := Lib.hid ac
        clear ac
        obtain ⟨n0, n1, n2⟩ := TA.out.box.cells
        go_upto_region 16 with (go_at_call 17; refine AC.out.mono ?_; rintro _ V ⟨u, rfl, ku, bl⟩; obtain ⟨p1, c1, rfl, lu⟩ := ku.shape; simp only [nodeV, Option.getD, Option.isSome] at ku ⊢; have KU := Lib.hid ku; have BL := Lib.hid bl; clear ku bl)
        obtain ⟨tb, bb, -⟩ := treeBox_new KU.out BL.out
        generalize V.alloc (.cells #[.int .i64 o'.kind, .string o'.text, .slice p1 o'.kids.length c1] 25) = W6 at *
        generalize V.heap.size = X1 at *
        clear n0 n1 n2 KU BL lu AC
        replace HT := Lib.hid (HT.out.stays bb)
        replace H0 := Lib.hid (H0.out.stays bb)
        replace H1 := Lib.hid (H1.out.stays bb)
        replace TA := Lib.hid (TA.out.stays bb)
        replace TB := Lib.hid (TB.out.stays bb)
        replace IP := Lib.hid (IP.out.stays bb)
        replace IQ := Lib.hid (IQ.out.stays bb)
        replace TM := Lib.hid (TM.out.stays bb)
        replace TY := Lib.hid (TY.out.stays bb)
        replace BW := Lib.hid (BW.out.trans (bb.mono BW.out.size))
        have T1 := Lib.hid tb
        clear tb bb
        obtain ⟨R, f, hR, hf, hRf⟩ : ∃ R f, (atN m (zs Q)).getD zeroN = R ∧ (atN m (zs Q)).isSome = f ∧ (ap = true → R = o' ∧ f = true) := ⟨_, _, rfl, rfl, fun h => by
          have := with_apart _ _ _ _ _ HM.out (HAP.out.symm.trans h)
          rw [this, HO'.out]
          exact ⟨rfl, rfl⟩⟩
        have ac := at_calls m _ _ _ W6 _ _ TM.out.kids IQ.out cm32
        unfold AtPost nodeV at ac
        rw [hR, hf] at ac
        have AC := Lib.hid ac
        have HRF := Lib.hid hRf
        clear ac hR hf hRf
        obtain ⟨n0, n1, n2⟩ := TM.out.box.cells
        go_upto_region 17 with (go_at_call 17; refine AC.out.mono ?_; rintro _ V ⟨u, rfl, ku, bl⟩; obtain ⟨p2, c2, rfl, lu⟩ := ku.shape; have KU := Lib.hid ku; have BL := Lib.hid bl; clear ku bl)
        obtain ⟨tb, bb, -⟩ := treeBox_new KU.out BL.out
        generalize V.alloc (.cells #[.int .i64 R.kind, .string R.text, .slice p2 R.kids.length c2] 25) = W7 at *
        generalize V.heap.size = X2 at *
        clear n0 n1 n2 KU BL lu AC
        replace HT := Lib.hid (HT.out.stays bb)
        replace H0 := Lib.hid (H0.out.stays bb)
        replace H1 := Lib.hid (H1.out.stays bb)
        replace TA := Lib.hid (TA.out.stays bb)
        replace TB := Lib.hid (TB.out.stays bb)
        replace IP := Lib.hid (IP.out.stays bb)
        replace IQ := Lib.hid (IQ.out.stays bb)
        replace TM := Lib.hid (TM.out.stays bb)
        replace TY := Lib.hid (TY.out.stays bb)
        replace T1 := Lib.hid (T1.out.stays bb)
        replace BW := Lib.hid (BW.out.trans (bb.mono BW.out.size))
        have T2 := Lib.hid tb
        clear tb bb
        have ac := at_calls a _ _ _ W7 _ _ TA.out.kids IP.out ca32
        rw [HO.out] at ac
        unfold nodeV at ac
        have AC := Lib.hid ac
        clear ac
        obtain ⟨n0, n1, n2⟩ := TA.out.box.cells
        go_upto_region 18 with (go_at_call 17; refine AC.out.mono ?_; rintro _ V ⟨u, rfl, ku, bl⟩; obtain ⟨p3, c3, rfl, lu⟩ := ku.shape; simp only [nodeV, Option.getD, Option.isSome] at ku ⊢; have KU := Lib.hid ku; have BL := Lib.hid bl; clear ku bl)
        obtain ⟨tb, bb, -⟩ := treeBox_new KU.out BL.out
        generalize V.alloc (.cells #[.int .i64 o.kind, .string o.text, .slice p3 o.kids.length c3] 25) = W8 at *
        generalize V.heap.size = X3 at *
        clear n0 n1 n2 KU BL lu AC
        replace HT := Lib.hid (HT.out.stays bb)
        replace H0 := Lib.hid (H0.out.stays bb)
        replace H1 := Lib.hid (H1.out.stays bb)
        replace TA := Lib.hid (TA.out.stays bb)
        replace TB := Lib.hid (TB.out.stays bb)
        replace IP := Lib.hid (IP.out.stays bb)
        replace IQ := Lib.hid (IQ.out.stays bb)
        replace TM := Lib.hid (TM.out.stays bb)
        replace TY := Lib.hid (TY.out.stays bb)
        replace T1 := Lib.hid (T1.out.stays bb)
        replace T2 := Lib.hid (T2.out.stays bb)
        replace BW := Lib.hid (BW.out.trans (bb.mono BW.out.size))
        have T3 := Lib.hid tb
        clear tb bb
        obtain ⟨xa, hxa⟩ : ∃ x, x = countN a := ⟨_, rfl⟩
        obtain ⟨xb, hxb⟩ : ∃ x, x = countN b := ⟨_, rfl⟩
        obtain ⟨xo, hxo⟩ : ∃ x, x = countN o := ⟨_, rfl⟩
        obtain ⟨xm, hxm⟩ : ∃ x, x = countN m := ⟨_, rfl⟩
        have xal : xa ≤ 32 := by rw [hxa]; exact OA.out.count
        have xbl : xb ≤ 32 := by rw [hxb]; exact OB.out.count
        have hsum : xm + xo = xa + xb := by rw [hxm, hxo, hxa, hxb]; exact HMC.out
        have co32 : countN o ≤ 1000000000 := by rw [← hxo]; omega
        have w1 : IntKind.i64.wrap ((xa : Int) - (xo : Int)) = (xa : Int) - (xo : Int) := IntWalk.i64_in _ (by omega)
        have w2 : IntKind.i64.wrap ((xa : Int) - (xo : Int) + (xb : Int)) = (xa : Int) - (xo : Int) + (xb : Int) := IntWalk.i64_in _ (by omega)
        have em : (xm : Int) = (xa : Int) - (xo : Int) + (xb : Int) := by omega
        have q11 := fun U (h : Below W8.heap.size W8 U) => known_calls U (HT.out.stays h)
        have q12m : ∀ U (h : Below W8.heap.size W8 U), Calls Tryd.prog 12 #[.agg #[.int .i64 m.kind, .string m.text, .slice pm m.kids.length cm]] U fun e w' => e = .returned (.int .i64 ((xa : Int) - (xo : Int) + (xb : Int))) ∧ Below U.heap.size U w' := fun U h => by
          have := ncount_calls m _ U _ (TM.out.kids.stays h) cm32
          rwa [← hxm, em] at this
        have q12a : ∀ U (h : Below W8.heap.size W8 U), Calls Tryd.prog 12 #[.agg #[.int .i64 a.kind, .string a.text, .slice pa a.kids.length ca]] U fun e w' => e = .returned (.int .i64 (xa : Int)) ∧ Below U.heap.size U w' := fun U h => by
          have := ncount_calls a _ U _ (TA.out.kids.stays h) ca32
          rwa [← hxa] at this
        have q12o : ∀ U (h : Below W8.heap.size W8 U), Calls Tryd.prog 12 #[.agg #[.int .i64 o.kind, .string o.text, .slice p3 o.kids.length c3]] U fun e w' => e = .returned (.int .i64 (xo : Int)) ∧ Below U.heap.size U w' := fun U h => by
          have := ncount_calls o _ U _ (T3.out.kids.stays h) co32
          rwa [← hxo] at this
        have q12b : ∀ U (h : Below W8.heap.size W8 U), Calls Tryd.prog 12 #[.agg #[.int .i64 b.kind, .string b.text, .slice pb b.kids.length cb]] U fun e w' => e = .returned (.int .i64 (xb : Int)) ∧ Below U.heap.size U w' := fun U h => by
          have := ncount_calls b _ U _ (TB.out.kids.stays h) cb32
          rwa [← hxb] at this
        have q20y : ∀ U (h : Below W8.heap.size W8 U), Calls Tryd.prog 20 #[.agg #[.int .i64 b.kind, .string b.text, .slice py b.kids.length cy], .agg #[.int .i64 b.kind, .string b.text, .slice pb b.kids.length cb]] U fun e w' => e = .returned (.bool true) ∧ Below U.heap.size U w' := fun U h => by
          have := nsame_ok b b _ _ U _ _ (TY.out.kids.stays h) (TB.out.kids.stays h)
          rwa [(eqN_iff _ _).2 rfl] at this
        have q9 := fun U (h : Below W8.heap.size W8 U) => tree_told c v0 U (H0.out.stays h) a Ha.out
        have q20 : ∀ U p cu (_ : Below W8.heap.size W8 U) (_ : ∃ S, KidsAt U S (.slice p a.kids.length cu) a.kids), Calls Tryd.prog 20 #[.agg #[.int .i64 a.kind, .string a.text, .slice pa a.kids.length ca], .agg #[.int .i64 a.kind, .string a.text, .slice p a.kids.length cu]] U fun e w' => e = .returned (.bool true) ∧ Below U.heap.size U w' := fun U p cu h ⟨S, hk⟩ => by
          have := nsame_ok a a _ _ U _ _ (TA.out.kids.stays h) hk
          rwa [(eqN_iff _ _).2 rfl] at this
        have show1 : ∀ U, Below W8.heap.size W8 U → (U.cell? ⟨A, 0, none⟩ = some (.int .i64 a.kind) ∧ U.cell? ⟨A, 1, none⟩ = some (.string a.text) ∧ U.cell? ⟨A, 2, none⟩ = some (.slice pa a.kids.length ca)) ∧ (U.cell? ⟨B, 0, none⟩ = some (.int .i64 b.kind) ∧ U.cell? ⟨B, 1, none⟩ = some (.string b.text) ∧ U.cell? ⟨B, 2, none⟩ = some (.slice pb b.kids.length cb)) ∧ (U.cell? ⟨M, 0, none⟩ = some (.int .i64 m.kind) ∧ U.cell? ⟨M, 1, none⟩ = some (.string m.text) ∧ U.cell? ⟨M, 2, none⟩ = some (.slice pm m.kids.length cm)) ∧ (U.cell? ⟨Y, 0, none⟩ = some (.int .i64 b.kind) ∧ U.cell? ⟨Y, 1, none⟩ = some (.string b.text) ∧ U.cell? ⟨Y, 2, none⟩ = some (.slice py b.kids.length cy)) ∧ (U.cell? ⟨X1, 0, none⟩ = some (.int .i64 o'.kind) ∧ U.cell? ⟨X1, 1, none⟩ = some (.string o'.text) ∧ U.cell? ⟨X1, 2, none⟩ = some (.slice p1 o'.kids.length c1)) ∧ (U.cell? ⟨X2, 0, none⟩ = some (.int .i64 R.kind) ∧ U.cell? ⟨X2, 1, none⟩ = some (.string R.text) ∧ U.cell? ⟨X2, 2, none⟩ = some (.slice p2 R.kids.length c2)) ∧ (U.cell? ⟨X3, 0, none⟩ = some (.int .i64 o.kind) ∧ U.cell? ⟨X3, 1, none⟩ = some (.string o.text) ∧ U.cell? ⟨X3, 2, none⟩ = some (.slice p3 o.kids.length c3)) ∧ Below W8.heap.size W8 U := fun U h => ⟨(TA.out.box.stays h).cells, (TB.out.box.stays h).cells, (TM.out.box.stays h).cells, (TY.out.box.stays h).cells, (T1.out.box.stays h).cells, (T2.out.box.stays h).cells, (T3.out.box.stays h).cells, h⟩
        have SHOW := Lib.hid show1
        have HBel := Lib.hid (Below.refl W8.heap.size W8)
        have Q11 := Lib.hid q11
        have Q12m := Lib.hid q12m
        have Q12a := Lib.hid q12a
        have Q12o := Lib.hid q12o
        have Q12b := Lib.hid q12b
        have Q20y := Lib.hid q20y
        have Q9 := Lib.hid q9
        have Q20 := Lib.hid q20
        clear show1 q11 q12m q12a q12o q12b q20y q9 q20 hxa hxb hxo hxm hsum em co32 xal xbl
        cases ap with
        | false =>
          clear HRF HT H0 H1 TA TB IP IQ TM TY T1 T2 T3 HO HO' HM HM1 HMC HAP OA OB Ha Hb
          go_wp2
          refine wp_region_held_drew (S := (fun w' => (w'.cell? ⟨A, 0, none⟩ = some (.int .i64 a.kind) ∧ w'.cell? ⟨A, 1, none⟩ = some (.string a.text) ∧ w'.cell? ⟨A, 2, none⟩ = some (.slice pa a.kids.length ca)) ∧ (w'.cell? ⟨B, 0, none⟩ = some (.int .i64 b.kind) ∧ w'.cell? ⟨B, 1, none⟩ = some (.string b.text) ∧ w'.cell? ⟨B, 2, none⟩ = some (.slice pb b.kids.length cb)) ∧ (w'.cell? ⟨M, 0, none⟩ = some (.int .i64 m.kind) ∧ w'.cell? ⟨M, 1, none⟩ = some (.string m.text) ∧ w'.cell? ⟨M, 2, none⟩ = some (.slice pm m.kids.length cm)) ∧ (w'.cell? ⟨Y, 0, none⟩ = some (.int .i64 b.kind) ∧ w'.cell? ⟨Y, 1, none⟩ = some (.string b.text) ∧ w'.cell? ⟨Y, 2, none⟩ = some (.slice py b.kids.length cy)) ∧ (w'.cell? ⟨X1, 0, none⟩ = some (.int .i64 o'.kind) ∧ w'.cell? ⟨X1, 1, none⟩ = some (.string o'.text) ∧ w'.cell? ⟨X1, 2, none⟩ = some (.slice p1 o'.kids.length c1)) ∧ (w'.cell? ⟨X2, 0, none⟩ = some (.int .i64 R.kind) ∧ w'.cell? ⟨X2, 1, none⟩ = some (.string R.text) ∧ w'.cell? ⟨X2, 2, none⟩ = some (.slice p2 R.kids.length c2)) ∧ (w'.cell? ⟨X3, 0, none⟩ = some (.int .i64 o.kind) ∧ w'.cell? ⟨X3, 1, none⟩ = some (.string o.text) ∧ w'.cell? ⟨X3, 2, none⟩ = some (.slice p3 o.kids.length c3)) ∧ Below W8.heap.size W8 w')) (by kernel_rfl) (SHOW.out _ HBel.out.drew) (fun hHeld => ?_)
          refine wpAnyH_ready (rs := [0]) (by kernel_rfl) (by simp) ?_ 
          refine AllReadyH.cons rfl (fun K hK => ?_) AllReadyH.nil 
          go_simp 
          (first 
            | (go_at_call 11; with_reducible refine (Q11.out _ (And.right (And.right (And.right (And.right (And.right (And.right (And.right (by assumption))))))))).mono ?_; rintro _ U ⟨rfl, bu⟩; have bb := Below.trans (And.right (And.right (And.right (And.right (And.right (And.right (And.right (by assumption)))))))) (bu.mono (Below.size (And.right (And.right (And.right (And.right (And.right (And.right (And.right (by assumption)))))))))); clear bu) 
            | (go_at_call 20; with_reducible refine (Q20y.out _ (And.right (And.right (And.right (And.right (And.right (And.right (And.right (by assumption))))))))).mono ?_; rintro _ U ⟨rfl, bu⟩; have bb := Below.trans (And.right (And.right (And.right (And.right (And.right (And.right (And.right (by assumption)))))))) (bu.mono (Below.size (And.right (And.right (And.right (And.right (And.right (And.right (And.right (by assumption)))))))))); clear bu) 
            | (go_at_call 12; with_reducible refine (Q12m.out _ (And.right (And.right (And.right (And.right (And.right (And.right (And.right (by assumption))))))))).mono ?_; rintro _ U ⟨rfl, bu⟩; have bb := Below.trans (And.right (And.right (And.right (And.right (And.right (And.right (And.right (by assumption)))))))) (bu.mono (Below.size (And.right (And.right (And.right (And.right (And.right (And.right (And.right (by assumption)))))))))); clear bu) 
            | (go_at_call 12; with_reducible refine (Q12a.out _ (And.right (And.right (And.right (And.right (And.right (And.right (And.right (by assumption))))))))).mono ?_; rintro _ U ⟨rfl, bu⟩; have bb := Below.trans (And.right (And.right (And.right (And.right (And.right (And.right (And.right (by assumption)))))))) (bu.mono (Below.size (And.right (And.right (And.right (And.right (And.right (And.right (And.right (by assumption)))))))))); clear bu) 
            | (go_at_call 12; with_reducible refine (Q12o.out _ (And.right (And.right (And.right (And.right (And.right (And.right (And.right (by assumption))))))))).mono ?_; rintro _ U ⟨rfl, bu⟩; have bb := Below.trans (And.right (And.right (And.right (And.right (And.right (And.right (And.right (by assumption)))))))) (bu.mono (Below.size (And.right (And.right (And.right (And.right (And.right (And.right (And.right (by assumption)))))))))); clear bu) 
            | (go_at_call 12; with_reducible refine (Q12b.out _ (And.right (And.right (And.right (And.right (And.right (And.right (And.right (by assumption))))))))).mono ?_; rintro _ U ⟨rfl, bu⟩; have bb := Below.trans (And.right (And.right (And.right (And.right (And.right (And.right (And.right (by assumption)))))))) (bu.mono (Below.size (And.right (And.right (And.right (And.right (And.right (And.right (And.right (by assumption)))))))))); clear bu) 
            | (go_at_call 9; with_reducible refine (Q9.out _ (And.right (And.right (And.right (And.right (And.right (And.right (And.right (by assumption))))))))).mono ?_; rintro _ U ⟨p, cu, rfl, ku, bu⟩; have bb := Below.trans (And.right (And.right (And.right (And.right (And.right (And.right (And.right (by assumption)))))))) (bu.out.mono (Below.size (And.right (And.right (And.right (And.right (And.right (And.right (And.right (by assumption)))))))))); clear bu; have kx : ∃ S, KidsAt U S (.slice p a.kids.length cu) a.kids := ⟨_, ku.out⟩; clear ku) 
            | (go_at_call 20; with_reducible refine (Q20.out _ _ _ (And.right (And.right (And.right (And.right (And.right (And.right (And.right (by assumption)))))))) (by assumption)).mono ?_; rintro _ U ⟨rfl, bu⟩; have bb := Below.trans (And.right (And.right (And.right (And.right (And.right (And.right (And.right (by assumption)))))))) (bu.mono (Below.size (And.right (And.right (And.right (And.right (And.right (And.right (And.right (by assumption)))))))))); clear bu)) 
          try dsimp only 
          refine hK.out _ _ (by first | assumption | (refine SHOW.out _ ?_; assumption)) (fun hHeld => ?_) 
          clear hK K 
          (try simp only [Act.put, List.setIfInBounds_toArray, List.set_cons_zero, List.set_cons_succ])
          refine wpAnyH_take (i := 1) (v := ?_) (by simp only [List.getElem?_toArray, List.getElem?_cons_succ, List.getElem?_cons_zero]; exact rfl) (by kernel_rfl) (by kernel_rfl) (by kernel_rfl) (by intro _ _ _ h; exact h) (Or.inl ⟨by rfl, ?_⟩) (by assumption) ?_ 
          rotate_left 1 
          · (intro w hSw; (try dsimp only at hSw); go_simp; try with_reducible rfl) 
          (try simp only [Act.put, List.setIfInBounds_toArray, List.set_cons_zero, List.set_cons_succ])
          refine wpAnyH_take (i := 2) (v := ?_) (by simp only [List.getElem?_toArray, List.getElem?_cons_succ, List.getElem?_cons_zero]; exact rfl) (by kernel_rfl) (by kernel_rfl) (by kernel_rfl) (by intro _ _ _ h; exact h) (Or.inl ⟨by rfl, ?_⟩) (by assumption) ?_ 
          rotate_left 1 
          · (intro w hSw; (try dsimp only at hSw); go_simp; try with_reducible rfl) 
          (try simp only [Act.put, List.setIfInBounds_toArray, List.set_cons_zero, List.set_cons_succ])
          refine wpAnyH_take (i := 3) (v := ?_) (by simp only [List.getElem?_toArray, List.getElem?_cons_succ, List.getElem?_cons_zero]; exact rfl) (by kernel_rfl) (by kernel_rfl) (by kernel_rfl) (by intro _ _ _ h; exact h) (Or.inl ⟨by rfl, ?_⟩) (by assumption) ?_ 
          rotate_left 1 
          · (intro w hSw; (try dsimp only at hSw); go_simp; try with_reducible rfl) 
          (try simp only [Act.put, List.setIfInBounds_toArray, List.set_cons_zero, List.set_cons_succ])
          refine wpAnyH_take (i := 4) (v := ?_) (by simp only [List.getElem?_toArray, List.getElem?_cons_succ, List.getElem?_cons_zero]; exact rfl) (by kernel_rfl) (by kernel_rfl) (by kernel_rfl) (by intro _ _ _ h; exact h) (Or.inl ⟨by rfl, ?_⟩) (by assumption) ?_ 
          rotate_left 1 
          · (intro w hSw; (try dsimp only at hSw); go_simp; try with_reducible rfl) 
          (try simp only [Act.put, List.setIfInBounds_toArray, List.set_cons_zero, List.set_cons_succ])
          refine wpAnyH_take (i := 5) (v := ?_) (by simp only [List.getElem?_toArray, List.getElem?_cons_succ, List.getElem?_cons_zero]; exact rfl) (by kernel_rfl) (by kernel_rfl) (by kernel_rfl) (by intro _ _ _ h; exact h) (Or.inl ⟨by rfl, ?_⟩) (by assumption) ?_ 
          rotate_left 1 
          · (intro w hSw; (try dsimp only at hSw); go_simp; try with_reducible rfl) 
          (try simp only [Act.put, List.setIfInBounds_toArray, List.set_cons_zero, List.set_cons_succ])
          refine wpAnyH_take (i := 6) (v := ?_) (by simp only [List.getElem?_toArray, List.getElem?_cons_succ, List.getElem?_cons_zero]; exact rfl) (by kernel_rfl) (by kernel_rfl) (by kernel_rfl) (by intro _ _ _ h; exact h) (Or.inl ⟨by rfl, ?_⟩) (by assumption) ?_ 
          rotate_left 1 
          · (intro w hSw; (try dsimp only at hSw); go_simp; try with_reducible rfl) 
          (try simp only [Act.put, List.setIfInBounds_toArray, List.set_cons_zero, List.set_cons_succ])
          refine wpAnyH_take (i := 7) (v := ?_) (by simp only [List.getElem?_toArray, List.getElem?_cons_succ, List.getElem?_cons_zero]; exact rfl) (by kernel_rfl) (by kernel_rfl) (by kernel_rfl) (by intro _ _ _ h; exact h) (Or.inl ⟨by rfl, ?_⟩) (by assumption) ?_ 
          rotate_left 1 
          · (intro w hSw; (try dsimp only at hSw); go_simp; try with_reducible rfl) 
          (try simp only [Act.put, List.setIfInBounds_toArray, List.set_cons_zero, List.set_cons_succ])
          refine wpAnyH_take (i := 8) (v := ?_) (by simp only [List.getElem?_toArray, List.getElem?_cons_succ, List.getElem?_cons_zero]; exact rfl) (by kernel_rfl) (by kernel_rfl) (by kernel_rfl) (by intro _ _ _ h; exact h) (Or.inl ⟨by rfl, ?_⟩) (by assumption) ?_ 
          rotate_left 1 
          · (intro w hSw; (try dsimp only at hSw); go_simp; try with_reducible rfl) 
          (try simp only [Act.put, List.setIfInBounds_toArray, List.set_cons_zero, List.set_cons_succ])
          refine wpAnyH_take (i := 9) (v := ?_) (by simp only [List.getElem?_toArray, List.getElem?_cons_succ, List.getElem?_cons_zero]; exact rfl) (by kernel_rfl) (by kernel_rfl) (by kernel_rfl) (by intro _ _ _ h; exact h) (Or.inl ⟨by rfl, ?_⟩) (by assumption) ?_ 
          rotate_left 1 
          · (intro w hSw; (try dsimp only at hSw); go_simp; try with_reducible rfl) 
          (try simp only [Act.put, List.setIfInBounds_toArray, List.set_cons_zero, List.set_cons_succ])
          refine wpAnyH_ready (rs := [10]) (by kernel_rfl) (by simp) ?_ 
          refine AllReadyH.cons rfl (fun K hK => ?_) AllReadyH.nil 
          go_simp 
          (first 
            | (go_at_call 11; with_reducible refine (Q11.out _ (And.right (And.right (And.right (And.right (And.right (And.right (And.right (by assumption))))))))).mono ?_; rintro _ U ⟨rfl, bu⟩; have bb := Below.trans (And.right (And.right (And.right (And.right (And.right (And.right (And.right (by assumption)))))))) (bu.mono (Below.size (And.right (And.right (And.right (And.right (And.right (And.right (And.right (by assumption)))))))))); clear bu) 
            | (go_at_call 20; with_reducible refine (Q20y.out _ (And.right (And.right (And.right (And.right (And.right (And.right (And.right (by assumption))))))))).mono ?_; rintro _ U ⟨rfl, bu⟩; have bb := Below.trans (And.right (And.right (And.right (And.right (And.right (And.right (And.right (by assumption)))))))) (bu.mono (Below.size (And.right (And.right (And.right (And.right (And.right (And.right (And.right (by assumption)))))))))); clear bu) 
            | (go_at_call 12; with_reducible refine (Q12m.out _ (And.right (And.right (And.right (And.right (And.right (And.right (And.right (by assumption))))))))).mono ?_; rintro _ U ⟨rfl, bu⟩; have bb := Below.trans (And.right (And.right (And.right (And.right (And.right (And.right (And.right (by assumption)))))))) (bu.mono (Below.size (And.right (And.right (And.right (And.right (And.right (And.right (And.right (by assumption)))))))))); clear bu) 
            | (go_at_call 12; with_reducible refine (Q12a.out _ (And.right (And.right (And.right (And.right (And.right (And.right (And.right (by assumption))))))))).mono ?_; rintro _ U ⟨rfl, bu⟩; have bb := Below.trans (And.right (And.right (And.right (And.right (And.right (And.right (And.right (by assumption)))))))) (bu.mono (Below.size (And.right (And.right (And.right (And.right (And.right (And.right (And.right (by assumption)))))))))); clear bu) 
            | (go_at_call 12; with_reducible refine (Q12o.out _ (And.right (And.right (And.right (And.right (And.right (And.right (And.right (by assumption))))))))).mono ?_; rintro _ U ⟨rfl, bu⟩; have bb := Below.trans (And.right (And.right (And.right (And.right (And.right (And.right (And.right (by assumption)))))))) (bu.mono (Below.size (And.right (And.right (And.right (And.right (And.right (And.right (And.right (by assumption)))))))))); clear bu) 
            | (go_at_call 12; with_reducible refine (Q12b.out _ (And.right (And.right (And.right (And.right (And.right (And.right (And.right (by assumption))))))))).mono ?_; rintro _ U ⟨rfl, bu⟩; have bb := Below.trans (And.right (And.right (And.right (And.right (And.right (And.right (And.right (by assumption)))))))) (bu.mono (Below.size (And.right (And.right (And.right (And.right (And.right (And.right (And.right (by assumption)))))))))); clear bu) 
            | (go_at_call 9; with_reducible refine (Q9.out _ (And.right (And.right (And.right (And.right (And.right (And.right (And.right (by assumption))))))))).mono ?_; rintro _ U ⟨p, cu, rfl, ku, bu⟩; have bb := Below.trans (And.right (And.right (And.right (And.right (And.right (And.right (And.right (by assumption)))))))) (bu.out.mono (Below.size (And.right (And.right (And.right (And.right (And.right (And.right (And.right (by assumption)))))))))); clear bu; have kx : ∃ S, KidsAt U S (.slice p a.kids.length cu) a.kids := ⟨_, ku.out⟩; clear ku) 
            | (go_at_call 20; with_reducible refine (Q20.out _ _ _ (And.right (And.right (And.right (And.right (And.right (And.right (And.right (by assumption)))))))) (by assumption)).mono ?_; rintro _ U ⟨rfl, bu⟩; have bb := Below.trans (And.right (And.right (And.right (And.right (And.right (And.right (And.right (by assumption)))))))) (bu.mono (Below.size (And.right (And.right (And.right (And.right (And.right (And.right (And.right (by assumption)))))))))); clear bu)) 
          try dsimp only 
          refine hK.out _ _ (by first | assumption | (refine SHOW.out _ ?_; assumption)) (fun hHeld => ?_) 
          clear hK K 
          (try simp only [Act.put, List.setIfInBounds_toArray, List.set_cons_zero, List.set_cons_succ])
          refine wpAnyH_take (i := 11) (v := ?_) (by simp only [List.getElem?_toArray, List.getElem?_cons_succ, List.getElem?_cons_zero]; exact rfl) (by kernel_rfl) (by kernel_rfl) (by kernel_rfl) (by intro _ _ _ h; exact h) (Or.inl ⟨by rfl, ?_⟩) (by assumption) ?_ 
          rotate_left 1 
          · (intro w hSw; (try dsimp only at hSw); go_simp; try with_reducible rfl) 
          (try simp only [Act.put, List.setIfInBounds_toArray, List.set_cons_zero, List.set_cons_succ])
          refine wpAnyH_take (i := 12) (v := ?_) (by simp only [List.getElem?_toArray, List.getElem?_cons_succ, List.getElem?_cons_zero]; exact rfl) (by kernel_rfl) (by kernel_rfl) (by kernel_rfl) (by intro _ _ _ h; exact h) (Or.inl ⟨by rfl, ?_⟩) (by assumption) ?_ 
          rotate_left 1 
          · (intro w hSw; (try dsimp only at hSw); go_simp; try with_reducible rfl) 
          (try simp only [Act.put, List.setIfInBounds_toArray, List.set_cons_zero, List.set_cons_succ])
          refine wpAnyH_take (i := 13) (v := ?_) (by simp only [List.getElem?_toArray, List.getElem?_cons_succ, List.getElem?_cons_zero]; exact rfl) (by kernel_rfl) (by kernel_rfl) (by kernel_rfl) (by intro _ _ _ h; exact h) (Or.inl ⟨by rfl, ?_⟩) (by assumption) ?_ 
          rotate_left 1 
          · (intro w hSw; (try dsimp only at hSw); go_simp; try with_reducible rfl) 
          (try simp only [Act.put, List.setIfInBounds_toArray, List.set_cons_zero, List.set_cons_succ])
          refine wpAnyH_take (i := 14) (v := ?_) (by simp only [List.getElem?_toArray, List.getElem?_cons_succ, List.getElem?_cons_zero]; exact rfl) (by kernel_rfl) (by kernel_rfl) (by kernel_rfl) (by intro _ _ _ h; exact h) (Or.inl ⟨by rfl, ?_⟩) (by assumption) ?_ 
          rotate_left 1 
          · (intro w hSw; (try dsimp only at hSw); go_simp; try with_reducible rfl) 
          (try simp only [Act.put, List.setIfInBounds_toArray, List.set_cons_zero, List.set_cons_succ])
          refine wpAnyH_take (i := 15) (v := ?_) (by simp only [List.getElem?_toArray, List.getElem?_cons_succ, List.getElem?_cons_zero]; exact rfl) (by kernel_rfl) (by kernel_rfl) (by kernel_rfl) (by intro _ _ _ h; exact h) (Or.inl ⟨by rfl, ?_⟩) (by assumption) ?_ 
          rotate_left 1 
          · (intro w hSw; (try dsimp only at hSw); go_simp; try with_reducible rfl) 
          (try simp only [Act.put, List.setIfInBounds_toArray, List.set_cons_zero, List.set_cons_succ])
          refine wpAnyH_take (i := 16) (v := ?_) (by simp only [List.getElem?_toArray, List.getElem?_cons_succ, List.getElem?_cons_zero]; exact rfl) (by kernel_rfl) (by kernel_rfl) (by kernel_rfl) (by intro _ _ _ h; exact h) (Or.inl ⟨by rfl, ?_⟩) (by assumption) ?_ 
          rotate_left 1 
          · (intro w hSw; (try dsimp only at hSw); go_simp; try with_reducible rfl) 
          (try simp only [Act.put, List.setIfInBounds_toArray, List.set_cons_zero, List.set_cons_succ])
          refine wpAnyH_take (i := 17) (v := ?_) (by simp only [List.getElem?_toArray, List.getElem?_cons_succ, List.getElem?_cons_zero]; exact rfl) (by kernel_rfl) (by kernel_rfl) (by kernel_rfl) (by intro _ _ _ h; exact h) (Or.inl ⟨by rfl, ?_⟩) (by assumption) ?_ 
          rotate_left 1 
          · (intro w hSw; (try dsimp only at hSw); go_simp; try with_reducible rfl) 
          (try simp only [Act.put, List.setIfInBounds_toArray, List.set_cons_zero, List.set_cons_succ])
          refine wpAnyH_take (i := 18) (v := ?_) (by simp only [List.getElem?_toArray, List.getElem?_cons_succ, List.getElem?_cons_zero]; exact rfl) (by kernel_rfl) (by kernel_rfl) (by kernel_rfl) (by intro _ _ _ h; exact h) (Or.inl ⟨by rfl, ?_⟩) (by assumption) ?_ 
          rotate_left 1 
          · (intro w hSw; (try dsimp only at hSw); go_simp; try with_reducible rfl) 
          (try simp only [Act.put, List.setIfInBounds_toArray, List.set_cons_zero, List.set_cons_succ])
          refine wpAnyH_take (i := 19) (v := undef) (by simp only [List.getElem?_toArray, List.getElem?_cons_succ, List.getElem?_cons_zero]; exact rfl) (by kernel_rfl) (by kernel_rfl) (by kernel_rfl) (by intro _ _ _ h; exact h) (Or.inr ⟨by rfl, rfl⟩) (by assumption) ?_ 
          (try simp only [Act.put, List.setIfInBounds_toArray, List.set_cons_zero, List.set_cons_succ])
          refine wpAnyH_take (i := 20) (v := undef) (by simp only [List.getElem?_toArray, List.getElem?_cons_succ, List.getElem?_cons_zero]; exact rfl) (by kernel_rfl) (by kernel_rfl) (by kernel_rfl) (by intro _ _ _ h; exact h) (Or.inr ⟨by rfl, rfl⟩) (by assumption) ?_ 
          (try simp only [Act.put, List.setIfInBounds_toArray, List.set_cons_zero, List.set_cons_succ])
          refine wpAnyH_take (i := 21) (v := undef) (by simp only [List.getElem?_toArray, List.getElem?_cons_succ, List.getElem?_cons_zero]; exact rfl) (by kernel_rfl) (by kernel_rfl) (by kernel_rfl) (by intro _ _ _ h; exact h) (Or.inr ⟨by rfl, rfl⟩) (by assumption) ?_ 
          (try simp only [Act.put, List.setIfInBounds_toArray, List.set_cons_zero, List.set_cons_succ])
          refine wpAnyH_take (i := 22) (v := undef) (by simp only [List.getElem?_toArray, List.getElem?_cons_succ, List.getElem?_cons_zero]; exact rfl) (by kernel_rfl) (by kernel_rfl) (by kernel_rfl) (by intro _ _ _ h; exact h) (Or.inr ⟨by rfl, rfl⟩) (by assumption) ?_ 
          (try simp only [Act.put, List.setIfInBounds_toArray, List.set_cons_zero, List.set_cons_succ])
          refine wpAnyH_take (i := 23) (v := undef) (by simp only [List.getElem?_toArray, List.getElem?_cons_succ, List.getElem?_cons_zero]; exact rfl) (by kernel_rfl) (by kernel_rfl) (by kernel_rfl) (by intro _ _ _ h; exact h) (Or.inr ⟨by rfl, rfl⟩) (by assumption) ?_ 
          (try simp only [Act.put, List.setIfInBounds_toArray, List.set_cons_zero, List.set_cons_succ])
          refine wpAnyH_take (i := 24) (v := undef) (by simp only [List.getElem?_toArray, List.getElem?_cons_succ, List.getElem?_cons_zero]; exact rfl) (by kernel_rfl) (by kernel_rfl) (by kernel_rfl) (by intro _ _ _ h; exact h) (Or.inr ⟨by rfl, rfl⟩) (by assumption) ?_ 
          (try simp only [Act.put, List.setIfInBounds_toArray, List.set_cons_zero, List.set_cons_succ])
          refine wpAnyH_take (i := 25) (v := ?_) (by simp only [List.getElem?_toArray, List.getElem?_cons_succ, List.getElem?_cons_zero]; exact rfl) (by kernel_rfl) (by kernel_rfl) (by kernel_rfl) (by intro _ _ _ h; exact h) (Or.inl ⟨by rfl, ?_⟩) (by assumption) ?_ 
          rotate_left 1 
          · (intro w hSw; (try dsimp only at hSw); go_simp; try with_reducible rfl) 
          (try simp only [Act.put, List.setIfInBounds_toArray, List.set_cons_zero, List.set_cons_succ])
          refine wpAnyH_take (i := 26) (v := ?_) (by simp only [List.getElem?_toArray, List.getElem?_cons_succ, List.getElem?_cons_zero]; exact rfl) (by kernel_rfl) (by kernel_rfl) (by kernel_rfl) (by intro _ _ _ h; exact h) (Or.inl ⟨by rfl, ?_⟩) (by assumption) ?_ 
          rotate_left 1 
          · (intro w hSw; (try dsimp only at hSw); go_simp; try with_reducible rfl) 
          (try simp only [Act.put, List.setIfInBounds_toArray, List.set_cons_zero, List.set_cons_succ])
          refine wpAnyH_take (i := 27) (v := ?_) (by simp only [List.getElem?_toArray, List.getElem?_cons_succ, List.getElem?_cons_zero]; exact rfl) (by kernel_rfl) (by kernel_rfl) (by kernel_rfl) (by intro _ _ _ h; exact h) (Or.inl ⟨by rfl, ?_⟩) (by assumption) ?_ 
          rotate_left 1 
          · (intro w hSw; (try dsimp only at hSw); go_simp; try with_reducible rfl) 
          (try simp only [Act.put, List.setIfInBounds_toArray, List.set_cons_zero, List.set_cons_succ])
          refine wpAnyH_take (i := 28) (v := ?_) (by simp only [List.getElem?_toArray, List.getElem?_cons_succ, List.getElem?_cons_zero]; exact rfl) (by kernel_rfl) (by kernel_rfl) (by kernel_rfl) (by intro _ _ _ h; exact h) (Or.inl ⟨by rfl, ?_⟩) (by assumption) ?_ 
          rotate_left 1 
          · (intro w hSw; (try dsimp only at hSw); go_simp; try with_reducible rfl) 
          (try simp only [Act.put, List.setIfInBounds_toArray, List.set_cons_zero, List.set_cons_succ])
          refine wpAnyH_take (i := 30) (v := ?_) (by simp only [List.getElem?_toArray, List.getElem?_cons_succ, List.getElem?_cons_zero]; exact rfl) (by kernel_rfl) (by kernel_rfl) (by kernel_rfl) (by intro _ _ _ h; exact h) (Or.inl ⟨by rfl, ?_⟩) (by assumption) ?_ 
          rotate_left 1 
          · (intro w hSw; (try dsimp only at hSw); go_simp; try with_reducible rfl) 
          (try simp only [Act.put, List.setIfInBounds_toArray, List.set_cons_zero, List.set_cons_succ])
          refine wpAnyH_take (i := 32) (v := ?_) (by simp only [List.getElem?_toArray, List.getElem?_cons_succ, List.getElem?_cons_zero]; exact rfl) (by kernel_rfl) (by kernel_rfl) (by kernel_rfl) (by intro _ _ _ h; exact h) (Or.inl ⟨by rfl, ?_⟩) (by assumption) ?_ 
          rotate_left 1 
          · (intro w hSw; (try dsimp only at hSw); go_simp; try with_reducible rfl) 
          (try simp only [Act.put, List.setIfInBounds_toArray, List.set_cons_zero, List.set_cons_succ])
          refine wpAnyH_take (i := 35) (v := ?_) (by simp only [List.getElem?_toArray, List.getElem?_cons_succ, List.getElem?_cons_zero]; exact rfl) (by kernel_rfl) (by kernel_rfl) (by kernel_rfl) (by intro _ _ _ h; exact h) (Or.inl ⟨by rfl, ?_⟩) (by assumption) ?_ 
          rotate_left 1 
          · (intro w hSw; (try dsimp only at hSw); go_simp; try with_reducible rfl) 
          (try simp only [Act.put, List.setIfInBounds_toArray, List.set_cons_zero, List.set_cons_succ])
          refine wpAnyH_ready (rs := [29]) (by kernel_rfl) (by simp) ?_ 
          refine AllReadyH.cons rfl (fun K hK => ?_) AllReadyH.nil 
          go_simp 
          (first 
            | (go_at_call 11; with_reducible refine (Q11.out _ (And.right (And.right (And.right (And.right (And.right (And.right (And.right (by assumption))))))))).mono ?_; rintro _ U ⟨rfl, bu⟩; have bb := Below.trans (And.right (And.right (And.right (And.right (And.right (And.right (And.right (by assumption)))))))) (bu.mono (Below.size (And.right (And.right (And.right (And.right (And.right (And.right (And.right (by assumption)))))))))); clear bu) 
            | (go_at_call 20; with_reducible refine (Q20y.out _ (And.right (And.right (And.right (And.right (And.right (And.right (And.right (by assumption))))))))).mono ?_; rintro _ U ⟨rfl, bu⟩; have bb := Below.trans (And.right (And.right (And.right (And.right (And.right (And.right (And.right (by assumption)))))))) (bu.mono (Below.size (And.right (And.right (And.right (And.right (And.right (And.right (And.right (by assumption)))))))))); clear bu) 
            | (go_at_call 12; with_reducible refine (Q12m.out _ (And.right (And.right (And.right (And.right (And.right (And.right (And.right (by assumption))))))))).mono ?_; rintro _ U ⟨rfl, bu⟩; have bb := Below.trans (And.right (And.right (And.right (And.right (And.right (And.right (And.right (by assumption)))))))) (bu.mono (Below.size (And.right (And.right (And.right (And.right (And.right (And.right (And.right (by assumption)))))))))); clear bu) 
            | (go_at_call 12; with_reducible refine (Q12a.out _ (And.right (And.right (And.right (And.right (And.right (And.right (And.right (by assumption))))))))).mono ?_; rintro _ U ⟨rfl, bu⟩; have bb := Below.trans (And.right (And.right (And.right (And.right (And.right (And.right (And.right (by assumption)))))))) (bu.mono (Below.size (And.right (And.right (And.right (And.right (And.right (And.right (And.right (by assumption)))))))))); clear bu) 
            | (go_at_call 12; with_reducible refine (Q12o.out _ (And.right (And.right (And.right (And.right (And.right (And.right (And.right (by assumption))))))))).mono ?_; rintro _ U ⟨rfl, bu⟩; have bb := Below.trans (And.right (And.right (And.right (And.right (And.right (And.right (And.right (by assumption)))))))) (bu.mono (Below.size (And.right (And.right (And.right (And.right (And.right (And.right (And.right (by assumption)))))))))); clear bu) 
            | (go_at_call 12; with_reducible refine (Q12b.out _ (And.right (And.right (And.right (And.right (And.right (And.right (And.right (by assumption))))))))).mono ?_; rintro _ U ⟨rfl, bu⟩; have bb := Below.trans (And.right (And.right (And.right (And.right (And.right (And.right (And.right (by assumption)))))))) (bu.mono (Below.size (And.right (And.right (And.right (And.right (And.right (And.right (And.right (by assumption)))))))))); clear bu) 
            | (go_at_call 9; with_reducible refine (Q9.out _ (And.right (And.right (And.right (And.right (And.right (And.right (And.right (by assumption))))))))).mono ?_; rintro _ U ⟨p, cu, rfl, ku, bu⟩; have bb := Below.trans (And.right (And.right (And.right (And.right (And.right (And.right (And.right (by assumption)))))))) (bu.out.mono (Below.size (And.right (And.right (And.right (And.right (And.right (And.right (And.right (by assumption)))))))))); clear bu; have kx : ∃ S, KidsAt U S (.slice p a.kids.length cu) a.kids := ⟨_, ku.out⟩; clear ku) 
            | (go_at_call 20; with_reducible refine (Q20.out _ _ _ (And.right (And.right (And.right (And.right (And.right (And.right (And.right (by assumption)))))))) (by assumption)).mono ?_; rintro _ U ⟨rfl, bu⟩; have bb := Below.trans (And.right (And.right (And.right (And.right (And.right (And.right (And.right (by assumption)))))))) (bu.mono (Below.size (And.right (And.right (And.right (And.right (And.right (And.right (And.right (by assumption)))))))))); clear bu)) 
          try dsimp only 
          refine hK.out _ _ (by first | assumption | (refine SHOW.out _ ?_; assumption)) (fun hHeld => ?_) 
          clear hK K 
          (try simp only [Act.put, List.setIfInBounds_toArray, List.set_cons_zero, List.set_cons_succ])
          refine wpAnyH_ready (rs := [31]) (by kernel_rfl) (by simp) ?_ 
          refine AllReadyH.cons rfl (fun K hK => ?_) AllReadyH.nil 
          go_simp 
          (first 
            | (go_at_call 11; with_reducible refine (Q11.out _ (And.right (And.right (And.right (And.right (And.right (And.right (And.right (by assumption))))))))).mono ?_; rintro _ U ⟨rfl, bu⟩; have bb := Below.trans (And.right (And.right (And.right (And.right (And.right (And.right (And.right (by assumption)))))))) (bu.mono (Below.size (And.right (And.right (And.right (And.right (And.right (And.right (And.right (by assumption)))))))))); clear bu) 
            | (go_at_call 20; with_reducible refine (Q20y.out _ (And.right (And.right (And.right (And.right (And.right (And.right (And.right (by assumption))))))))).mono ?_; rintro _ U ⟨rfl, bu⟩; have bb := Below.trans (And.right (And.right (And.right (And.right (And.right (And.right (And.right (by assumption)))))))) (bu.mono (Below.size (And.right (And.right (And.right (And.right (And.right (And.right (And.right (by assumption)))))))))); clear bu) 
            | (go_at_call 12; with_reducible refine (Q12m.out _ (And.right (And.right (And.right (And.right (And.right (And.right (And.right (by assumption))))))))).mono ?_; rintro _ U ⟨rfl, bu⟩; have bb := Below.trans (And.right (And.right (And.right (And.right (And.right (And.right (And.right (by assumption)))))))) (bu.mono (Below.size (And.right (And.right (And.right (And.right (And.right (And.right (And.right (by assumption)))))))))); clear bu) 
            | (go_at_call 12; with_reducible refine (Q12a.out _ (And.right (And.right (And.right (And.right (And.right (And.right (And.right (by assumption))))))))).mono ?_; rintro _ U ⟨rfl, bu⟩; have bb := Below.trans (And.right (And.right (And.right (And.right (And.right (And.right (And.right (by assumption)))))))) (bu.mono (Below.size (And.right (And.right (And.right (And.right (And.right (And.right (And.right (by assumption)))))))))); clear bu) 
            | (go_at_call 12; with_reducible refine (Q12o.out _ (And.right (And.right (And.right (And.right (And.right (And.right (And.right (by assumption))))))))).mono ?_; rintro _ U ⟨rfl, bu⟩; have bb := Below.trans (And.right (And.right (And.right (And.right (And.right (And.right (And.right (by assumption)))))))) (bu.mono (Below.size (And.right (And.right (And.right (And.right (And.right (And.right (And.right (by assumption)))))))))); clear bu) 
            | (go_at_call 12; with_reducible refine (Q12b.out _ (And.right (And.right (And.right (And.right (And.right (And.right (And.right (by assumption))))))))).mono ?_; rintro _ U ⟨rfl, bu⟩; have bb := Below.trans (And.right (And.right (And.right (And.right (And.right (And.right (And.right (by assumption)))))))) (bu.mono (Below.size (And.right (And.right (And.right (And.right (And.right (And.right (And.right (by assumption)))))))))); clear bu) 
            | (go_at_call 9; with_reducible refine (Q9.out _ (And.right (And.right (And.right (And.right (And.right (And.right (And.right (by assumption))))))))).mono ?_; rintro _ U ⟨p, cu, rfl, ku, bu⟩; have bb := Below.trans (And.right (And.right (And.right (And.right (And.right (And.right (And.right (by assumption)))))))) (bu.out.mono (Below.size (And.right (And.right (And.right (And.right (And.right (And.right (And.right (by assumption)))))))))); clear bu; have kx : ∃ S, KidsAt U S (.slice p a.kids.length cu) a.kids := ⟨_, ku.out⟩; clear ku) 
            | (go_at_call 20; with_reducible refine (Q20.out _ _ _ (And.right (And.right (And.right (And.right (And.right (And.right (And.right (by assumption)))))))) (by assumption)).mono ?_; rintro _ U ⟨rfl, bu⟩; have bb := Below.trans (And.right (And.right (And.right (And.right (And.right (And.right (And.right (by assumption)))))))) (bu.mono (Below.size (And.right (And.right (And.right (And.right (And.right (And.right (And.right (by assumption)))))))))); clear bu)) 
          try dsimp only 
          refine hK.out _ _ (by first | assumption | (refine SHOW.out _ ?_; assumption)) (fun hHeld => ?_) 
          clear hK K 
          (try simp only [Act.put, List.setIfInBounds_toArray, List.set_cons_zero, List.set_cons_succ])
          refine wpAnyH_ready (rs := [33]) (by kernel_rfl) (by simp) ?_ 
          refine AllReadyH.cons rfl (fun K hK => ?_) AllReadyH.nil 
          go_simp 
          (first 
            | (go_at_call 11; with_reducible refine (Q11.out _ (And.right (And.right (And.right (And.right (And.right (And.right (And.right (by assumption))))))))).mono ?_; rintro _ U ⟨rfl, bu⟩; have bb := Below.trans (And.right (And.right (And.right (And.right (And.right (And.right (And.right (by assumption)))))))) (bu.mono (Below.size (And.right (And.right (And.right (And.right (And.right (And.right (And.right (by assumption)))))))))); clear bu) 
            | (go_at_call 20; with_reducible refine (Q20y.out _ (And.right (And.right (And.right (And.right (And.right (And.right (And.right (by assumption))))))))).mono ?_; rintro _ U ⟨rfl, bu⟩; have bb := Below.trans (And.right (And.right (And.right (And.right (And.right (And.right (And.right (by assumption)))))))) (bu.mono (Below.size (And.right (And.right (And.right (And.right (And.right (And.right (And.right (by assumption)))))))))); clear bu) 
            | (go_at_call 12; with_reducible refine (Q12m.out _ (And.right (And.right (And.right (And.right (And.right (And.right (And.right (by assumption))))))))).mono ?_; rintro _ U ⟨rfl, bu⟩; have bb := Below.trans (And.right (And.right (And.right (And.right (And.right (And.right (And.right (by assumption)))))))) (bu.mono (Below.size (And.right (And.right (And.right (And.right (And.right (And.right (And.right (by assumption)))))))))); clear bu) 
            | (go_at_call 12; with_reducible refine (Q12a.out _ (And.right (And.right (And.right (And.right (And.right (And.right (And.right (by assumption))))))))).mono ?_; rintro _ U ⟨rfl, bu⟩; have bb := Below.trans (And.right (And.right (And.right (And.right (And.right (And.right (And.right (by assumption)))))))) (bu.mono (Below.size (And.right (And.right (And.right (And.right (And.right (And.right (And.right (by assumption)))))))))); clear bu) 
            | (go_at_call 12; with_reducible refine (Q12o.out _ (And.right (And.right (And.right (And.right (And.right (And.right (And.right (by assumption))))))))).mono ?_; rintro _ U ⟨rfl, bu⟩; have bb := Below.trans (And.right (And.right (And.right (And.right (And.right (And.right (And.right (by assumption)))))))) (bu.mono (Below.size (And.right (And.right (And.right (And.right (And.right (And.right (And.right (by assumption)))))))))); clear bu) 
            | (go_at_call 12; with_reducible refine (Q12b.out _ (And.right (And.right (And.right (And.right (And.right (And.right (And.right (by assumption))))))))).mono ?_; rintro _ U ⟨rfl, bu⟩; have bb := Below.trans (And.right (And.right (And.right (And.right (And.right (And.right (And.right (by assumption)))))))) (bu.mono (Below.size (And.right (And.right (And.right (And.right (And.right (And.right (And.right (by assumption)))))))))); clear bu) 
            | (go_at_call 9; with_reducible refine (Q9.out _ (And.right (And.right (And.right (And.right (And.right (And.right (And.right (by assumption))))))))).mono ?_; rintro _ U ⟨p, cu, rfl, ku, bu⟩; have bb := Below.trans (And.right (And.right (And.right (And.right (And.right (And.right (And.right (by assumption)))))))) (bu.out.mono (Below.size (And.right (And.right (And.right (And.right (And.right (And.right (And.right (by assumption)))))))))); clear bu; have kx : ∃ S, KidsAt U S (.slice p a.kids.length cu) a.kids := ⟨_, ku.out⟩; clear ku) 
            | (go_at_call 20; with_reducible refine (Q20.out _ _ _ (And.right (And.right (And.right (And.right (And.right (And.right (And.right (by assumption)))))))) (by assumption)).mono ?_; rintro _ U ⟨rfl, bu⟩; have bb := Below.trans (And.right (And.right (And.right (And.right (And.right (And.right (And.right (by assumption)))))))) (bu.mono (Below.size (And.right (And.right (And.right (And.right (And.right (And.right (And.right (by assumption)))))))))); clear bu)) 
          try dsimp only 
          refine hK.out _ _ (by first | assumption | (refine SHOW.out _ ?_; assumption)) (fun hHeld => ?_) 
          clear hK K 
          (try simp only [Act.put, List.setIfInBounds_toArray, List.set_cons_zero, List.set_cons_succ])
          refine wpAnyH_take (i := 34) (v := ?_) (by simp only [List.getElem?_toArray, List.getElem?_cons_succ, List.getElem?_cons_zero]; exact rfl) (by kernel_rfl) (by kernel_rfl) (by kernel_rfl) (by intro _ _ _ h; exact h) (Or.inl ⟨by rfl, ?_⟩) (by assumption) ?_ 
          rotate_left 1 
          · (intro w hSw; (try dsimp only at hSw); go_simp; try with_reducible rfl) 
          (try simp only [Act.put, List.setIfInBounds_toArray, List.set_cons_zero, List.set_cons_succ])
          refine wpAnyH_ready (rs := [36]) (by kernel_rfl) (by simp) ?_ 
          refine AllReadyH.cons rfl (fun K hK => ?_) AllReadyH.nil 
          go_simp 
          (first 
            | (go_at_call 11; with_reducible refine (Q11.out _ (And.right (And.right (And.right (And.right (And.right (And.right (And.right (by assumption))))))))).mono ?_; rintro _ U ⟨rfl, bu⟩; have bb := Below.trans (And.right (And.right (And.right (And.right (And.right (And.right (And.right (by assumption)))))))) (bu.mono (Below.size (And.right (And.right (And.right (And.right (And.right (And.right (And.right (by assumption)))))))))); clear bu) 
            | (go_at_call 20; with_reducible refine (Q20y.out _ (And.right (And.right (And.right (And.right (And.right (And.right (And.right (by assumption))))))))).mono ?_; rintro _ U ⟨rfl, bu⟩; have bb := Below.trans (And.right (And.right (And.right (And.right (And.right (And.right (And.right (by assumption)))))))) (bu.mono (Below.size (And.right (And.right (And.right (And.right (And.right (And.right (And.right (by assumption)))))))))); clear bu) 
            | (go_at_call 12; with_reducible refine (Q12m.out _ (And.right (And.right (And.right (And.right (And.right (And.right (And.right (by assumption))))))))).mono ?_; rintro _ U ⟨rfl, bu⟩; have bb := Below.trans (And.right (And.right (And.right (And.right (And.right (And.right (And.right (by assumption)))))))) (bu.mono (Below.size (And.right (And.right (And.right (And.right (And.right (And.right (And.right (by assumption)))))))))); clear bu) 
            | (go_at_call 12; with_reducible refine (Q12a.out _ (And.right (And.right (And.right (And.right (And.right (And.right (And.right (by assumption))))))))).mono ?_; rintro _ U ⟨rfl, bu⟩; have bb := Below.trans (And.right (And.right (And.right (And.right (And.right (And.right (And.right (by assumption)))))))) (bu.mono (Below.size (And.right (And.right (And.right (And.right (And.right (And.right (And.right (by assumption)))))))))); clear bu) 
            | (go_at_call 12; with_reducible refine (Q12o.out _ (And.right (And.right (And.right (And.right (And.right (And.right (And.right (by assumption))))))))).mono ?_; rintro _ U ⟨rfl, bu⟩; have bb := Below.trans (And.right (And.right (And.right (And.right (And.right (And.right (And.right (by assumption)))))))) (bu.mono (Below.size (And.right (And.right (And.right (And.right (And.right (And.right (And.right (by assumption)))))))))); clear bu) 
            | (go_at_call 12; with_reducible refine (Q12b.out _ (And.right (And.right (And.right (And.right (And.right (And.right (And.right (by assumption))))))))).mono ?_; rintro _ U ⟨rfl, bu⟩; have bb := Below.trans (And.right (And.right (And.right (And.right (And.right (And.right (And.right (by assumption)))))))) (bu.mono (Below.size (And.right (And.right (And.right (And.right (And.right (And.right (And.right (by assumption)))))))))); clear bu) 
            | (go_at_call 9; with_reducible refine (Q9.out _ (And.right (And.right (And.right (And.right (And.right (And.right (And.right (by assumption))))))))).mono ?_; rintro _ U ⟨p, cu, rfl, ku, bu⟩; have bb := Below.trans (And.right (And.right (And.right (And.right (And.right (And.right (And.right (by assumption)))))))) (bu.out.mono (Below.size (And.right (And.right (And.right (And.right (And.right (And.right (And.right (by assumption)))))))))); clear bu; have kx : ∃ S, KidsAt U S (.slice p a.kids.length cu) a.kids := ⟨_, ku.out⟩; clear ku) 
            | (go_at_call 20; with_reducible refine (Q20.out _ _ _ (And.right (And.right (And.right (And.right (And.right (And.right (And.right (by assumption)))))))) (by assumption)).mono ?_; rintro _ U ⟨rfl, bu⟩; have bb := Below.trans (And.right (And.right (And.right (And.right (And.right (And.right (And.right (by assumption)))))))) (bu.mono (Below.size (And.right (And.right (And.right (And.right (And.right (And.right (And.right (by assumption)))))))))); clear bu)) 
          try dsimp only 
          refine hK.out _ _ (by first | assumption | (refine SHOW.out _ ?_; assumption)) (fun hHeld => ?_) 
          clear hK K 
          (try simp only [Act.put, List.setIfInBounds_toArray, List.set_cons_zero, List.set_cons_succ])
          refine wpAnyH_take (i := 37) (v := ?_) (by simp only [List.getElem?_toArray, List.getElem?_cons_succ, List.getElem?_cons_zero]; exact rfl) (by kernel_rfl) (by kernel_rfl) (by kernel_rfl) (by intro _ _ _ h; exact h) (Or.inl ⟨by rfl, ?_⟩) (by assumption) ?_ 
          rotate_left 1 
          · (intro w hSw; (try dsimp only at hSw); go_simp; try with_reducible rfl) 
          (try simp only [Act.put, List.setIfInBounds_toArray, List.set_cons_zero, List.set_cons_succ])
          refine wpAnyH_take (i := 38) (v := ?_) (by simp only [List.getElem?_toArray, List.getElem?_cons_succ, List.getElem?_cons_zero]; exact rfl) (by kernel_rfl) (by kernel_rfl) (by kernel_rfl) (by intro _ _ _ h; exact h) (Or.inl ⟨by rfl, ?_⟩) (by assumption) ?_ 
          rotate_left 1 
          · (intro w hSw; (try dsimp only at hSw); go_simp; try with_reducible rfl) 
          (try simp only [Act.put, List.setIfInBounds_toArray, List.set_cons_zero, List.set_cons_succ])
          refine wpAnyH_take (i := 39) (v := ?_) (by simp only [List.getElem?_toArray, List.getElem?_cons_succ, List.getElem?_cons_zero]; exact rfl) (by kernel_rfl) (by kernel_rfl) (by kernel_rfl) (by intro _ _ _ h; exact h) (Or.inl ⟨by rfl, ?_⟩) (by assumption) ?_ 
          rotate_left 1 
          · (intro w hSw; (try dsimp only at hSw); go_simp; try with_reducible rfl) 
          (try simp only [Act.put, List.setIfInBounds_toArray, List.set_cons_zero, List.set_cons_succ])
          refine wpAnyH_take (i := 40) (v := ?_) (by simp only [List.getElem?_toArray, List.getElem?_cons_succ, List.getElem?_cons_zero]; exact rfl) (by kernel_rfl) (by kernel_rfl) (by kernel_rfl) (by intro _ _ _ h; exact h) (Or.inl ⟨by rfl, ?_⟩) (by assumption) ?_ 
          rotate_left 1 
          · (intro w hSw; (try dsimp only at hSw); go_simp; try with_reducible rfl) 
          (try simp only [Act.put, List.setIfInBounds_toArray, List.set_cons_zero, List.set_cons_succ])
          refine wpAnyH_take (i := 41) (v := ?_) (by simp only [List.getElem?_toArray, List.getElem?_cons_succ, List.getElem?_cons_zero]; exact rfl) (by kernel_rfl) (by kernel_rfl) (by kernel_rfl) (by intro _ _ _ h; exact h) (Or.inl ⟨by rfl, ?_⟩) (by assumption) ?_ 
          rotate_left 1 
          · (intro w hSw; (try dsimp only at hSw); go_simp; try with_reducible rfl) 
          (try simp only [Act.put, List.setIfInBounds_toArray, List.set_cons_zero, List.set_cons_succ])
          refine wpAnyH_take (i := 42) (v := ?_) (by simp only [List.getElem?_toArray, List.getElem?_cons_succ, List.getElem?_cons_zero]; exact rfl) (by kernel_rfl) (by kernel_rfl) (by kernel_rfl) (by intro _ _ _ h; exact h) (Or.inl ⟨by rfl, ?_⟩) (by assumption) ?_ 
          rotate_left 1 
          · (intro w hSw; (try dsimp only at hSw); go_simp; try with_reducible rfl) 
          (try simp only [Act.put, List.setIfInBounds_toArray, List.set_cons_zero, List.set_cons_succ])
          refine wpAnyH_ready (rs := [43]) (by kernel_rfl) (by simp) ?_ 
          refine AllReadyH.cons rfl (fun K hK => ?_) AllReadyH.nil 
          go_simp 
          (first 
            | (go_at_call 11; with_reducible refine (Q11.out _ (And.right (And.right (And.right (And.right (And.right (And.right (And.right (by assumption))))))))).mono ?_; rintro _ U ⟨rfl, bu⟩; have bb := Below.trans (And.right (And.right (And.right (And.right (And.right (And.right (And.right (by assumption)))))))) (bu.mono (Below.size (And.right (And.right (And.right (And.right (And.right (And.right (And.right (by assumption)))))))))); clear bu) 
            | (go_at_call 20; with_reducible refine (Q20y.out _ (And.right (And.right (And.right (And.right (And.right (And.right (And.right (by assumption))))))))).mono ?_; rintro _ U ⟨rfl, bu⟩; have bb := Below.trans (And.right (And.right (And.right (And.right (And.right (And.right (And.right (by assumption)))))))) (bu.mono (Below.size (And.right (And.right (And.right (And.right (And.right (And.right (And.right (by assumption)))))))))); clear bu) 
            | (go_at_call 12; with_reducible refine (Q12m.out _ (And.right (And.right (And.right (And.right (And.right (And.right (And.right (by assumption))))))))).mono ?_; rintro _ U ⟨rfl, bu⟩; have bb := Below.trans (And.right (And.right (And.right (And.right (And.right (And.right (And.right (by assumption)))))))) (bu.mono (Below.size (And.right (And.right (And.right (And.right (And.right (And.right (And.right (by assumption)))))))))); clear bu) 
            | (go_at_call 12; with_reducible refine (Q12a.out _ (And.right (And.right (And.right (And.right (And.right (And.right (And.right (by assumption))))))))).mono ?_; rintro _ U ⟨rfl, bu⟩; have bb := Below.trans (And.right (And.right (And.right (And.right (And.right (And.right (And.right (by assumption)))))))) (bu.mono (Below.size (And.right (And.right (And.right (And.right (And.right (And.right (And.right (by assumption)))))))))); clear bu) 
            | (go_at_call 12; with_reducible refine (Q12o.out _ (And.right (And.right (And.right (And.right (And.right (And.right (And.right (by assumption))))))))).mono ?_; rintro _ U ⟨rfl, bu⟩; have bb := Below.trans (And.right (And.right (And.right (And.right (And.right (And.right (And.right (by assumption)))))))) (bu.mono (Below.size (And.right (And.right (And.right (And.right (And.right (And.right (And.right (by assumption)))))))))); clear bu) 
            | (go_at_call 12; with_reducible refine (Q12b.out _ (And.right (And.right (And.right (And.right (And.right (And.right (And.right (by assumption))))))))).mono ?_; rintro _ U ⟨rfl, bu⟩; have bb := Below.trans (And.right (And.right (And.right (And.right (And.right (And.right (And.right (by assumption)))))))) (bu.mono (Below.size (And.right (And.right (And.right (And.right (And.right (And.right (And.right (by assumption)))))))))); clear bu) 
            | (go_at_call 9; with_reducible refine (Q9.out _ (And.right (And.right (And.right (And.right (And.right (And.right (And.right (by assumption))))))))).mono ?_; rintro _ U ⟨p, cu, rfl, ku, bu⟩; have bb := Below.trans (And.right (And.right (And.right (And.right (And.right (And.right (And.right (by assumption)))))))) (bu.out.mono (Below.size (And.right (And.right (And.right (And.right (And.right (And.right (And.right (by assumption)))))))))); clear bu; have kx : ∃ S, KidsAt U S (.slice p a.kids.length cu) a.kids := ⟨_, ku.out⟩; clear ku) 
            | (go_at_call 20; with_reducible refine (Q20.out _ _ _ (And.right (And.right (And.right (And.right (And.right (And.right (And.right (by assumption)))))))) (by assumption)).mono ?_; rintro _ U ⟨rfl, bu⟩; have bb := Below.trans (And.right (And.right (And.right (And.right (And.right (And.right (And.right (by assumption)))))))) (bu.mono (Below.size (And.right (And.right (And.right (And.right (And.right (And.right (And.right (by assumption)))))))))); clear bu)) 
          try dsimp only 
          refine hK.out _ _ (by first | assumption | (refine SHOW.out _ ?_; assumption)) (fun hHeld => ?_) 
          clear hK K 
          (try simp only [Act.put, List.setIfInBounds_toArray, List.set_cons_zero, List.set_cons_succ])
          refine wpAnyH_ready (rs := [44]) (by kernel_rfl) (by simp) ?_ 
          refine AllReadyH.cons rfl (fun K hK => ?_) AllReadyH.nil 
          go_simp 
          (first 
            | (go_at_call 11; with_reducible refine (Q11.out _ (And.right (And.right (And.right (And.right (And.right (And.right (And.right (by assumption))))))))).mono ?_; rintro _ U ⟨rfl, bu⟩; have bb := Below.trans (And.right (And.right (And.right (And.right (And.right (And.right (And.right (by assumption)))))))) (bu.mono (Below.size (And.right (And.right (And.right (And.right (And.right (And.right (And.right (by assumption)))))))))); clear bu) 
            | (go_at_call 20; with_reducible refine (Q20y.out _ (And.right (And.right (And.right (And.right (And.right (And.right (And.right (by assumption))))))))).mono ?_; rintro _ U ⟨rfl, bu⟩; have bb := Below.trans (And.right (And.right (And.right (And.right (And.right (And.right (And.right (by assumption)))))))) (bu.mono (Below.size (And.right (And.right (And.right (And.right (And.right (And.right (And.right (by assumption)))))))))); clear bu) 
            | (go_at_call 12; with_reducible refine (Q12m.out _ (And.right (And.right (And.right (And.right (And.right (And.right (And.right (by assumption))))))))).mono ?_; rintro _ U ⟨rfl, bu⟩; have bb := Below.trans (And.right (And.right (And.right (And.right (And.right (And.right (And.right (by assumption)))))))) (bu.mono (Below.size (And.right (And.right (And.right (And.right (And.right (And.right (And.right (by assumption)))))))))); clear bu) 
            | (go_at_call 12; with_reducible refine (Q12a.out _ (And.right (And.right (And.right (And.right (And.right (And.right (And.right (by assumption))))))))).mono ?_; rintro _ U ⟨rfl, bu⟩; have bb := Below.trans (And.right (And.right (And.right (And.right (And.right (And.right (And.right (by assumption)))))))) (bu.mono (Below.size (And.right (And.right (And.right (And.right (And.right (And.right (And.right (by assumption)))))))))); clear bu) 
            | (go_at_call 12; with_reducible refine (Q12o.out _ (And.right (And.right (And.right (And.right (And.right (And.right (And.right (by assumption))))))))).mono ?_; rintro _ U ⟨rfl, bu⟩; have bb := Below.trans (And.right (And.right (And.right (And.right (And.right (And.right (And.right (by assumption)))))))) (bu.mono (Below.size (And.right (And.right (And.right (And.right (And.right (And.right (And.right (by assumption)))))))))); clear bu) 
            | (go_at_call 12; with_reducible refine (Q12b.out _ (And.right (And.right (And.right (And.right (And.right (And.right (And.right (by assumption))))))))).mono ?_; rintro _ U ⟨rfl, bu⟩; have bb := Below.trans (And.right (And.right (And.right (And.right (And.right (And.right (And.right (by assumption)))))))) (bu.mono (Below.size (And.right (And.right (And.right (And.right (And.right (And.right (And.right (by assumption)))))))))); clear bu) 
            | (go_at_call 9; with_reducible refine (Q9.out _ (And.right (And.right (And.right (And.right (And.right (And.right (And.right (by assumption))))))))).mono ?_; rintro _ U ⟨p, cu, rfl, ku, bu⟩; have bb := Below.trans (And.right (And.right (And.right (And.right (And.right (And.right (And.right (by assumption)))))))) (bu.out.mono (Below.size (And.right (And.right (And.right (And.right (And.right (And.right (And.right (by assumption)))))))))); clear bu; have kx : ∃ S, KidsAt U S (.slice p a.kids.length cu) a.kids := ⟨_, ku.out⟩; clear ku) 
            | (go_at_call 20; with_reducible refine (Q20.out _ _ _ (And.right (And.right (And.right (And.right (And.right (And.right (And.right (by assumption)))))))) (by assumption)).mono ?_; rintro _ U ⟨rfl, bu⟩; have bb := Below.trans (And.right (And.right (And.right (And.right (And.right (And.right (And.right (by assumption)))))))) (bu.mono (Below.size (And.right (And.right (And.right (And.right (And.right (And.right (And.right (by assumption)))))))))); clear bu)) 
          try dsimp only 
          refine hK.out _ _ (by first | assumption | (refine SHOW.out _ ?_; assumption)) (fun hHeld => ?_) 
          clear hK K 
          (try simp only [Act.put, List.setIfInBounds_toArray, List.set_cons_zero, List.set_cons_succ])
          refine wpAnyH_take (i := 45) (v := ?_) (by simp only [List.getElem?_toArray, List.getElem?_cons_succ, List.getElem?_cons_zero]; exact rfl) (by kernel_rfl) (by kernel_rfl) (by kernel_rfl) (by intro _ _ _ h; exact h) (Or.inl ⟨by rfl, ?_⟩) (by assumption) ?_ 
          rotate_left 1 
          · (intro w hSw; (try dsimp only at hSw); go_simp; try with_reducible rfl) 
          (try simp only [Act.put, List.setIfInBounds_toArray, List.set_cons_zero, List.set_cons_succ])
          refine wpAnyH_take (i := 46) (v := ?_) (by simp only [List.getElem?_toArray, List.getElem?_cons_succ, List.getElem?_cons_zero]; exact rfl) (by kernel_rfl) (by kernel_rfl) (by kernel_rfl) (by intro _ _ _ h; exact h) (Or.inl ⟨by rfl, ?_⟩) (by assumption) ?_ 
          rotate_left 1 
          · (intro w hSw; (try dsimp only at hSw); go_simp; try with_reducible rfl) 
          (try simp only [Act.put, List.setIfInBounds_toArray, List.set_cons_zero, List.set_cons_succ])
          refine wpAnyH_done (by kernel_rfl) ?_ _
          go_wp2
          go_ret
          exact ⟨rfl, BW.out.trans (Below.mono (show Below W8.heap.size W8 _ by assumption) BW.out.size)⟩
        | true =>
          obtain ⟨rfl, rfl⟩ := HRF.out rfl
          have q20z : ∀ U (h : Below W8.heap.size W8 U), Calls Tryd.prog 20 #[.agg #[.int .i64 R.kind, .string R.text, .slice p1 R.kids.length c1], .agg #[.int .i64 R.kind, .string R.text, .slice p2 R.kids.length c2]] U fun e w' => e = .returned (.bool true) ∧ Below U.heap.size U w' := fun U h => by
            have := nsame_ok R R _ _ U _ _ (T1.out.kids.stays h) (T2.out.kids.stays h)
            rwa [(eqN_iff _ _).2 rfl] at this
          have Q20z := Lib.hid q20z
          clear q20z HRF HT H0 H1 TA TB IP IQ TM TY T1 T2 T3 HO HO' HM HM1 HMC HAP OA OB Ha Hb
          go_wp2
          go_region_held3 (fun w' => (w'.cell? ⟨A, 0, none⟩ = some (.int .i64 a.kind) ∧ w'.cell? ⟨A, 1, none⟩ = some (.string a.text) ∧ w'.cell? ⟨A, 2, none⟩ = some (.slice pa a.kids.length ca)) ∧ (w'.cell? ⟨B, 0, none⟩ = some (.int .i64 b.kind) ∧ w'.cell? ⟨B, 1, none⟩ = some (.string b.text) ∧ w'.cell? ⟨B, 2, none⟩ = some (.slice pb b.kids.length cb)) ∧ (w'.cell? ⟨M, 0, none⟩ = some (.int .i64 m.kind) ∧ w'.cell? ⟨M, 1, none⟩ = some (.string m.text) ∧ w'.cell? ⟨M, 2, none⟩ = some (.slice pm m.kids.length cm)) ∧ (w'.cell? ⟨Y, 0, none⟩ = some (.int .i64 b.kind) ∧ w'.cell? ⟨Y, 1, none⟩ = some (.string b.text) ∧ w'.cell? ⟨Y, 2, none⟩ = some (.slice py b.kids.length cy)) ∧ (w'.cell? ⟨X1, 0, none⟩ = some (.int .i64 R.kind) ∧ w'.cell? ⟨X1, 1, none⟩ = some (.string R.text) ∧ w'.cell? ⟨X1, 2, none⟩ = some (.slice p1 R.kids.length c1)) ∧ (w'.cell? ⟨X2, 0, none⟩ = some (.int .i64 R.kind) ∧ w'.cell? ⟨X2, 1, none⟩ = some (.string R.text) ∧ w'.cell? ⟨X2, 2, none⟩ = some (.slice p2 R.kids.length c2)) ∧ (w'.cell? ⟨X3, 0, none⟩ = some (.int .i64 o.kind) ∧ w'.cell? ⟨X3, 1, none⟩ = some (.string o.text) ∧ w'.cell? ⟨X3, 2, none⟩ = some (.slice p3 o.kids.length c3)) ∧ Below W8.heap.size W8 w') (first | exact SHOW.out _ HBel.out.drew | assumption | (refine SHOW.out _ ?_; assumption))
            (first
              | (go_at_call 11; with_reducible refine (Q11.out _ (And.right (And.right (And.right (And.right (And.right (And.right (And.right (by assumption))))))))).mono ?_; rintro _ U ⟨rfl, bu⟩; have bb := Below.trans (And.right (And.right (And.right (And.right (And.right (And.right (And.right (by assumption)))))))) (bu.mono (Below.size (And.right (And.right (And.right (And.right (And.right (And.right (And.right (by assumption)))))))))); clear bu)
              | (go_at_call 20; with_reducible refine (Q20y.out _ (And.right (And.right (And.right (And.right (And.right (And.right (And.right (by assumption))))))))).mono ?_; rintro _ U ⟨rfl, bu⟩; have bb := Below.trans (And.right (And.right (And.right (And.right (And.right (And.right (And.right (by assumption)))))))) (bu.mono (Below.size (And.right (And.right (And.right (And.right (And.right (And.right (And.right (by assumption)))))))))); clear bu)
              | (go_at_call 20; with_reducible refine (Q20z.out _ (And.right (And.right (And.right (And.right (And.right (And.right (And.right (by assumption))))))))).mono ?_; rintro _ U ⟨rfl, bu⟩; have bb := Below.trans (And.right (And.right (And.right (And.right (And.right (And.right (And.right (by assumption)))))))) (bu.mono (Below.size (And.right (And.right (And.right (And.right (And.right (And.right (And.right (by assumption)))))))))); clear bu)
              | (go_at_call 12; with_reducible refine (Q12m.out _ (And.right (And.right (And.right (And.right (And.right (And.right (And.right (by assumption))))))))).mono ?_; rintro _ U ⟨rfl, bu⟩; have bb := Below.trans (And.right (And.right (And.right (And.right (And.right (And.right (And.right (by assumption)))))))) (bu.mono (Below.size (And.right (And.right (And.right (And.right (And.right (And.right (And.right (by assumption)))))))))); clear bu)
              | (go_at_call 12; with_reducible refine (Q12a.out _ (And.right (And.right (And.right (And.right (And.right (And.right (And.right (by assumption))))))))).mono ?_; rintro _ U ⟨rfl, bu⟩; have bb := Below.trans (And.right (And.right (And.right (And.right (And.right (And.right (And.right (by assumption)))))))) (bu.mono (Below.size (And.right (And.right (And.right (And.right (And.right (And.right (And.right (by assumption)))))))))); clear bu)
              | (go_at_call 12; with_reducible refine (Q12o.out _ (And.right (And.right (And.right (And.right (And.right (And.right (And.right (by assumption))))))))).mono ?_; rintro _ U ⟨rfl, bu⟩; have bb := Below.trans (And.right (And.right (And.right (And.right (And.right (And.right (And.right (by assumption)))))))) (bu.mono (Below.size (And.right (And.right (And.right (And.right (And.right (And.right (And.right (by assumption)))))))))); clear bu)
              | (go_at_call 12; with_reducible refine (Q12b.out _ (And.right (And.right (And.right (And.right (And.right (And.right (And.right (by assumption))))))))).mono ?_; rintro _ U ⟨rfl, bu⟩; have bb := Below.trans (And.right (And.right (And.right (And.right (And.right (And.right (And.right (by assumption)))))))) (bu.mono (Below.size (And.right (And.right (And.right (And.right (And.right (And.right (And.right (by assumption)))))))))); clear bu)
              | (go_at_call 9; with_reducible refine (Q9.out _ (And.right (And.right (And.right (And.right (And.right (And.right (And.right (by assumption))))))))).mono ?_; rintro _ U ⟨p, cu, rfl, ku, bu⟩; have bb := Below.trans (And.right (And.right (And.right (And.right (And.right (And.right (And.right (by assumption)))))))) (bu.out.mono (Below.size (And.right (And.right (And.right (And.right (And.right (And.right (And.right (by assumption)))))))))); clear bu; have kx : ∃ S, KidsAt U S (.slice p a.kids.length cu) a.kids := ⟨_, ku.out⟩; clear ku)
              | (go_at_call 20; with_reducible refine (Q20.out _ _ _ (And.right (And.right (And.right (And.right (And.right (And.right (And.right (by assumption)))))))) (by assumption)).mono ?_; rintro _ U ⟨rfl, bu⟩; have bb := Below.trans (And.right (And.right (And.right (And.right (And.right (And.right (And.right (by assumption)))))))) (bu.mono (Below.size (And.right (And.right (And.right (And.right (And.right (And.right (And.right (by assumption)))))))))); clear bu))
          go_wp2
          go_ret
          exact ⟨rfl, BW.out.trans (Below.mono (show Below W8.heap.size W8 _ by assumption) BW.out.size)⟩
      
end Go.Proofs.YtigpffbhkopjeaaDoor
