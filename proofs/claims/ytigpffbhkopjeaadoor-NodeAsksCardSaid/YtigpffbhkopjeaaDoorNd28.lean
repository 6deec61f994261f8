/- NodePaths. Its condition: the list lies in memory; the tables that Go's library reads. -/
import Derived.Test.YtigpffbhkopjeaaDoorNd31
import Derived.Deep.Cut
import Derived.Deep.RegionHeld3
namespace Go.Proofs.YtigpffbhkopjeaaDoor
open Go.RowKit Go.Sub Go.Sort
theorem put_three {w U : World} {o1 o2 o3 : Nat} {v1 v2 v3 : Value} (h : Below w.heap.size w U) : Below w.heap.size w (((U.setCell ⟨w.heap.size, o1, none⟩ v1).setCell ⟨w.heap.size, o2, none⟩ v2).setCell ⟨w.heap.size, o3, none⟩ v3) :=
  ((h.setCell (p := ⟨w.heap.size, o1, none⟩) (Nat.le_refl _) _).setCell (p := ⟨w.heap.size, o2, none⟩) (Nat.le_refl _) _).setCell (p := ⟨w.heap.size, o3, none⟩) (Nat.le_refl _) _
theorem zs_inj {p q : List Nat} (h : zs p = zs q) : p = q := by
  unfold zs at h
  exact (List.map_inj_right (fun a b e => by have h1 : (a : Int) = (b : Int) := e; omega)).1 h
theorem longest_le {p : List Nat} : ∀ {l : List (List Nat)}, p ∈ l → p.length ≤ longest l
  | q :: l, h => by
    rw [longest_cons]
    rcases List.mem_cons.1 h with rfl | h
    · omega
    · have := longest_le h; omega
theorem path_len {n : NodeT} {p : List Nat} {i : Nat} (h : (pathsN n)[i]? = some p) : p.length ≤ countN n := by
  have h1 := deep_paths n
  have h2 := longest_le (List.mem_of_getElem? h)
  have h3 := deep_le_count n
  omega
set_option maxRecDepth 100000 in
set_option maxHeartbeats 2000000 in
theorem paths_core (c : List UInt8) (v0 : Value) (k : Int) (hk0 : 0 ≤ k) (hk1 : k ≤ 255) (w : World) (h0 : BytesRow w v0 c) (hT : Tabs w) :
    Calls Tryd.prog 4 #[v0, .int .u8 k] w fun e w' => e = .returned (.bool true) ∧ Below w.heap.size w w' := by
  obtain ⟨a, ha⟩ : ∃ a, a = treeN c := ⟨_, rfl⟩
  have oa : TreeOf a := ha ▸ treeOf c
  have Ha := Lib.hid ha
  clear ha
  have HT := Lib.hid hT
  have wk : IntKind.i64.wrap k = k := IntWalk.i64_in _ (by omega)
  go_enter Tryd.func4, Tryd.ntmps4
  have tc := Lib.hid (tree_told c v0 w h0 a Ha.out) 
  go_upto_region 2 with (go_at_call 9; refine tc.out.mono ?_; rintro _ V1 ⟨pa, ca, rfl, ku, bl⟩) 
  obtain ⟨tb, bb, zz⟩ := treeBox_new ku.out bl.out 
  clear tc ku bl
  generalize V1.alloc (.cells #[.int .i64 a.kind, .string a.text, .slice pa a.kids.length ca] 25) = W1 at *
  generalize V1.heap.size = A at *
  have pc := paths_told a _ W1 _ tb.kids (by have := oa.count; omega)
  unfold nodeV at pc
  obtain ⟨n0, n1, n2⟩ := tb.box.cells
  have PC := Lib.hid pc
  have OA := Lib.hid oa
  have B1 := Lib.hid bb
  have T1 := Lib.hid tb
  clear pc oa bb zz tb hT h0
  go_upto_region 4 with (go_at_call 16; refine PC.out.mono ?_; rintro _ W2 ⟨v, rfl, hp, bb⟩; obtain ⟨g, cv, rfl⟩ := hp.shape; have HP := Lib.hid hp; have BB := Lib.hid bb; clear hp bb)
  have T2 := Lib.hid (T1.out.stays BB.out)
  have B2 := Lib.hid (B1.out.trans (BB.out.mono B1.out.size))
  have hpl : (pathsN a).length ≤ 32 := by rw [paths_length]; exact OA.out.count
  have hp0 : 0 < (pathsN a).length := by rw [paths_length]; exact countN_pos a
  have z0 : (0 : Int) ≤ ((pathsN a).length : Int) := by omega
  clear PC n0 n1 n2 T1 B1 BB
  go_loopw [7] (fun i wr => ∃ j : Nat, j ≤ (pathsN a).length ∧ i = .int .i64 j ∧ Hid (Below W2.heap.size W2 wr)) (fun i _ => (pathsN a).length - (intOf i).toNat)
  case atStart => exact ⟨0, Nat.zero_le _, rfl, Lib.hid (Below.refl _ _)⟩
  case round =>
    obtain ⟨j, hj, rfl, HB⟩ := hrel
    obtain ⟨n0, n1, n2⟩ := (T2.out.stays HB.out).box.cells
    by_cases hlt : j < (pathsN a).length
    · have hx := List.getElem?_eq_getElem hlt
      obtain ⟨q, qc, hcell, hints⟩ := (HP.out.stays HB.out).at hx
      obtain ⟨m, hm⟩ := paths_at a _ (List.getElem_mem hlt)
      go_upto_region 6 with (fail)
      have hbel := Below.refl wr.heap.size wr
      have hD := (hbel.alloc (Nat.le_refl _) (.cells #[.int .i64 0, .string ⟨#[]⟩, .slice none 0 0] 25)).drew
      have tA := T2.out.stays HB.out
      have hcn : countN a ≤ 1000000000 := by have := OA.out.count; omega
      have c1 := at_calls a _ _ _ wr.drew _ _ (tA.kids.stays hbel.drew) (hints.stays hbel.drew) hcn
      have c2 := at_calls a _ _ _ (wr.alloc (.cells #[.int .i64 0, .string ⟨#[]⟩, .slice none 0 0] 25)).drew _ _ (tA.kids.stays hD) (hints.stays hD) hcn
      rw [hm] at c1 c2
      unfold nodeV at c1 c2
      have show1 : ∀ U, Below wr.heap.size wr U → ((U.cell? ⟨A, 0, none⟩ = some (.int .i64 a.kind) ∧ U.cell? ⟨A, 1, none⟩ = some (.string a.text) ∧ U.cell? ⟨A, 2, none⟩ = some (.slice pa a.kids.length ca)) ∧ U.cell? ⟨g, j, none⟩ = some (.slice q (pathsN a)[j].length qc) ∧ Below wr.heap.size wr U) := fun U h => ⟨(tA.box.stays h).cells, (h.cell (p := ⟨g, j, none⟩) (World.block_lt_of_cell? _ _ hcell)).trans hcell, h⟩
      have nbd : NBox (wr.alloc (.cells #[.int .i64 0, .string ⟨#[]⟩, .slice none 0 0] 25)).drew wr.heap.size 25 0 ⟨#[]⟩ (.slice none 0 0) := nbox_new wr 25 0 ⟨#[]⟩ (.slice none 0 0)
      have C1 := Lib.hid c1
      have C2 := Lib.hid c2
      have SHOW := Lib.hid show1
      have HBel := Lib.hid hbel
      have HD := Lib.hid hD
      have NBD := Lib.hid nbd
      have HX := Lib.hid hx
      clear c1 c2 show1 hbel hD nbd tA hints hx hm
      generalize (pathsN a)[j] = pj at *
      go_region_held3 (fun w' => ((w'.cell? ⟨A, 0, none⟩ = some (.int .i64 a.kind) ∧ w'.cell? ⟨A, 1, none⟩ = some (.string a.text) ∧ w'.cell? ⟨A, 2, none⟩ = some (.slice pa a.kids.length ca)) ∧ w'.cell? ⟨g, j, none⟩ = some (.slice q pj.length qc) ∧ Below wr.heap.size wr w')) (first | exact SHOW.out _ HBel.out.drew | assumption | exact SHOW.out _ HD.out | exact SHOW.out _ (Below.alloc bb (Below.size bb) _) | (refine SHOW.out _ ?_; assumption) | (refine SHOW.out _ (Below.alloc (And.right (And.right (by assumption))) (Below.size (And.right (And.right (by assumption)))) _)) | exact SHOW.out _ (put_three bb))
        (first
          | (go_at_call 17; (with_reducible refine C1.out.mono ?_); rintro _ U ⟨u, rfl, ku, bu⟩; obtain ⟨pu, cu, rfl, lu⟩ := ku.shape; simp only [nodeV, Option.getD, Option.isSome]; have bb := HBel.out.drew.trans (show Below wr.heap.size wr.drew U from bu); clear ku bu)
          | (go_at_call 17; (with_reducible refine C2.out.mono ?_); rintro _ U ⟨u, rfl, ku, bu⟩; obtain ⟨pu, cu, rfl, lu⟩ := ku.shape; simp only [nodeV, Option.getD, Option.isSome]; have bb := HD.out.trans (bu.mono HD.out.size); obtain ⟨e0, e1, e2⟩ := (NBD.out.stays bu).cells; obtain ⟨f0, f1, f2⟩ := (NBD.out.stays bu).free; clear ku bu))
      · have hv := Below.alloc bb (Below.size bb) (.cells #[.int .i64 m.kind, .string m.text, .slice pu m.kids.length cu] 25)
        obtain ⟨X, hX⟩ : ∃ X, X = (U.alloc (.cells #[.int .i64 m.kind, .string m.text, .slice pu m.kids.length cu] 25)) := ⟨_, rfl⟩ 
        rw [← hX] at hv ⊢ 
        clear hX 
        have HV := Lib.hid (HB.out.trans (hv.mono HB.out.size)) 
        have hjlt : j < (pathsN a).length := hlt 
        clear hv bb hcell n0 n1 n2 
        go_wp2 
        go_loopw [10] (fun z wx => ∃ i : Nat, i ≤ j ∧ z = .int .i64 i ∧ Hid (Below W2.heap.size W2 wx)) (fun z _ => j - (intOf z).toNat) 
        case atStart => exact ⟨0, Nat.zero_le _, rfl, HV⟩ 
        case round => 
          obtain ⟨i, hi, rfl, HI⟩ := hrel 
          by_cases hij : i < j 
          · have hilt : i < (pathsN a).length := Nat.lt_trans hij hjlt 
            have hxi := List.getElem?_eq_getElem hilt 
            obtain ⟨q2, c2, hc2, hi2⟩ := (HP.out.stays HI.out).at hxi 
            obtain ⟨q3, c3, hc3, hi3⟩ := (HP.out.stays HI.out).at HX.out 
            have hne : zs pj ≠ zs (pathsN a)[i] := fun e => by 
              have e1 := zs_inj e 
              have h1 := HX.out 
              rw [e1] at h1 
              have h2 := (List.getElem?_inj hjlt (paths_nodup a)).1 (h1.trans hxi.symm) 
              omega 
            have hpl2 : pj.length ≤ 1000000000 := by have := path_len HX.out; have := OA.out.count; omega 
            generalize (pathsN a)[i] = pi at * 
            have HXI := Lib.hid hxi 
            clear hxi 
            by_cases hlen : pi.length = pj.length 
            · rw [hlen] at hc2 hi2 
              have ec := equal_paths (zs pj) (zs pi) q3 q2 c3 c2 
              rw [zs_length, zs_length] at ec 
              have q18 := fun U (h : Below wr.heap.size wr U) => ec U _ _ (hi3.stays h) (hi2.stays h) hlen.symm hpl2 hne 
              have show1 : ∀ U, Below wr.heap.size wr U → (U.cell? ⟨g, j, none⟩ = some (.slice q3 pj.length c3) ∧ U.cell? ⟨g, i, none⟩ = some (.slice q2 pj.length c2) ∧ Below wr.heap.size wr U) := fun U h => ⟨(h.cell (p := ⟨g, j, none⟩) (World.block_lt_of_cell? _ _ hc3)).trans hc3, (h.cell (p := ⟨g, i, none⟩) (World.block_lt_of_cell? _ _ hc2)).trans hc2, h⟩ 
              have SHOW2 := Lib.hid show1 
              have HBel2 := Lib.hid (Below.refl wr.heap.size wr) 
              have Q18 := Lib.hid q18 
              clear show1 q18 ec hi2 hi3 hne hlen 
              go_wp2 
              go_region_held3 (fun w' => (w'.cell? ⟨g, j, none⟩ = some (.slice q3 pj.length c3) ∧ w'.cell? ⟨g, i, none⟩ = some (.slice q2 pj.length c2) ∧ Below wr.heap.size wr w')) (first | exact SHOW2.out _ HBel2.out.drew | assumption | (refine SHOW2.out _ ?_; assumption)) 
                (first 
                  | (go_at_call 18; with_reducible refine (Q18.out _ (And.right (And.right (by assumption)))).mono ?_; rintro _ U3 ⟨rfl, bu⟩; have bb := Below.trans (And.right (And.right (by assumption))) (bu.mono (Below.size (And.right (And.right (by assumption))))); clear bu)) 
              have HF := Lib.hid (HI.out.trans (Below.mono (show Below wr.heap.size wr _ by assumption) HI.out.size)) 
              go_wp2 
              go_roundw 
              case rel => exact ⟨i + 1, by omega, by go_num, HF⟩ 
              case measure => simp [intOf]; omega 
            · have y1 : ((pj.length : Int) == (pi.length : Int)) = false := by rw [beq_eq_false_iff_ne]; omega 
              have HDR := Lib.hid (fun k => HI.out.trans (c := wr.drewN k) ⟨rfl, rfl, rfl, Nat.le_refl _, fun _ _ => rfl⟩) 
              clear hne hi2 hi3 hlen 
              go_wp2 
              go_quiet (fail) 
              go_wp2 
              go_roundw 
              case rel => exact ⟨i + 1, by omega, by go_num, Lib.hid (HDR.out _)⟩ 
              case measure => simp [intOf]; omega 
          · obtain rfl : i = j := by omega 
            go_wp2 
            go_roundw 
            case rel => exact ⟨i + 1, by omega, by go_num, HI⟩ 
            case measure => simp [intOf]; omega
      · have hv := put_three (o1 := 0) (o2 := 1) (o3 := 2) (v1 := .int .i64 m.kind) (v2 := .string m.text) (v3 := .slice pu m.kids.length cu) bb
        obtain ⟨X, hX⟩ : ∃ X, X = (((U.setCell ⟨wr.heap.size, 0, none⟩ (.int .i64 m.kind)).setCell ⟨wr.heap.size, 1, none⟩ (.string m.text)).setCell ⟨wr.heap.size, 2, none⟩ (.slice pu m.kids.length cu)) := ⟨_, rfl⟩ 
        rw [← hX] at hv ⊢ 
        clear hX 
        have HV := Lib.hid (HB.out.trans (hv.mono HB.out.size)) 
        have hjlt : j < (pathsN a).length := hlt 
        clear hv bb hcell n0 n1 n2 
        go_wp2 
        go_loopw [10] (fun z wx => ∃ i : Nat, i ≤ j ∧ z = .int .i64 i ∧ Hid (Below W2.heap.size W2 wx)) (fun z _ => j - (intOf z).toNat) 
        case atStart => exact ⟨0, Nat.zero_le _, rfl, HV⟩ 
        case round => 
          obtain ⟨i, hi, rfl, HI⟩ := hrel 
          by_cases hij : i < j 
          · have hilt : i < (pathsN a).length := Nat.lt_trans hij hjlt 
            have hxi := List.getElem?_eq_getElem hilt 
            obtain ⟨q2, c2, hc2, hi2⟩ := (HP.out.stays HI.out).at hxi 
            obtain ⟨q3, c3, hc3, hi3⟩ := (HP.out.stays HI.out).at HX.out 
            have hne : zs pj ≠ zs (pathsN a)[i] := fun e => by 
              have e1 := zs_inj e 
              have h1 := HX.out 
              rw [e1] at h1 
              have h2 := (List.getElem?_inj hjlt (paths_nodup a)).1 (h1.trans hxi.symm) 
              omega 
            have hpl2 : pj.length ≤ 1000000000 := by have := path_len HX.out; have := OA.out.count; omega 
            generalize (pathsN a)[i] = pi at * 
            have HXI := Lib.hid hxi 
            clear hxi 
            by_cases hlen : pi.length = pj.length 
            · rw [hlen] at hc2 hi2 
              have ec := equal_paths (zs pj) (zs pi) q3 q2 c3 c2 
              rw [zs_length, zs_length] at ec 
              have q18 := fun U (h : Below wr.heap.size wr U) => ec U _ _ (hi3.stays h) (hi2.stays h) hlen.symm hpl2 hne 
              have show1 : ∀ U, Below wr.heap.size wr U → (U.cell? ⟨g, j, none⟩ = some (.slice q3 pj.length c3) ∧ U.cell? ⟨g, i, none⟩ = some (.slice q2 pj.length c2) ∧ Below wr.heap.size wr U) := fun U h => ⟨(h.cell (p := ⟨g, j, none⟩) (World.block_lt_of_cell? _ _ hc3)).trans hc3, (h.cell (p := ⟨g, i, none⟩) (World.block_lt_of_cell? _ _ hc2)).trans hc2, h⟩ 
              have SHOW2 := Lib.hid show1 
              have HBel2 := Lib.hid (Below.refl wr.heap.size wr) 
              have Q18 := Lib.hid q18 
              clear show1 q18 ec hi2 hi3 hne hlen 
              go_wp2 
              go_region_held3 (fun w' => (w'.cell? ⟨g, j, none⟩ = some (.slice q3 pj.length c3) ∧ w'.cell? ⟨g, i, none⟩ = some (.slice q2 pj.length c2) ∧ Below wr.heap.size wr w')) (first | exact SHOW2.out _ HBel2.out.drew | assumption | (refine SHOW2.out _ ?_; assumption)) 
                (first 
                  | (go_at_call 18; with_reducible refine (Q18.out _ (And.right (And.right (by assumption)))).mono ?_; rintro _ U3 ⟨rfl, bu⟩; have bb := Below.trans (And.right (And.right (by assumption))) (bu.mono (Below.size (And.right (And.right (by assumption))))); clear bu)) 
              have HF := Lib.hid (HI.out.trans (Below.mono (show Below wr.heap.size wr _ by assumption) HI.out.size)) 
              go_wp2 
              go_roundw 
              case rel => exact ⟨i + 1, by omega, by go_num, HF⟩ 
              case measure => simp [intOf]; omega 
            · have y1 : ((pj.length : Int) == (pi.length : Int)) = false := by rw [beq_eq_false_iff_ne]; omega 
              have HDR := Lib.hid (fun k => HI.out.trans (c := wr.drewN k) ⟨rfl, rfl, rfl, Nat.le_refl _, fun _ _ => rfl⟩) 
              clear hne hi2 hi3 hlen 
              go_wp2 
              go_quiet (fail) 
              go_wp2 
              go_roundw 
              case rel => exact ⟨i + 1, by omega, by go_num, Lib.hid (HDR.out _)⟩ 
              case measure => simp [intOf]; omega 
          · obtain rfl : i = j := by omega 
            go_wp2 
            go_roundw 
            case rel => exact ⟨i + 1, by omega, by go_num, HI⟩ 
            case measure => simp [intOf]; omega
    · obtain rfl : j = (pathsN a).length := by omega
      have y1 : (((pathsN a).length : Int) == 0) = false := by rw [beq_eq_false_iff_ne]; omega
      have TX := Lib.hid (T2.out.stays HB.out)
      have BX := Lib.hid (B2.out.trans (HB.out.mono B2.out.size))
      have HPX := Lib.hid (HP.out.stays HB.out)
      clear hlt hj HB n0 n1 n2
      obtain ⟨r, hr, hrl⟩ : ∃ r : Nat, k % ((pathsN a).length : Int) = (r : Int) ∧ r < (pathsN a).length := by
        have e1 := Int.emod_nonneg k (b := ((pathsN a).length : Int)) (by omega)
        have e2 := Int.emod_lt_of_pos k (b := ((pathsN a).length : Int)) (by omega)
        exact ⟨(k % ((pathsN a).length : Int)).toNat, by omega, by omega⟩
      have hx := List.getElem?_eq_getElem hrl
      obtain ⟨q, qc, hcell, hints⟩ := HPX.out.at hx
      obtain ⟨m, hm⟩ := paths_at a _ (List.getElem_mem hrl)
      have hpl2 : (pathsN a)[r].length ≤ 32 := Nat.le_trans (path_len hx) OA.out.count
      have hcn : countN a ≤ 1000000000 := by have := OA.out.count; omega
      have c1 := at_calls a _ _ _ wr _ _ TX.out.kids hints hcn
      rw [hm] at c1
      unfold nodeV at c1
      obtain ⟨n0, n1, n2⟩ := TX.out.box.cells
      have C1 := Lib.hid c1
      have HI := Lib.hid hints
      have HM := Lib.hid hm
      clear c1 hints hm hx
      generalize (pathsN a)[r] = pr at *
      go_upto_region 18 with (go_at_call 17; refine C1.out.mono ?_; rintro _ V ⟨u, rfl, ku, bl⟩; obtain ⟨pu, cu, rfl, lu⟩ := ku.shape; simp only [nodeV, Option.getD, Option.isSome] at ku ⊢; have KU := Lib.hid ku; have BL := Lib.hid bl; clear ku bl)
      obtain ⟨tx, bx, zx⟩ := treeBox_new KU.out BL.out
      generalize V.alloc (.cells #[.int .i64 m.kind, .string m.text, .slice pu m.kids.length cu] 25) = W5 at *
      generalize V.heap.size = X at *
      have TA := Lib.hid (TX.out.stays bx)
      have BW := Lib.hid (BX.out.trans (bx.mono BX.out.size))
      have HP5 := Lib.hid (HI.out.stays bx)
      have TXx := Lib.hid tx
      clear TX BX HI bx tx zx KU BL C1 n0 n1 n2 HPX hcell lu
      obtain ⟨i0, hi, hz0, hz1, hz2⟩ := info_parts int_info
      have hcell : ∀ (ad : Addr), q = some ad → ∀ (j : Nat) (u : Value), (intC (zs pr))[j]? = some u → W5.cell? (ad.add j) = some u := fun ad e j u hu => by
        subst e
        unfold intC at hu
        rw [List.getElem?_map, Option.map_eq_some_iff] at hu
        obtain ⟨x, hxj, rfl⟩ := hu
        obtain ⟨b, o, e, -, hc⟩ := HP5.out.at hxj
        cases e
        rwa [show (⟨b, o, none⟩ : Addr).add j = ⟨b, o + j, none⟩ by unfold Addr.add; split <;> simp_all]
      have HC := Lib.hid hcell
      have hnil : q = none → pr = [] := fun e => by
        cases pr with
        | nil => rfl
        | cons x r =>
          obtain ⟨b, o, e2, -, -⟩ := HP5.out.at (i := 0) (x := (x : Int)) rfl
          rw [e] at e2; cases e2
      have HO0 := Lib.hid (World.ownsRow_nil W5 W5.heap.size 3 1)
      clear hcell
      cases q with
      | none =>
        have hpr := hnil rfl
        have hlen0 : pr.length = 0 := by rw [hpr]; rfl
        have HO6 : Hid (W5.ownsRow W5.heap.size 3 1 (.slice none 0 0) pr.length (intC (zs pr))) := Lib.hid (by rw [hpr]; exact World.ownsRow_nil _ _ _ _)
        have HB6 := Lib.hid (Below.refl W5.heap.size W5)
        clear hnil hpr
        go_upto_region 20 with (fail)
        clear hlen0
        have TX6 := TXx.out.stays HB6.out 
        obtain ⟨x0, x1, x2⟩ := TX6.box.cells 
        have al6 := (Below.refl W5.heap.size W5).alloc (Nat.le_refl _) (.cells #[.int .i64 (m.kids.length : Int)] 3) 
        obtain ⟨x0', x1', x2'⟩ := (TX6.stays al6).box.cells 
        have hnw := new_cells W5 [.int .i64 (m.kids.length : Int)] 3 
        have HN6 := Lib.hid hnw 
        have AL6 := Lib.hid al6 
        have HO6' := Lib.hid (HO6.out.alloc (.cells #[.int .i64 (m.kids.length : Int)] 3)) 
        clear hnw al6 TX6 
        have z6 : (0 : Int) ≤ (m.kids.length : Int) := by omega 
        go_upto_region 21 with (at_builtin; refine wpList_append_O _ rfl _ _ 37 rfl W5.heap.size 3 i0 _ 1 8 ints_und hi hz0 hz1 hz2 rfl (by decide) _ pr.length _ rfl HO6'.out ⟨W5.heap.size, 0, none⟩ 1 1 [.int .i64 (m.kids.length : Int)] rfl rfl HN6.out (by intro u hu; simp at hu; subst hu; rfl) (by simp only [maxLen]; omega) (by omega) (Nat.le_trans HB6.out.size AL6.out.size) ?_; intro v7 w7 hown hkeep hblk _; obtain ⟨p7, c7, rfl, -⟩ := row_shape' hown; have HO7 := Lib.hid hown; have HB7 := Lib.hid ((HB6.out.trans (AL6.out.mono HB6.out.size)).trans (hkeep.below (Nat.le_trans HB6.out.size AL6.out.size) fun b hb => (HO6'.out.lt b hb.symm).1)); clear hown hkeep hblk) 
        have e7 : intC (zs pr) ++ [.int .i64 (m.kids.length : Int)] = intC (zs pr ++ [(m.kids.length : Int)]) := by unfold intC; simp 
        have l7 : pr.length + 1 = (zs pr ++ [(m.kids.length : Int)]).length := by rw [List.length_append, zs_length]; rfl 
        have o7 := HO7.out 
        rw [e7, l7] at o7 
        have I7 := IntsAt.of_own (S := fun _ => True) o7 (by rw [← l7]; omega) (fun _ _ => trivial) 
        rw [← l7] at I7 
        obtain ⟨b1, b2⟩ := at_beyond (zs pr) a m HM.out a 
        have TA7 := TA.out.stays HB7.out 
        have c21 := at_calls a _ _ _ w7 _ _ TA7.kids I7 hcn 
        rw [b1] at c21 
        unfold nodeV at c21 
        obtain ⟨n0, n1, n2⟩ := TA7.box.cells 
        have C21 := Lib.hid c21 
        have I7' := Lib.hid I7 
        clear c21 I7 o7 e7 l7 x0 x1 x2 x0' x1' x2' b1 HO7 HO6' AL6 HN6 
        go_upto_region 22 with (go_at_call 17; refine C21.out.mono ?_; rintro _ V8 ⟨u, rfl, ku, bl⟩; obtain ⟨p8, c8, rfl, l8⟩ := ku.shape; simp only [nodeV, zeroN, NodeT.kids_mk, NodeT.kind_mk, NodeT.text_mk, Option.getD, Option.isSome, List.length_nil]; have BL := Lib.hid bl; clear ku bl l8) 
        have B8 := BL.out.alloc BL.out.size (.cells #[.int .i64 0, .string ⟨#[]⟩, .slice p8 0 c8] 25) 
        generalize V8.alloc (.cells #[.int .i64 0, .string ⟨#[]⟩, .slice p8 0 c8] 25) = W8 at * 
        generalize V8.heap.size = X8 at * 
        have HB8 := Lib.hid (HB7.out.trans (B8.mono HB7.out.size)) 
        have TA8 := TA.out.stays HB8.out 
        have c22 := with_calls a a _ _ _ _ W8 _ _ _ TA8.kids TA8.kids (I7'.out.stays B8) hcn hcn 
        rw [b2] at c22 
        unfold nodeV at c22 
        obtain ⟨n0, n1, n2⟩ := TA8.box.cells 
        have C22 := Lib.hid c22 
        clear c22 B8 b2 BL C21 I7' 
        go_upto_region 23 with (go_at_call 19; refine C22.out.mono ?_; rintro _ V9 ⟨u, rfl, ku, bl⟩; obtain ⟨p9, c9, rfl, l9⟩ := ku.shape; simp only [nodeV, zeroN, NodeT.kids_mk, NodeT.kind_mk, NodeT.text_mk, Option.getD, Option.isSome, List.length_nil]; have BL := Lib.hid bl; clear ku bl l9) 
        have B9 := BL.out.alloc BL.out.size (.cells #[.int .i64 0, .string ⟨#[]⟩, .slice p9 0 c9] 25) 
        generalize V9.alloc (.cells #[.int .i64 0, .string ⟨#[]⟩, .slice p9 0 c9] 25) = W9 at * 
        generalize V9.heap.size = X9 at * 
        have HB9 := Lib.hid (BW.out.trans ((HB8.out.trans (B9.mono HB8.out.size)).mono BW.out.size)) 
        have hT9 := HT.out.stays HB9.out 
        have K9 := Lib.hid (known_calls W9 hT9) 
        clear hT9 B9 
        go_wp2_with (go_at_call 11; refine K9.out.mono ?_; rintro _ V ⟨rfl, bu⟩; have BU := Lib.hid bu; clear bu) 
        go_ret 
        exact ⟨rfl, HB9.out.trans (BU.out.mono HB9.out.size)⟩
      | some ad =>
        clear hnil
        go_upto_region 20 with (at_builtin; refine wpList_append_O _ rfl _ _ 37 rfl W5.heap.size 3 i0 _ 1 8 ints_und hi hz0 hz1 hz2 rfl (by decide) _ 0 _ rfl HO0.out ad pr.length qc (intC (zs pr)) rfl (by unfold intC; rw [List.length_map, zs_length]; omega) (HC.out ad rfl) (by intro u hu; unfold intC at hu; obtain ⟨x, _, rfl⟩ := List.mem_map.1 hu; rfl) (by simp only [maxLen]; omega) (by omega) (Nat.le_refl _) ?_; intro v6 w6 hown hkeep hblk _; rw [Nat.zero_add, List.nil_append] at hown; have HO6 := Lib.hid hown; have HB6 := Lib.hid (hkeep.below (n := W5.heap.size) (Nat.le_refl _) (fun b hb => by cases hb)); clear hown hkeep hblk)
        obtain ⟨p6, c6, rfl, -⟩ := row_shape' HO6.out
        have TX6 := TXx.out.stays HB6.out 
        obtain ⟨x0, x1, x2⟩ := TX6.box.cells 
        have al6 := (Below.refl w6.heap.size w6).alloc (Nat.le_refl _) (.cells #[.int .i64 (m.kids.length : Int)] 3) 
        obtain ⟨x0', x1', x2'⟩ := (TX6.stays al6).box.cells 
        have hnw := new_cells w6 [.int .i64 (m.kids.length : Int)] 3 
        have HN6 := Lib.hid hnw 
        have AL6 := Lib.hid al6 
        have HO6' := Lib.hid (HO6.out.alloc (.cells #[.int .i64 (m.kids.length : Int)] 3)) 
        clear hnw al6 TX6 
        have z6 : (0 : Int) ≤ (m.kids.length : Int) := by omega 
        go_upto_region 21 with (at_builtin; refine wpList_append_O _ rfl _ _ 37 rfl W5.heap.size 3 i0 _ 1 8 ints_und hi hz0 hz1 hz2 rfl (by decide) _ pr.length _ rfl HO6'.out ⟨w6.heap.size, 0, none⟩ 1 1 [.int .i64 (m.kids.length : Int)] rfl rfl HN6.out (by intro u hu; simp at hu; subst hu; rfl) (by simp only [maxLen]; omega) (by omega) (Nat.le_trans HB6.out.size AL6.out.size) ?_; intro v7 w7 hown hkeep hblk _; obtain ⟨p7, c7, rfl, -⟩ := row_shape' hown; have HO7 := Lib.hid hown; have HB7 := Lib.hid ((HB6.out.trans (AL6.out.mono HB6.out.size)).trans (hkeep.below (Nat.le_trans HB6.out.size AL6.out.size) fun b hb => (HO6'.out.lt b hb.symm).1)); clear hown hkeep hblk) 
        have e7 : intC (zs pr) ++ [.int .i64 (m.kids.length : Int)] = intC (zs pr ++ [(m.kids.length : Int)]) := by unfold intC; simp 
        have l7 : pr.length + 1 = (zs pr ++ [(m.kids.length : Int)]).length := by rw [List.length_append, zs_length]; rfl 
        have o7 := HO7.out 
        rw [e7, l7] at o7 
        have I7 := IntsAt.of_own (S := fun _ => True) o7 (by rw [← l7]; omega) (fun _ _ => trivial) 
        rw [← l7] at I7 
        obtain ⟨b1, b2⟩ := at_beyond (zs pr) a m HM.out a 
        have TA7 := TA.out.stays HB7.out 
        have c21 := at_calls a _ _ _ w7 _ _ TA7.kids I7 hcn 
        rw [b1] at c21 
        unfold nodeV at c21 
        obtain ⟨n0, n1, n2⟩ := TA7.box.cells 
        have C21 := Lib.hid c21 
        have I7' := Lib.hid I7 
        clear c21 I7 o7 e7 l7 x0 x1 x2 x0' x1' x2' b1 HO7 HO6' AL6 HN6 
        go_upto_region 22 with (go_at_call 17; refine C21.out.mono ?_; rintro _ V8 ⟨u, rfl, ku, bl⟩; obtain ⟨p8, c8, rfl, l8⟩ := ku.shape; simp only [nodeV, zeroN, NodeT.kids_mk, NodeT.kind_mk, NodeT.text_mk, Option.getD, Option.isSome, List.length_nil]; have BL := Lib.hid bl; clear ku bl l8) 
        have B8 := BL.out.alloc BL.out.size (.cells #[.int .i64 0, .string ⟨#[]⟩, .slice p8 0 c8] 25) 
        generalize V8.alloc (.cells #[.int .i64 0, .string ⟨#[]⟩, .slice p8 0 c8] 25) = W8 at * 
        generalize V8.heap.size = X8 at * 
        have HB8 := Lib.hid (HB7.out.trans (B8.mono HB7.out.size)) 
        have TA8 := TA.out.stays HB8.out 
        have c22 := with_calls a a _ _ _ _ W8 _ _ _ TA8.kids TA8.kids (I7'.out.stays B8) hcn hcn 
        rw [b2] at c22 
        unfold nodeV at c22 
        obtain ⟨n0, n1, n2⟩ := TA8.box.cells 
        have C22 := Lib.hid c22 
        clear c22 B8 b2 BL C21 I7' 
        go_upto_region 23 with (go_at_call 19; refine C22.out.mono ?_; rintro _ V9 ⟨u, rfl, ku, bl⟩; obtain ⟨p9, c9, rfl, l9⟩ := ku.shape; simp only [nodeV, zeroN, NodeT.kids_mk, NodeT.kind_mk, NodeT.text_mk, Option.getD, Option.isSome, List.length_nil]; have BL := Lib.hid bl; clear ku bl l9) 
        have B9 := BL.out.alloc BL.out.size (.cells #[.int .i64 0, .string ⟨#[]⟩, .slice p9 0 c9] 25) 
        generalize V9.alloc (.cells #[.int .i64 0, .string ⟨#[]⟩, .slice p9 0 c9] 25) = W9 at * 
        generalize V9.heap.size = X9 at * 
        have HB9 := Lib.hid (BW.out.trans ((HB8.out.trans (B9.mono HB8.out.size)).mono BW.out.size)) 
        have hT9 := HT.out.stays HB9.out 
        have K9 := Lib.hid (known_calls W9 hT9) 
        clear hT9 B9 
        go_wp2_with (go_at_call 11; refine K9.out.mono ?_; rintro _ V ⟨rfl, bu⟩; have BU := Lib.hid bu; clear bu) 
        go_ret 
        exact ⟨rfl, HB9.out.trans (BU.out.mono HB9.out.size)⟩
end Go.Proofs.YtigpffbhkopjeaaDoor
