/- NodeJoin. Its condition: the lists lie in memory; the tables that Go's library reads. -/
import Derived.Test.YtigpffbhkopjeaaDoorNd25
import Derived.Deep.Cut
import Derived.Deep.RegionHeld3
namespace Go.Proofs.YtigpffbhkopjeaaDoor
open Go.RowKit Go.Sub Go.Sort

theorem pair_box {W : World} {a b : NodeT} {ua ub : Value} {k : Int} {t : ByteArray} (ha : KidsAt W (fun _ => True) ua a.kids) (hb : KidsAt W (fun _ => True) ub b.kids) :
    let W' := (W.alloc (.cells #[.int .i64 a.kind, .string a.text, ua, .int .i64 b.kind, .string b.text, ub] 25)).alloc (.cells #[.int .i64 k, .string t, .slice (some ⟨W.heap.size, 0, none⟩) 2 2] 25)
    TreeBox W' (W.heap.size + 1) (.mk k t [a, b]) (.slice (some ⟨W.heap.size, 0, none⟩) 2 2) ∧ Below W.heap.size W W' := by
  have h1 := (Below.refl W.heap.size W).alloc (Nat.le_refl _) (.cells #[.int .i64 a.kind, .string a.text, ua, .int .i64 b.kind, .string b.text, ub] 25)
  have h2 := h1.alloc (by simp) (.cells #[.int .i64 k, .string t, .slice (some ⟨W.heap.size, 0, none⟩) 2 2] 25)
  have hn : (W.alloc (.cells #[.int .i64 a.kind, .string a.text, ua, .int .i64 b.kind, .string b.text, ub] 25)).heap[W.heap.size]? = _ := World.alloc_heap_new W _
  have hn2 := ((Below.refl (W.heap.size + 1) (W.alloc (.cells #[.int .i64 a.kind, .string a.text, ua, .int .i64 b.kind, .string b.text, ub] 25))).alloc (by simp) (.cells #[.int .i64 k, .string t, .slice (some ⟨W.heap.size, 0, none⟩) 2 2] 25)).block W.heap.size (by omega) |>.trans hn
  refine ⟨⟨?_, ?_⟩, h2⟩
  · have := nbox_new (W.alloc (.cells #[.int .i64 a.kind, .string a.text, ua, .int .i64 b.kind, .string b.text, ub] 25)) 25 k t (.slice (some ⟨W.heap.size, 0, none⟩) 2 2)
    rw [show (W.alloc (.cells #[.int .i64 a.kind, .string a.text, ua, .int .i64 b.kind, .string b.text, ub] 25)).heap.size = W.heap.size + 1 by simp] at this
    exact this
  · refine .mk _ 2 [a, b] W.heap.size 0 (fun i => if i = 0 then ua else ub) (fun _ => ⟨rfl, trivial⟩) (by simp) (fun i x hx => ?_) (fun i x hx => ?_)
    · match i, hx with
      | 0, hx => simp at hx; subst hx; exact ⟨cell_of_block hn2 rfl, cell_of_block hn2 rfl, cell_of_block hn2 rfl⟩
      | 1, hx => simp at hx; subst hx; exact ⟨cell_of_block hn2 rfl, cell_of_block hn2 rfl, cell_of_block hn2 rfl⟩
      | i + 2, hx => simp at hx
    · match i, hx with
      | 0, hx => simp at hx; subst hx; exact ha.stays h2
      | 1, hx => simp at hx; subst hx; exact hb.stays h2
      | i + 2, hx => simp at hx
theorem wide_mk {k : Int} {t : ByteArray} {l : List NodeT} (hk : inI64 k) (hl : ∀ x ∈ l, WideN x) : WideN (.mk k t l) := by
  intro p m hm
  cases p with
  | nil => rw [atN_nil] at hm; cases hm; exact hk
  | cons i p =>
    rw [atN_cons] at hm
    split at hm
    · obtain ⟨x, hx, hm⟩ := Option.bind_eq_some_iff.1 hm
      exact hl x (List.mem_of_getElem? hx) p m hm
    · cases hm
/-- the text of a leaf, and of one with two kids -/
theorem show_pair (k : Int) (t : ByteArray) (a b : NodeT) : showN quoteL (.mk k t [a, b]) = (showN quoteL (.mk k t [])).take ((showN quoteL (.mk k t [])).length - 1) ++ showN quoteL a ++ showN quoteL b ++ [41] := by
  have e : showN quoteL (.mk k t []) = (40 :: (Lib.itoa k ++ 32 :: quoteL t)) ++ [41] := by rw [showN_eq]; simp [showL]
  rw [e, List.length_append, List.length_singleton, Nat.add_sub_cancel, List.take_left', showN_eq]
  · simp [showL]
  · rfl
set_option maxRecDepth 100000 in
set_option maxHeartbeats 2000000 in
theorem join_core (c d : List UInt8) (v0 v1 : Value) (k : Int) (hk0 : 0 ≤ k) (hk1 : k ≤ 255) (w : World) (h0 : BytesRow w v0 c) (h1 : BytesRow w v1 d) (hT : Tabs w) :
    Calls Tryd.prog 3 #[v0, v1, .int .u8 k] w fun e w' => e = .returned (.bool true) ∧ Below w.heap.size w w' := by
  obtain ⟨a, ha⟩ : ∃ a, a = treeN c := ⟨_, rfl⟩
  obtain ⟨b, hb⟩ : ∃ b, b = treeN d := ⟨_, rfl⟩
  have oa : TreeOf a := ha ▸ treeOf c
  have ob : TreeOf b := hb ▸ treeOf d
  have Ha := Lib.hid ha
  have Hb := Lib.hid hb
  clear ha hb
  have wk : IntKind.i64.wrap k = k := IntWalk.i64_in _ (by omega)
  go_enter Tryd.func3, Tryd.ntmps3
  have tc := Lib.hid (tree_told c v0 w h0 a Ha.out) 
  go_upto_region 2 with (go_at_call 9; refine tc.out.mono ?_; rintro _ V1 ⟨pa, ca, rfl, ku, bl⟩) 
  obtain ⟨tb, bb, zz⟩ := treeBox_new ku.out bl.out 
  clear tc ku bl
  generalize V1.alloc (.cells #[.int .i64 a.kind, .string a.text, .slice pa a.kids.length ca] 25) = W1 at *
  generalize V1.heap.size = A at *
  have h1' := h1.stays bb
  have HT := Lib.hid (hT.stays bb)
  have B1 := Lib.hid bb
  have T1 := Lib.hid tb
  clear hT bb tb zz h0 h1
  have tc := Lib.hid (tree_told d v1 W1 h1' b Hb.out) 
  go_upto_region 3 with (go_at_call 9; refine tc.out.mono ?_; rintro _ V2 ⟨pb, cb, rfl, ku, bl⟩) 
  obtain ⟨tb, bb, zz⟩ := treeBox_new ku.out bl.out 
  clear tc ku bl
  generalize V2.alloc (.cells #[.int .i64 b.kind, .string b.text, .slice pb b.kids.length cb] 25) = W2 at *
  generalize V2.heap.size = B at *
  have T1' := T1.out.stays bb
  have HT' := HT.out.stays bb
  have B2 := B1.out.trans (bb.mono B1.out.size)
  clear zz h1' T1 HT B1 bb
  obtain ⟨n0, n1, n2⟩ := T1'.box.cells
  obtain ⟨m0, m1, m2⟩ := tb.box.cells
  have T1 := Lib.hid T1'
  have T2 := Lib.hid tb
  have HT := Lib.hid HT'
  have B1 := Lib.hid B2
  have OA := Lib.hid oa
  have OB := Lib.hid ob
  clear T1' tb HT' B2 oa ob
  go_upto_region 4 with (fail)
  obtain ⟨tn, bn⟩ := pair_box (k := k) (t := ⟨#[116]⟩) T1.out.kids T2.out.kids
  have z3 : ((W2.alloc (.cells #[.int .i64 a.kind, .string a.text, .slice pa a.kids.length ca, .int .i64 b.kind, .string b.text, .slice pb b.kids.length cb] 25)).alloc (.cells #[.int .i64 k, .string ⟨#[116]⟩, .slice (some ⟨W2.heap.size, 0, none⟩) 2 2] 25)).heap.size = W2.heap.size + 2 := by simp
  generalize (W2.alloc (.cells #[.int .i64 a.kind, .string a.text, .slice pa a.kids.length ca, .int .i64 b.kind, .string b.text, .slice pb b.kids.length cb] 25)).alloc (.cells #[.int .i64 k, .string ⟨#[116]⟩, .slice (some ⟨W2.heap.size, 0, none⟩) 2 2] 25) = W3 at *
  have T1' := T1.out.stays bn
  have T2' := T2.out.stays bn
  have HT' := HT.out.stays bn
  have B2 := B1.out.trans (bn.mono B1.out.size)
  clear n0 n1 n2 m0 m1 m2 T1 T2 HT B1 bn z3
  generalize W2.heap.size = g at *
  have wn : WideN (.mk k ⟨#[116]⟩ [a, b]) := wide_mk ⟨by omega, by omega⟩ (fun x hx => by
    simp only [List.mem_cons, List.not_mem_nil, or_false] at hx
    rcases hx with rfl | rfl
    · exact OA.out.wide
    · exact OB.out.wide)
  have wl : WideN (.mk k ⟨#[116]⟩ []) := wide_mk ⟨by omega, by omega⟩ (fun x hx => by cases hx)
  have ww : weightN (.mk k ⟨#[116]⟩ [a, b]) ≤ 1000 := by
    have := OA.out.weight; have := OB.out.weight
    simp only [weightN, weightL, ByteArray.size, List.size_toArray, List.length_cons, List.length_nil]; omega
  have cn : countN (.mk k ⟨#[116]⟩ [a, b]) = countN a + countN b + 1 := by simp only [countN, countL]; omega
  have dn : deepN (.mk k ⟨#[116]⟩ [a, b]) = max (deepN a) (deepN b) + 1 := by simp only [deepN, deepL]; omega
  obtain ⟨s0, hs0⟩ : ∃ s : ByteArray, s = ⟨(showN quoteL (.mk k ⟨#[116]⟩ [])).toArray⟩ := ⟨_, rfl⟩
  have q0 : Calls Tryd.prog 10 #[.agg #[.int .i64 k, .string ⟨#[116]⟩, .slice none 0 0]] W3 fun e w' => e = .returned (.string s0) ∧ Below W3.heap.size W3 w' := hs0 ▸ nshow_calls (.mk k ⟨#[116]⟩ []) (.slice none 0 0) W3 (fun _ => True) (.nil _ _) wl (by simp [weightN, weightL, ByteArray.size]) HT'
  have HT := Lib.hid HT'
  have Q0 := Lib.hid q0
  have Tn := Lib.hid tn
  have T1 := Lib.hid T1'
  have T2 := Lib.hid T2'
  have WN := Lib.hid wn
  have WL := Lib.hid wl
  have B1 := Lib.hid B2
  have CN := Lib.hid cn
  have DN := Lib.hid dn
  have WW := Lib.hid ww
  have HS0 := Lib.hid hs0
  clear q0 tn T1' T2' HT' wn wl B2 cn dn ww hs0
  go_upto_region 5 with (go_at_call 10; refine Q0.out.mono ?_; rintro _ W4 ⟨rfl, bl⟩; have BL := Lib.hid bl; clear bl)
  have hT1 := T1.out.stays BL.out
  have hT2 := T2.out.stays BL.out
  have hTn := Tn.out.stays BL.out
  have hT0 := HT.out.stays BL.out
  have hbel := Below.refl W4.heap.size W4
  obtain ⟨xa, hxa⟩ : ∃ x, x = countN a := ⟨_, rfl⟩
  obtain ⟨xb, hxb⟩ : ∃ x, x = countN b := ⟨_, rfl⟩
  obtain ⟨da, hda⟩ : ∃ x, x = deepN a := ⟨_, rfl⟩
  obtain ⟨db, hdb⟩ : ∃ x, x = deepN b := ⟨_, rfl⟩
  obtain ⟨sn, hsn⟩ : ∃ s : ByteArray, s = ⟨(showN quoteL (.mk k ⟨#[116]⟩ [a, b])).toArray⟩ := ⟨_, rfl⟩
  obtain ⟨sa, hsa⟩ : ∃ s : ByteArray, s = ⟨(showN quoteL a).toArray⟩ := ⟨_, rfl⟩
  obtain ⟨sb, hsb⟩ : ∃ s : ByteArray, s = ⟨(showN quoteL b).toArray⟩ := ⟨_, rfl⟩
  have xal : xa ≤ 32 := by rw [hxa]; exact OA.out.count
  have xbl : xb ≤ 32 := by rw [hxb]; exact OB.out.count
  have dal : da ≤ 32 := by rw [hda]; exact Nat.le_trans (deep_le_count a) OA.out.count
  have dbl : db ≤ 32 := by rw [hdb]; exact Nat.le_trans (deep_le_count b) OB.out.count
  have q11 := fun U (h : Below W4.heap.size W4 U) => known_calls U (hT0.stays h)
  have q12n : ∀ U (h : Below W4.heap.size W4 U), Calls Tryd.prog 12 #[.agg #[.int .i64 k, .string ⟨#[116]⟩, .slice (some ⟨g, 0, none⟩) 2 2]] U fun e w' => e = .returned (.int .i64 ((xa : Int) + (xb : Int) + 1)) ∧ Below U.heap.size U w' := fun U h => by
    have := ncount_calls (.mk k ⟨#[116]⟩ [a, b]) _ U _ (hTn.kids.stays h) (by have := OA.out.count; have := OB.out.count; have := CN.out; omega)
    rwa [CN.out, ← hxa, ← hxb, show (((xa + xb + 1 : Nat)) : Int) = (xa : Int) + (xb : Int) + 1 by omega] at this
  have q13n : ∀ U (h : Below W4.heap.size W4 U), Calls Tryd.prog 13 #[.agg #[.int .i64 k, .string ⟨#[116]⟩, .slice (some ⟨g, 0, none⟩) 2 2]] U fun e w' => e = .returned (.int .i64 (max (da : Int) (db : Int) + 1)) ∧ Below U.heap.size U w' := fun U h => by
    have := ndeep_calls (.mk k ⟨#[116]⟩ [a, b]) _ U _ (hTn.kids.stays h) (by have := OA.out.count; have := OB.out.count; have := CN.out; omega)
    rwa [DN.out, ← hda, ← hdb, show (((max da db + 1 : Nat)) : Int) = max (da : Int) (db : Int) + 1 by omega] at this
  have q10n : ∀ U (h : Below W4.heap.size W4 U), Calls Tryd.prog 10 #[.agg #[.int .i64 k, .string ⟨#[116]⟩, .slice (some ⟨g, 0, none⟩) 2 2]] U fun e w' => e = .returned (.string sn) ∧ Below U.heap.size U w' := fun U h => hsn ▸ nshow_calls (.mk k ⟨#[116]⟩ [a, b]) _ U _ (hTn.kids.stays h) WN.out (by have := WW.out; omega) (hT0.stays h)
  have q12a : ∀ U (h : Below W4.heap.size W4 U), Calls Tryd.prog 12 #[.agg #[.int .i64 a.kind, .string a.text, .slice pa a.kids.length ca]] U fun e w' => e = .returned (.int .i64 (xa : Int)) ∧ Below U.heap.size U w' := fun U h => by
    have := ncount_calls a _ U _ (hT1.kids.stays h) (by have := OA.out.count; omega)
    rwa [← hxa] at this
  have q13a : ∀ U (h : Below W4.heap.size W4 U), Calls Tryd.prog 13 #[.agg #[.int .i64 a.kind, .string a.text, .slice pa a.kids.length ca]] U fun e w' => e = .returned (.int .i64 (da : Int)) ∧ Below U.heap.size U w' := fun U h => by
    have := ndeep_calls a _ U _ (hT1.kids.stays h) (by have := OA.out.count; omega)
    rwa [← hda] at this
  have q10a : ∀ U (h : Below W4.heap.size W4 U), Calls Tryd.prog 10 #[.agg #[.int .i64 a.kind, .string a.text, .slice pa a.kids.length ca]] U fun e w' => e = .returned (.string sa) ∧ Below U.heap.size U w' := fun U h => hsa ▸ nshow_calls a _ U _ (hT1.kids.stays h) OA.out.wide (by have := OA.out.weight; omega) (hT0.stays h)
  have q12b : ∀ U (h : Below W4.heap.size W4 U), Calls Tryd.prog 12 #[.agg #[.int .i64 b.kind, .string b.text, .slice pb b.kids.length cb]] U fun e w' => e = .returned (.int .i64 (xb : Int)) ∧ Below U.heap.size U w' := fun U h => by
    have := ncount_calls b _ U _ (hT2.kids.stays h) (by have := OB.out.count; omega)
    rwa [← hxb] at this
  have q13b : ∀ U (h : Below W4.heap.size W4 U), Calls Tryd.prog 13 #[.agg #[.int .i64 b.kind, .string b.text, .slice pb b.kids.length cb]] U fun e w' => e = .returned (.int .i64 (db : Int)) ∧ Below U.heap.size U w' := fun U h => by
    have := ndeep_calls b _ U _ (hT2.kids.stays h) (by have := OB.out.count; omega)
    rwa [← hdb] at this
  have q10b : ∀ U (h : Below W4.heap.size W4 U), Calls Tryd.prog 10 #[.agg #[.int .i64 b.kind, .string b.text, .slice pb b.kids.length cb]] U fun e w' => e = .returned (.string sb) ∧ Below U.heap.size U w' := fun U h => hsb ▸ nshow_calls b _ U _ (hT2.kids.stays h) OB.out.wide (by have := OB.out.weight; omega) (hT0.stays h)
  have q15 : ∀ U (h : Below W4.heap.size W4 U), Calls Tryd.prog 15 #[.agg #[.int .i64 k, .string ⟨#[116]⟩, .slice (some ⟨g, 0, none⟩) 2 2]] U fun e w' => ∃ pu cu, e = .returned (.agg #[.int .i64 k, .string ⟨#[116]⟩, .slice pu 2 cu]) ∧ Hid (KidsAt w' (fun _ => True) (.slice pu 2 cu) [a, b]) ∧ Hid (Below U.heap.size U w') := fun U h => by
    refine (copy_calls (.mk k ⟨#[116]⟩ [a, b]) _ U _ (hTn.kids.stays h) (by have := OA.out.count; have := OB.out.count; have := CN.out; omega)).mono ?_
    rintro _ V ⟨u, rfl, ku, bu⟩
    obtain ⟨pu, cu, rfl, _⟩ := ku.at.shape
    exact ⟨pu, cu, rfl, Lib.hid (ku.at.mono fun _ _ => trivial), Lib.hid bu⟩
  have q14 : ∀ U pu cu (_ : Below W4.heap.size W4 U) (_ : Hid (KidsAt U (fun _ => True) (.slice pu 2 cu) [a, b])), Calls Tryd.prog 14 #[.agg #[.int .i64 k, .string ⟨#[116]⟩, .slice pu 2 cu], .agg #[.int .i64 k, .string ⟨#[116]⟩, .slice (some ⟨g, 0, none⟩) 2 2]] U fun e w' => e = .returned (.bool true) ∧ Below U.heap.size U w' := fun U pu cu h hk => by
    have := same_calls (.mk k ⟨#[116]⟩ [a, b]) (.mk k ⟨#[116]⟩ [a, b]) _ _ U _ _ hk.out (hTn.kids.stays h)
    rwa [(eqN_iff _ _).2 rfl] at this
  have w1 : IntKind.i64.wrap ((xa : Int) + (xb : Int)) = (xa : Int) + (xb : Int) := IntWalk.i64_in _ (by omega)
  have w2 : IntKind.i64.wrap ((xa : Int) + (xb : Int) + 1) = (xa : Int) + (xb : Int) + 1 := IntWalk.i64_in _ (by omega)
  have w3 : IntKind.i64.wrap (max (da : Int) (db : Int) + 1) = max (da : Int) (db : Int) + 1 := IntWalk.i64_in _ (by omega)
  have hcat := show_pair k ⟨#[116]⟩ a b
  have z0 : 1 ≤ s0.size := by rw [HS0.out, showN_eq]; simp [ByteArray.size]
  obtain ⟨m, hm⟩ : ∃ m, s0.size = m + 1 := ⟨s0.size - 1, by omega⟩
  have l0 : s0.size ≤ 52 := by
    have := show_len _ WL.out
    rw [HS0.out]; simp only [weightN, weightL, ByteArray.size, List.size_toArray, List.length_cons, List.length_nil] at this ⊢; omega
  have la : sa.size ≤ 4160 := by have := show_len a OA.out.wide; have := OA.out.weight; rw [hsa]; simp only [ByteArray.size, List.size_toArray]; omega
  have lb : sb.size ≤ 4160 := by have := show_len b OB.out.wide; have := OB.out.weight; rw [hsb]; simp only [ByteArray.size, List.size_toArray]; omega
  have hml : m ≤ 1000000 := by omega
  have hcat2 : ((s0.extract 0 m ++ sa) ++ sb) ++ ⟨#[41]⟩ = sn := by
    apply bytes_eq
    rw [hsn, hcat, hsa, hsb]
    rw [ByteArray.toList_eq, ByteArray.toList_eq]
    simp only [ByteArray.data_append, Array.toList_append, Lib.extract_data]
    have hm1 : (showN quoteL (.mk k ⟨#[116]⟩ [])).length - 1 = m := by have := hm; rw [HS0.out] at this; simp only [ByteArray.size, List.size_toArray] at this; omega
    rw [hm1, HS0.out]
    simp
  obtain ⟨E, hE⟩ : ∃ E, s0.extract 0 m = E := ⟨_, rfl⟩
  obtain ⟨F, hF⟩ : ∃ F, E ++ sa = F := ⟨_, rfl⟩
  obtain ⟨G, hG⟩ : ∃ G, F ++ sb = G := ⟨_, rfl⟩
  rw [hE, hF, hG] at hcat2
  have lE : E.size ≤ 52 := by rw [← hE, ByteArray.size_extract]; omega
  have lF : F.size ≤ 4212 := by rw [← hF, ByteArray.size_append]; omega
  have lG : G.size ≤ 8372 := by rw [← hG, ByteArray.size_append]; omega
  have x1 : (9223372036854775807 < E.size + sa.size) = False := by rw [eq_iff_iff, iff_false]; omega
  have x2 : (9223372036854775807 < F.size + sb.size) = False := by rw [eq_iff_iff, iff_false]; omega
  have x3 : (9223372036854775807 < G.size + (⟨#[41]⟩ : ByteArray).size) = False := by rw [eq_iff_iff, iff_false]; show ¬ (9223372036854775807 < G.size + 1); omega
  have x4 : (9223372036854775807 < G.size + 1) = False := by rw [eq_iff_iff, iff_false]; omega
  clear l0 la lb lE lF lG
  have y0 : (0 : Int) ≤ (m : Int) := by omega
  have y1 : ((m : Int) + 1 == 0) = false := by rw [beq_eq_false_iff_ne]; omega
  have y2 : IntKind.i64.wrap ((m : Int) + 1 - 1) = (m : Int) := by rw [IntWalk.i64_in _ (by omega)]; omega
  have y4 : IntKind.i64.wrap (m : Int) = (m : Int) := IntWalk.i64_in _ (by omega)
  have y3 : (m : Int) ≤ (m : Int) + 1 := by omega
  clear z0
  obtain ⟨m0, m1, m2⟩ := hT1.box.cells
  obtain ⟨k0, k1, k2⟩ := hT2.box.cells
  obtain ⟨j0, j1, j2⟩ := hTn.box.cells
  have show1 : ∀ U, Below W4.heap.size W4 U → (U.cell? ⟨A, 0, none⟩ = some (.int .i64 a.kind) ∧ U.cell? ⟨A, 1, none⟩ = some (.string a.text) ∧ U.cell? ⟨A, 2, none⟩ = some (.slice pa a.kids.length ca)) ∧ (U.cell? ⟨B, 0, none⟩ = some (.int .i64 b.kind) ∧ U.cell? ⟨B, 1, none⟩ = some (.string b.text) ∧ U.cell? ⟨B, 2, none⟩ = some (.slice pb b.kids.length cb)) ∧ (U.cell? ⟨(g + 1), 0, none⟩ = some (.int .i64 k) ∧ U.cell? ⟨(g + 1), 1, none⟩ = some (.string ⟨#[116]⟩) ∧ U.cell? ⟨(g + 1), 2, none⟩ = some (.slice (some ⟨g, 0, none⟩) 2 2)) ∧ Below W4.heap.size W4 U := fun U h => ⟨(hT1.box.stays h).cells, (hT2.box.stays h).cells, (hTn.box.stays h).cells, h⟩
  have SHOW := Lib.hid show1
  have HBel := Lib.hid hbel
  have Q11 := Lib.hid q11
  have Q15 := Lib.hid q15
  have Q14 := Lib.hid q14
  have Q12n := Lib.hid q12n
  have Q12a := Lib.hid q12a
  have Q12b := Lib.hid q12b
  have Q13n := Lib.hid q13n
  have Q13a := Lib.hid q13a
  have Q13b := Lib.hid q13b
  have Q10n := Lib.hid q10n
  have Q10a := Lib.hid q10a
  have Q10b := Lib.hid q10b
  clear show1 q11 q15 q14 q12n q12a q12b q13n q13a q13b q10n q10a q10b hbel hT0 hT1 hT2 hTn hcat OA OB WN CN DN WW Tn T1 T2 HT hxa hxb hda hdb hsa hsb hsn Q0 Ha Hb
  go_wp2
  go_region_held3 (fun w' => (w'.cell? ⟨A, 0, none⟩ = some (.int .i64 a.kind) ∧ w'.cell? ⟨A, 1, none⟩ = some (.string a.text) ∧ w'.cell? ⟨A, 2, none⟩ = some (.slice pa a.kids.length ca)) ∧ (w'.cell? ⟨B, 0, none⟩ = some (.int .i64 b.kind) ∧ w'.cell? ⟨B, 1, none⟩ = some (.string b.text) ∧ w'.cell? ⟨B, 2, none⟩ = some (.slice pb b.kids.length cb)) ∧ (w'.cell? ⟨(g + 1), 0, none⟩ = some (.int .i64 k) ∧ w'.cell? ⟨(g + 1), 1, none⟩ = some (.string ⟨#[116]⟩) ∧ w'.cell? ⟨(g + 1), 2, none⟩ = some (.slice (some ⟨g, 0, none⟩) 2 2)) ∧ Below W4.heap.size W4 w') (first | exact SHOW.out _ HBel.out.drew | assumption | (refine SHOW.out _ ?_; assumption)) 
    (first 
      | (go_at_call 11; with_reducible refine (Q11.out _ (And.right (And.right (And.right (by assumption))))).mono ?_; rintro _ U ⟨rfl, bu⟩; have bb := Below.trans (And.right (And.right (And.right (by assumption)))) (bu.mono (Below.size (And.right (And.right (And.right (by assumption)))))); clear bu) 
      | (go_at_call 12; with_reducible refine (Q12n.out _ (And.right (And.right (And.right (by assumption))))).mono ?_; rintro _ U ⟨rfl, bu⟩; have bb := Below.trans (And.right (And.right (And.right (by assumption)))) (bu.mono (Below.size (And.right (And.right (And.right (by assumption)))))); clear bu) 
      | (go_at_call 12; with_reducible refine (Q12a.out _ (And.right (And.right (And.right (by assumption))))).mono ?_; rintro _ U ⟨rfl, bu⟩; have bb := Below.trans (And.right (And.right (And.right (by assumption)))) (bu.mono (Below.size (And.right (And.right (And.right (by assumption)))))); clear bu) 
      | (go_at_call 12; with_reducible refine (Q12b.out _ (And.right (And.right (And.right (by assumption))))).mono ?_; rintro _ U ⟨rfl, bu⟩; have bb := Below.trans (And.right (And.right (And.right (by assumption)))) (bu.mono (Below.size (And.right (And.right (And.right (by assumption)))))); clear bu) 
      | (go_at_call 13; with_reducible refine (Q13n.out _ (And.right (And.right (And.right (by assumption))))).mono ?_; rintro _ U ⟨rfl, bu⟩; have bb := Below.trans (And.right (And.right (And.right (by assumption)))) (bu.mono (Below.size (And.right (And.right (And.right (by assumption)))))); clear bu) 
      | (go_at_call 13; with_reducible refine (Q13a.out _ (And.right (And.right (And.right (by assumption))))).mono ?_; rintro _ U ⟨rfl, bu⟩; have bb := Below.trans (And.right (And.right (And.right (by assumption)))) (bu.mono (Below.size (And.right (And.right (And.right (by assumption)))))); clear bu) 
      | (go_at_call 13; with_reducible refine (Q13b.out _ (And.right (And.right (And.right (by assumption))))).mono ?_; rintro _ U ⟨rfl, bu⟩; have bb := Below.trans (And.right (And.right (And.right (by assumption)))) (bu.mono (Below.size (And.right (And.right (And.right (by assumption)))))); clear bu) 
      | (go_at_call 10; with_reducible refine (Q10n.out _ (And.right (And.right (And.right (by assumption))))).mono ?_; rintro _ U ⟨rfl, bu⟩; have bb := Below.trans (And.right (And.right (And.right (by assumption)))) (bu.mono (Below.size (And.right (And.right (And.right (by assumption)))))); clear bu) 
      | (go_at_call 10; with_reducible refine (Q10a.out _ (And.right (And.right (And.right (by assumption))))).mono ?_; rintro _ U ⟨rfl, bu⟩; have bb := Below.trans (And.right (And.right (And.right (by assumption)))) (bu.mono (Below.size (And.right (And.right (And.right (by assumption)))))); clear bu) 
      | (go_at_call 10; with_reducible refine (Q10b.out _ (And.right (And.right (And.right (by assumption))))).mono ?_; rintro _ U ⟨rfl, bu⟩; have bb := Below.trans (And.right (And.right (And.right (by assumption)))) (bu.mono (Below.size (And.right (And.right (And.right (by assumption)))))); clear bu) 
      | (go_at_call 15; with_reducible refine (Q15.out _ (And.right (And.right (And.right (by assumption))))).mono ?_; rintro _ U ⟨pu, cu, rfl, ku, bu⟩; have bb := Below.trans (And.right (And.right (And.right (by assumption)))) (Below.mono bu.out (Below.size (And.right (And.right (And.right (by assumption)))))); clear bu) 
      | (go_at_call 14; with_reducible refine (Q14.out _ _ _ (And.right (And.right (And.right (by assumption)))) (by assumption)).mono ?_; rintro _ U ⟨rfl, bu⟩; have bb := Below.trans (And.right (And.right (And.right (by assumption)))) (bu.mono (Below.size (And.right (And.right (And.right (by assumption)))))); clear bu))
  go_wp2
  go_ret
  exact ⟨rfl, B1.out.trans ((BL.out.trans ((show Below W4.heap.size W4 _ by assumption).mono BL.out.size)).mono B1.out.size)⟩
end Go.Proofs.YtigpffbhkopjeaaDoor
