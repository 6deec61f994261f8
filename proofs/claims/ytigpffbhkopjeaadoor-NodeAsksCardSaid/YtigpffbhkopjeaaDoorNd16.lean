/- All paths of a tree: the code. Its condition: how the tree lies in memory; at most 10^8 nodes. -/
import Derived.Test.YtigpffbhkopjeaaDoorNd15
namespace Go.Proofs.YtigpffbhkopjeaaDoor
open Go.RowKit Go.Sub
attribute [local go_sem] Oper.semAt_some

theorem path_info : (Tryd.prog.info? 37).map (fun i => (i.zero, i.size, i.bytes)) = some (some (.slice none 0 0), 1, 24) := by kernel_rfl
theorem paths_und : Tryd.prog.underlying 33 = some (.slice 37) := by kernel_rfl
/-- what has been collected: the row in B's box, each path in blocks of its own -/
structure ColSt (w : World) (B : Nat) (pre : List PathV) (O : Nat → Prop) (W : World) (v : Value) : Prop where
  own : ∀ b, O b ↔ (b = B ∨ some b = v.ownBlock ∨ ∃ x ∈ pre, pathG x b)
  box : Boxed W B 33 v
  row : W.ownsRow w.heap.size 37 1 v pre.length (pre.map fun x => x.1)
  ints : ∀ x ∈ pre, IntsAt W (fun b => pathG x b ∧ w.heap.size ≤ b) x.1 x.2
  apart : ∀ x ∈ pre, ∀ b, pathG x b → w.heap.size ≤ b ∧ b < W.heap.size ∧ some b ≠ v.ownBlock ∧ b ≠ B
  bel : Below w.heap.size w W
def ColI (w : World) (B : Nat) (pre : List PathV) (O : Nat → Prop) (W : World) : Prop := ∃ v, ColSt w B pre O W v
theorem ColSt.keep {w : World} {B : Nat} {pre : List PathV} {O X : Nat → Prop} {A A' : World} {v : Value} (h : ColSt w B pre O A v) (hk : Keeps X A A') (hX : ∀ b, X b → ¬ O b ∧ w.heap.size ≤ b) : ColSt w B pre O A' v where
  own := h.own
  box := boxed_keeps h.box hk fun e => (hX _ e).1 ((h.own _).2 (.inl rfl))
  row := ownsRow_keeps h.row hk fun g hg e => (hX _ e).1 ((h.own _).2 (.inr (.inl hg)))
  ints := fun x hx => (h.ints x hx).keeps hk fun b hb e => (hX _ e).1 ((h.own _).2 (.inr (.inr ⟨x, hx, hb.1⟩)))
  apart := fun x hx b hb => by
    obtain ⟨a1, a2, a3⟩ := h.apart x hx b hb
    exact ⟨a1, Nat.lt_of_lt_of_le a2 hk.size, a3⟩
  bel := h.bel.trans (hk.below h.bel.size fun b hb => (hX b hb).2)
/-- what is told: all paths -/
def PathsPost (n : NodeT) (w : World) (e : Ending) (W' : World) : Prop := ∃ (v : Value) (xs : List PathV), e = .returned v ∧ W'.ownsRow w.heap.size 37 1 v xs.length (xs.map fun x => x.1) ∧ xs.map (fun x => x.2) = (pathsN n).map (fun p => zs p) ∧ (∀ x ∈ xs, IntsAt W' (fun b => w.heap.size ≤ b) x.1 x.2) ∧ Below w.heap.size w W'
set_option maxRecDepth 100000 in
set_option maxHeartbeats 2000000 in
theorem pathSeq_in (n : NodeT) (w : World) (S Sp : Nat → Prop) (u v0 : Value) (Bn Bp : Nat) (hbn : NBox w Bn 25 n.kind n.text u) (hu : KidsAt w S u n.kids) (hbp : Boxed w Bp 37 v0) (hv : IntsAt w Sp v0 []) (hcn : countN n ≤ 100000000) :
    CallsIn Fence.wide 6 Tryd.prog 48 #[.slice none 0 0, .func (.func 49) #[] #[.pointer (some ⟨Bp, 0, none⟩), .pointer (some ⟨Bn, 0, none⟩)]] w (PathsPost n w) := by
  have h1 : 1 ≤ 6 := by omega
  obtain ⟨i0, hi, hz0, hz1, hz2⟩ := info_parts path_info
  refine callsIn_of_wp_marks Tryd.func48 rfl trivial ?_ rfl
  simp only [Tryd.ntmps48, List.size_toArray, List.length_cons, List.length_nil, Nat.reduceAdd, Nat.reduceSub, Array.replicate_succ, Array.replicate_zero, List.push_toArray, List.append_toArray, List.nil_append, List.cons_append]
  gi_wp2
  have bO := Boxed.new w 33 (.slice none 0 0)
  obtain ⟨W0, hW0⟩ : ∃ W0, w.alloc (.cells #[.slice none 0 0] 33) = W0 := ⟨_, rfl⟩
  have hsz : W0.heap.size = w.heap.size + 1 := by rw [← hW0]; simp
  have hB0 : Below w.heap.size w W0 := by rw [← hW0]; exact (Below.refl _ w).alloc (Nat.le_refl _) _
  have hbnl := hbn.lt
  have hbpl := hbp.lt
  have hseq := walk_ok n (6 - 1) W0 _ _ u v0 [] Bn Bp (hbn.stays hB0) (hu.within.stays hB0) (boxed_keeps hbp (Keeps.of_below' (O := fun _ => False) hB0) (fun h => h)) (hv.within.stays hB0) (by have := deep_le_count n; simp; omega) (by omega)
  rw [hW0] at bO ⊢
  have hst : ColSt w w.heap.size [] (fun b => b = w.heap.size) W0 (.slice none 0 0) := ⟨fun b => by simp [Value.ownBlock], bO, World.ownsRow_nil _ _ _ _, (fun x h => by cases h), (fun x h => by cases h), hB0⟩
  clear hW0
  refine wpIn_rangeFunc_G (n := 6) (encs := pathE) rfl h1 (gf := 49) (lb := #[.pointer (some ⟨Bp, 0, none⟩), .pointer (some ⟨Bn, 0, none⟩)]) rfl trivial (enters_of Tryd.func49 (by kernel_rfl) rfl)
    hseq (Below.refl _ _) ?hps (fun b (h : False) => h.elim) ?hR ?hS ?hSp
    (ColI w w.heap.size) (fun _ _ _ _ => False) (fun b => b = w.heap.size) ?hO
    ?hI (fun _ _ _ _ _ h _ => h.elim) ⟨_, hst⟩ ?hround ?hdone (fun _ _ _ _ _ _ _ h _ _ => h.elim)
  case hps => intro y; rfl
  case hS => intro xs A B h _; exact h
  case hSp => intro xs A B h _; exact h
  case hR =>
    intro b hb
    rcases hb with hb | hb | hb | hb
    · have := hb.2; omega
    · have := hb.2; omega
    · omega
    · omega
  case hO =>
    intro b hb
    refine ⟨by omega, fun h => h, fun e => ?_⟩
    rcases e with e | e | e | e
    · have := e.2; omega
    · have := e.2; omega
    · omega
    · omega
  case hI =>
    rintro pre O A B ⟨v, h⟩ hk
    exact ⟨v, h.keep hk fun b hb => ⟨hb.1, hb.2.elim (fun h => h.elim) (fun h => by omega)⟩⟩
  case hround =>
    rintro l pre ⟨xv, xp⟩ W O - hlt hOl hs hG hY
    replace hY : IntsAt W (fun b => some b = xv.ownBlock) xv xp := hY
    obtain ⟨p, c, rfl, hxl⟩ := hY.shape
    unfold pathE
    gi_wp2
    refine ⟨Keeps.refl _ _, fun Wb hkb hsb ⟨v, hst⟩ hl => ?_⟩
    have hY2 := hY.keeps hkb fun b hb e => (hG b hb).2.2.2 e
    have hc := hst.box.cell
    have hnew := new_cells Wb [.slice p xp.length c] 37
    have hlow := hst.bel.size
    have hH := Lib.hid hst
    have hsnoc : (pre ++ [(Value.slice p xp.length c, xp)]).map (fun x : PathV => x.1) = pre.map (fun x => x.1) ++ [.slice p xp.length c] := by simp
    have HSN := Lib.hid hsnoc
    have HG := Lib.hid hG
    have HY2 := Lib.hid hY2
    have HSB := Lib.hid hsb
    clear hY hY2 hsnoc hG hst hsb
    gi_wp2_with (gi_at_builtin; refine wpListIn_append_O _ rfl _ _ 33 rfl w.heap.size 37 i0 (.slice none 0 0) 1 24 paths_und hi hz0 hz1 hz2 rfl (by decide) _ _ _ rfl (hH.out.row.alloc _) ⟨Wb.heap.size, 0, none⟩ 1 1 [.slice p xp.length c] rfl rfl hnew (by intro u hu; simp at hu; subst hu; rfl) (by simp only [maxLen]; omega) (by omega) (by simp; omega) ?_; intro v' w1 hown' hkeep hblk' _; obtain ⟨g', cap', rfl⟩ := own_succ' hown'; obtain ⟨hv1, hv2, hr2, hk2, hb2⟩ := appended hH.out.box (by decide) hH.out.row hown' hkeep (by rw [World.size_alloc] at hblk'; exact hblk'); have hc1 := hv1.cell; have hf1 := hv1.frozen)
    have hst := hH.out
    have hszb := HSB.out
    have hG := HG.out
    have hBlt := hst.box.lt
    have hB : O w.heap.size := (hst.own _).2 (.inl rfl)
    have hV : ∀ b, some b = v.ownBlock → O b := fun b hb => (hst.own b).2 (.inr (.inl hb))
    have hkO : Keeps O Wb (w1.setCell ⟨w.heap.size, 0, none⟩ (.slice (some ⟨g', 0, none⟩) (pre.length + 1) cap')) := hk2.mono fun b _ h => by
      rcases h with rfl | h
      · exact hB
      · exact hV b h
    have hs2 := hk2.size
    refine ⟨fun b => b = w.heap.size ∨ some b = (Value.slice (some ⟨g', 0, none⟩) (pre.length + 1) cap').ownBlock ∨ ∃ x ∈ pre ++ [(Value.slice p xp.length c, xp)], pathG x b, hkO.mono fun b _ h => .inl h, fun b hb => ?_, _, ⟨fun b => Iff.rfl, hv2, ?_, ?_, ?_, ?_⟩⟩
    · rcases hb with rfl | hb | ⟨x, hx, hb⟩
      · exact ⟨.inl hB, by omega⟩
      · obtain ⟨h1, h2⟩ := hb2 b hb
        refine ⟨?_, h2⟩
        rcases h1 with h1 | h1
        · exact .inl (hV b h1)
        · exact .inr (.inr (by omega))
      · rcases List.mem_append.1 hx with hx | hx
        · exact ⟨.inl ((hst.own b).2 (.inr (.inr ⟨x, hx, hb⟩))), by have := (hst.apart x hx b hb).2.1; omega⟩
        · rw [List.mem_singleton.1 hx] at hb
          exact ⟨.inr (.inl hb), by have := (hG b hb).1; omega⟩
    · rw [HSN.out, List.length_append]; exact hr2
    · intro x hx
      rcases List.mem_append.1 hx with hx | hx
      · refine (hst.ints x hx).keeps hk2 fun b hb e => ?_
        obtain ⟨a1, a2, a3, a4⟩ := hst.apart x hx b hb.1
        rcases e with e | e
        · exact a4 e
        · exact a3 e
      · rw [List.mem_singleton.1 hx]
        refine (HY2.out.keeps hkO fun b hb e => (hG b hb).2.2.1 e).mono fun b hb => ⟨hb, ?_⟩
        have := (hG b hb).2.1; omega
    · intro x hx b hb
      rcases List.mem_append.1 hx with hx | hx
      · obtain ⟨a1, a2, a3, a4⟩ := hst.apart x hx b hb
        refine ⟨a1, by omega, fun e => ?_, a4⟩
        rcases (hb2 b e).1 with h | h
        · exact a3 h
        · omega
      · rw [List.mem_singleton.1 hx] at hb
        have hg := hG b hb
        refine ⟨by omega, by omega, fun e => ?_, fun e => hg.2.2.1 (e ▸ hB)⟩
        rcases (hb2 b e).1 with h | h
        · exact hg.2.2.1 (hV b h)
        · omega
    · refine hst.bel.trans (hk2.below hst.bel.size fun b hb => ?_)
      rcases hb with rfl | hb
      · exact Nat.le_refl _
      · exact (hst.row.lt b hb.symm).1
  case hdone =>
    rintro D ys W O hD hS ⟨v, hst⟩ hOD hK
    have hc := hst.box.cell
    have hkD : Keeps (fun b => b = D) W (W.putObj D (.deferred none)) := Keeps.putObj _ _ _ rfl
    have HST := Lib.hid hst
    clear hst
    gi_wp2
    refine ⟨by simp, .inl ⟨_, _, rfl, run_takeDeferred hK, ?_⟩⟩
    refine ⟨_, results_tmp rfl _ _ _, v, ys, rfl, ownsRow_keeps HST.out.row hkD (fun g hg e => hOD ((HST.out.own D).2 (.inr (.inl (by rw [← e]; exact hg))))), by simpa using hS, fun x hx => ((HST.out.ints x hx).keeps hkD fun b hb e => hOD ((HST.out.own D).2 (.inr (.inr ⟨x, hx, by rw [← e]; exact hb.1⟩)))).mono fun b hb => hb.2, ?_⟩
    exact HST.out.bel.trans (hkD.below HST.out.bel.size fun b hb => by omega)
theorem collectP_calls (n : NodeT) (w : World) (S Sp : Nat → Prop) (u v0 : Value) (Bn Bp : Nat) (hbn : NBox w Bn 25 n.kind n.text u) (hu : KidsAt w S u n.kids) (hbp : Boxed w Bp 37 v0) (hv : IntsAt w Sp v0 []) (hcn : countN n ≤ 100000000) :
    Calls Tryd.prog 35 #[.func (.func 49) #[] #[.pointer (some ⟨Bp, 0, none⟩), .pointer (some ⟨Bn, 0, none⟩)]] w (PathsPost n w) := by
  have h := callsIn_wide.1 (pathSeq_in n w S Sp u v0 Bn Bp hbn hu hbp hv hcn)
  have H := Lib.hid h
  clear h
  go_enter Tryd.func35, Tryd.ntmps35
  go_wp2_with (go_at_call 48; refine (H.out).mono ?_; rintro e w' ⟨v, xs, rfl, h1, h2, h3, h4⟩)
  go_ret
  exact ⟨v, xs, rfl, h1, h2, h3, h4⟩
set_option maxRecDepth 100000 in
theorem paths_calls (n : NodeT) (u : Value) (w : World) (S : Nat → Prop) (hu : KidsAt w S u n.kids) (hcn : countN n ≤ 100000000) :
    Calls Tryd.prog 16 #[nodeV n u] w (PathsPost n w) := by
  obtain ⟨pu, cu, rfl, lu⟩ := hu.shape
  have hwalk := fun w3 => walk_calls n pu none n.kids.length cu 0 0 w3
  have hal := (Below.refl w.heap.size w).alloc (Nat.le_refl _) (.cells #[.int .i64 n.kind, .string n.text, .slice pu n.kids.length cu] 25)
  have hz : (w.alloc (.cells #[.int .i64 n.kind, .string n.text, .slice pu n.kids.length cu] 25)).heap.size = w.heap.size + 1 := by simp
  have hU := Lib.hid (hu.stays hal)
  have HAL := Lib.hid hal
  have HZ := Lib.hid hz
  unfold nodeV at *
  have hcol := fun (W1 : World) (h : Below (w.alloc (.cells #[.int .i64 n.kind, .string n.text, .slice pu n.kids.length cu] 25)).heap.size (w.alloc (.cells #[.int .i64 n.kind, .string n.text, .slice pu n.kids.length cu] 25)) W1) =>
    collectP_calls n ((W1.alloc (.cells #[.int .i64 n.kind, .string n.text, .slice pu n.kids.length cu] 25)).alloc (.cells #[.slice none 0 0] 37)) S (fun _ => True) (.slice pu n.kids.length cu) (.slice none 0 0) W1.heap.size (W1.heap.size + 1)
      ((nbox_new W1 25 n.kind n.text (.slice pu n.kids.length cu)).stays ((Below.refl _ _).alloc (Nat.le_refl _) _))
      ((hU.out.stays h).stays (((Below.refl _ _).alloc (Nat.le_refl _) _).alloc (by simp) _))
      (by have := Boxed.new (W1.alloc (.cells #[.int .i64 n.kind, .string n.text, .slice pu n.kids.length cu] 25)) 37 (.slice none 0 0); rwa [World.size_alloc] at this)
      ⟨none, 0, 0, 0, rfl, (fun h => absurd h (by simp)), (by simp), (fun i x h => by simp at h)⟩ hcn
  have Hwalk := Lib.hid hwalk
  have Hcol := Lib.hid hcol
  clear hwalk hcol hu hal hz
  go_enter Tryd.func16, Tryd.ntmps16
  go_wp2_with fail
  generalize w.alloc (.cells #[.int .i64 n.kind, .string n.text, .slice pu n.kids.length cu] 25) = W1 at *
  refine (Hwalk.out W1).mono ?_
  rintro e w' ⟨rfl, rfl⟩
  go_wp2_with (go_at_call 35; (with_reducible refine (Hcol.out W1 (Below.refl _ _)).mono ?_); rintro e w' ⟨v, xs, rfl, h1, h2, h3, h4⟩; have H1 := Lib.hid h1; have H2 := Lib.hid h2; have H3 := Lib.hid h3; have H4 := Lib.hid h4; clear h1 h2 h3 h4)
  go_ret
  have hb : Below W1.heap.size W1 ((W1.alloc (.cells #[.int .i64 n.kind, .string n.text, .slice pu n.kids.length cu] 25)).alloc (.cells #[.slice none 0 0] 37)) := ((Below.refl _ _).alloc (Nat.le_refl _) _).alloc (by simp) _
  have hs : ((W1.alloc (.cells #[.int .i64 n.kind, .string n.text, .slice pu n.kids.length cu] 25)).alloc (.cells #[.slice none 0 0] 37)).heap.size = w.heap.size + 3 := by simp [HZ.out]
  refine ⟨v, xs, rfl, ?_, H2.out, fun x hx => (H3.out x hx).mono fun b hb => ?_, ?_⟩
  · refine ⟨H1.out.1, ?_⟩
    rcases H1.out.2 with h | ⟨g, cap, cur, h1, h2, h3⟩
    · exact .inl h
    · exact .inr ⟨g, cap, cur, h1, by omega, h3⟩
  · omega
  · exact HAL.out.trans ((hb.trans (H4.out.mono hb.size)).mono HAL.out.size)
end Go.Proofs.YtigpffbhkopjeaaDoor
