/- All paths of a tree, told one by one: the iterator. Its condition: how the tree and the path lie in memory; at most 10^9 nodes. -/
import Derived.RangeFuncNested
import Derived.RangeFuncBound
import Derived.RangeFuncCalls
import Derived.RangeFuncLeaves
import Derived.Shelf.Abstract
import Derived.Shelf.RegionOpen
import Derived.OwnWalkIn
import Derived.TacticsInMore
import Derived.LoopNIn
import Derived.LoopIn
import Derived.RegionIn
import Derived.Test.YtigpffbhkopjeaaDoorNd14
import Derived.Test.YtigpffbhkopjeaaDoorRangeG
namespace Go.Proofs.YtigpffbhkopjeaaDoor
open Go.RowKit Go.Sub
attribute [local go_sem] Oper.semAt_some

theorem room_of_none {F : Fence} (hd : F.depth = none) (k : Nat) : F.room k := fun d h => by rw [hd] at h; cases h
theorem roundIn_any {F : Fence} (hd : F.depth = none) {m m' : Nat} {P : Program} {l : Nat} {f : FuncId} {tmps : Array Value} {assign body : Code} {w : World} {R : Ending → World → Prop}
    (h : RoundIn F m P l f tmps assign body w R) : RoundIn F m' P l f tmps assign body w R := ⟨h.1, fun c cs _ => h.2 c cs (room_of_none hd _)⟩
theorem yieldAt_any {F : Fence} (hd : F.depth = none) {m : Nat} (m' : Nat) {P : Program} {l : Nat} {args : Array Value} {W : World} {R : Ending → World → Prop} (h : YieldAt F m P l args W R) : YieldAt F m' P l args W R := by
  obtain ⟨fn, tmps, assign, body, hy, hR⟩ := h
  exact ⟨fn, tmps, assign, body, hy, roundIn_any hd hR⟩
theorem seqG_any {α : Type} {n : Nat} (m : Nat) {P : Program} {g : Nat} {lb : Array Value} {encs : α → Array Value} {G : α → Nat → Prop} {Y : α → World → Prop} {M R : Nat → Prop} {S Sp : List α → World → Prop} {N : Nat} {w : World} (h : SeqG Fence.wide n P g lb encs G Y M R S Sp N w) : SeqG Fence.wide m P g lb encs G Y M R S Sp N w :=
  fun l J Jx W O hW hO hJ hJx hY h0 => callsIn_wide.2 (callsIn_wide.1 (h l J Jx W O hW hO hJ hJx (fun pre x W1 O1 a b c d => yieldAt_any rfl _ (hY pre x W1 O1 a b c d)) h0))

abbrev PathV := Value × List Int
def pathE (x : PathV) : Array Value := #[x.1]
def pathG (x : PathV) (b : Nat) : Prop := some b = x.1.ownBlock
def pathY (x : PathV) (W : World) : Prop := IntsAt W (fun b => some b = x.1.ownBlock) x.1 x.2
def WalkOk (n : NodeT) : Prop := ∀ (k : Nat) (w : World) (S Sp : Nat → Prop) (u v : Value) (path : List Int) (Bn Bp : Nat), NBox w Bn 25 n.kind n.text u → KidsAt w S u n.kids → Boxed w Bp 37 v → IntsAt w Sp v path → path.length + deepN n ≤ 1000000000 → countN n ≤ 1000000000 →
  SeqG Fence.wide k Tryd.prog 49 #[.pointer (some ⟨Bp, 0, none⟩), .pointer (some ⟨Bn, 0, none⟩)] pathE pathG pathY (fun _ => False) (fun b => S b ∨ Sp b ∨ b = Bn ∨ b = Bp) (fun xs _ => xs.map (fun x => x.2) = (pathsN n).map (fun p => path ++ zs p)) (fun _ _ => True) (countN n) w
/-- the blocks that the iterator reads, and its marks -/
def coreB (S Sp : Nat → Prop) (Bn Bp Y : Nat) (ds : List Nat) (b : Nat) : Prop := S b ∨ Sp b ∨ b = Bn ∨ b = Bp ∨ b = Y ∨ b ∈ ds
def markD (ds : List Nat) : List Deferred := ds.map fun D => { target := .collected D, args := #[] }
/-- how all lies between two steps of the iterator -/
structure WSt (l : Nat) (n : NodeT) (u v : Value) (path : List Int) (S Sp : Nat → Prop) (Bn Bp Y : Nat) (ds : List Nat) (O : Nat → Prop) (W : World) : Prop where
  bn : NBox W Bn 25 n.kind n.text u
  ku : KidsAt W S u n.kids
  bp : Boxed W Bp 37 v
  iv : IntsAt W Sp v path
  by' : Boxed W Y 72 (.func (.yield l) #[] #[])
  nd : ds.Nodup
  mks : ∀ D ∈ ds, W.heap[D]? = some (.deferred (some []))
  base : ∀ D ∈ ds, Y ≤ D
  lt : ∀ b, coreB S Sp Bn Bp Y ds b → b < W.heap.size
  off : ∀ b, O b → b < W.heap.size ∧ ¬ coreB S Sp Bn Bp Y ds b
theorem WSt.move {l : Nat} {n : NodeT} {u v : Value} {path : List Int} {S Sp : Nat → Prop} {Bn Bp Y : Nat} {ds : List Nat} {O O' X : Nat → Prop} {W W' : World} (h : WSt l n u v path S Sp Bn Bp Y ds O W) (hk : Keeps X W W') (hX : ∀ b, X b → ¬ coreB S Sp Bn Bp Y ds b) (hO : ∀ b, O' b → b < W'.heap.size ∧ ¬ coreB S Sp Bn Bp Y ds b) : WSt l n u v path S Sp Bn Bp Y ds O' W' where
  bn := h.bn.keeps hk fun e => hX _ e (.inr (.inr (.inl rfl)))
  ku := h.ku.keeps hk fun _ hb e => hX _ e (.inl hb)
  bp := boxed_keeps h.bp hk fun e => hX _ e (.inr (.inr (.inr (.inl rfl))))
  iv := h.iv.keeps hk fun _ hb e => hX _ e (.inr (.inl hb))
  by' := boxed_keeps h.by' hk fun e => hX _ e (.inr (.inr (.inr (.inr (.inl rfl)))))
  nd := h.nd
  mks := fun D hD => hk.heap (h.mks D hD) fun e => hX _ e (.inr (.inr (.inr (.inr (.inr hD)))))
  base := h.base
  lt := fun b hb => Nat.lt_of_lt_of_le (h.lt b hb) hk.size
  off := hO
theorem WSt.mark {l : Nat} {n : NodeT} {u v : Value} {path : List Int} {S Sp : Nat → Prop} {Bn Bp Y : Nat} {ds : List Nat} {O : Nat → Prop} {W : World} (h : WSt l n u v path S Sp Bn Bp Y ds O W) {D : Nat} (hD : W.heap[D]? = some (.deferred (some []))) (hn : ¬ coreB S Sp Bn Bp Y ds D) (hO : ¬ O D) (hYD : Y ≤ D) : WSt l n u v path S Sp Bn Bp Y (D :: ds) O W where
  bn := h.bn
  ku := h.ku
  bp := h.bp
  iv := h.iv
  by' := h.by'
  nd := List.nodup_cons.2 ⟨fun e => hn (.inr (.inr (.inr (.inr (.inr e))))), h.nd⟩
  mks := fun E hE => by
    rcases List.mem_cons.1 hE with rfl | hE
    · exact hD
    · exact h.mks E hE
  base := fun E hE => by
    rcases List.mem_cons.1 hE with rfl | hE
    · exact hYD
    · exact h.base E hE
  lt := fun b hb => by
    rcases hb with hb | hb | hb | hb | hb | hb
    · exact h.lt b (.inl hb)
    · exact h.lt b (.inr (.inl hb))
    · exact h.lt b (.inr (.inr (.inl hb)))
    · exact h.lt b (.inr (.inr (.inr (.inl hb))))
    · exact h.lt b (.inr (.inr (.inr (.inr (.inl hb)))))
    · rcases List.mem_cons.1 hb with rfl | hb
      · exact (Array.getElem?_eq_some_iff.1 hD).1
      · exact h.lt b (.inr (.inr (.inr (.inr (.inr hb)))))
  off := fun b hb => ⟨(h.off b hb).1, fun e => by
    rcases e with e | e | e | e | e | e
    · exact (h.off b hb).2 (.inl e)
    · exact (h.off b hb).2 (.inr (.inl e))
    · exact (h.off b hb).2 (.inr (.inr (.inl e)))
    · exact (h.off b hb).2 (.inr (.inr (.inr (.inl e))))
    · exact (h.off b hb).2 (.inr (.inr (.inr (.inr (.inl e)))))
    · rcases List.mem_cons.1 e with rfl | e
      · exact hO hb
      · exact (h.off b hb).2 (.inr (.inr (.inr (.inr (.inr e)))))⟩
/-- a frame's way out over its marks -/
theorem leaves_marks {P : Program} {fn : Func} {tmps : Array Value} {R : Ending → World → Prop} {k : Nat} (ds : List Nat) (W : World) (hnd : ds.Nodup) (hm : ∀ D ∈ ds, W.heap[D]? = some (.deferred (some [])))
    (h : ∀ W', Keeps (fun b => b ∈ ds) W W' → LeavesIn Fence.wide k P fn tmps R [] .returning W') : LeavesInM Fence.wide k P fn tmps R (markD ds) .returning W := by
  induction ds generalizing W with
  | nil => exact h W (Keeps.refl _ _)
  | cons D r ih =>
    obtain ⟨hn, hnd⟩ := List.nodup_cons.1 hnd
    have hD := hm D (by simp)
    refine ⟨by simp, .inl ⟨D, _, rfl, run_takeDeferred hD, ?_⟩⟩
    refine ih _ hnd (fun E hE => (World.putObj_heap_other (fun e => hn (by rw [← e]; exact hE))).trans (hm E (by simp [hE]))) fun W' hk => h W' ?_
    exact (Keeps.putObj (O := fun b => b ∈ D :: r) W D _ (by simp)).trans (hk.mono fun b _ hb => by simp [hb])
theorem IntsAt.within {w : World} {S : Nat → Prop} {v : Value} {xs : List Int} (h : IntsAt w S v xs) : IntsAt w (fun b => S b ∧ b < w.heap.size) v xs := by
  obtain ⟨p, cap, b, o, e, hp, hl, hx⟩ := h
  refine ⟨p, cap, b, o, e, fun h0 => ⟨(hp h0).1, (hp h0).2, ?_⟩, hl, hx⟩
  exact World.block_lt_of_cell? _ _ (hx 0 xs[0] (List.getElem?_eq_getElem h0))
theorem walk_calls (n : NodeT) (pu pv : Option Addr) (nu cu nv cv : Nat) (w : World) :
    Calls Tryd.prog 36 #[nodeV n (.slice pu nu cu), .slice pv nv cv] w fun e w' => e = .returned (.func (.func 49) #[] #[.pointer (some ⟨w.heap.size + 1, 0, none⟩), .pointer (some ⟨w.heap.size, 0, none⟩)]) ∧ w' = (w.alloc (.cells #[.int .i64 n.kind, .string n.text, .slice pu nu cu] 25)).alloc (.cells #[.slice pv nv cv] 37) := by
  unfold nodeV
  go_enter Tryd.func36, Tryd.ntmps36
  go_wp2
  go_ret
  exact ⟨rfl, rfl⟩
/-- no way out by a panic -/
def noPanic (Q : Exit → Act → World → Prop) : Exit → Act → World → Prop
  | .panic _, _, _ => False
  | .normal, a, w => Q .normal a w
  | .ret, a, w => Q .ret a w
  | .exit i, a, w => Q (.exit i) a w
  | .goto i, a, w => Q (.goto i) a w
  | .outgrown, a, w => Q .outgrown a w
theorem wpIn_noPanic {F : Fence} {n : Nat} {P : Program} {c : Code} {Q : Exit → Act → World → Prop} {a : Act} {w : World} (h : c.wpIn F n P (noPanic Q) a w) : c.wpIn F n P Q a w :=
  wpIn_mono h fun e a w h => by cases e <;> first | exact h | exact h.elim
theorem yield_q {e : Ending} {K L A B : (Nat → Prop) → Prop} (h : ∃ O2, K O2 ∧ L O2 ∧ ((e = .returned (.bool true) ∧ A O2) ∨ (e = .returned (.bool false) ∧ B O2))) :
    ∃ (q : Bool) (O2 : Nat → Prop), e = .returned (.bool q) ∧ K O2 ∧ L O2 ∧ (q = true → A O2) ∧ (q = false → B O2) := by
  obtain ⟨O2, h1, h2, ⟨h3, h4⟩ | ⟨h3, h4⟩⟩ := h
  · exact ⟨true, O2, h3, h1, h2, (fun _ => h4), (fun h => by cases h)⟩
  · exact ⟨false, O2, h3, h1, h2, (fun h => by cases h), (fun _ => h4)⟩
/-- the path with one place more -/
theorem app_run (WA w1 w2 Wx : World) (v2 : Value) (ad : Nat) (path : List Int) (j : Nat) (hl : path.length ≤ 1000000000) (hw : Below WA.heap.size WA w1) (hr : w2.ownsRow w1.heap.size 3 1 v2 path.length (intC path)) (hb : Below w1.heap.size w1 w2) (hx : Below w2.heap.size w2 Wx) (hc : Wx.cell? ⟨ad, 0, none⟩ = some (.int .i64 (j : Int))) :
    ∃ v' w', (Builtin.append_ #[37, 37] 37 #[v2, .slice (some ⟨ad, 0, none⟩) 1 1]).run Tryd.prog Wx = .ok v' w' ∧ w'.ownsRow WA.heap.size 3 1 v' (path.length + 1) (intC (path ++ [(j : Int)])) ∧ Below WA.heap.size WA w' ∧ ∃ p' c', v' = .slice p' (path.length + 1) c' := by
  obtain ⟨i0, hi, hz0, hz1, hz2⟩ := info_parts int_info
  have h1 := hw.size
  have h2 := hb.size
  have h3 := hx.size
  obtain ⟨v', w', hrun, hr', hg, _, hblk⟩ := run_append_own2 (P := Tryd.prog) Wx w1.heap.size 37 37 3 i0 _ 1 8 ints_und hi hz0 hz1 hz2 rfl (by decide) v2 path.length (intC path) (ownsRow_keeps hr (Keeps.of_below' (O := fun _ => False) hx) (fun _ _ h => h))
    ⟨ad, 0, none⟩ 1 1 [.int .i64 (j : Int)] rfl (by intro i u hu; match i, hu with | 0, hu => rw [addr_zero]; rw [hc]; simpa using hu | i + 1, hu => simp at hu) (by intro u hu; simp at hu; subst hu; rfl) (by simp only [maxLen]; omega) (by omega) (by omega)
  refine ⟨v', w', hrun, ?_, ?_, ?_⟩
  · have : intC (path ++ [(j : Int)]) = intC path ++ [.int .i64 (j : Int)] := by simp [intC]
    rw [this]
    refine ⟨hr'.1, ?_⟩
    rcases hr'.2 with h | ⟨g, cap, cur, e1, e2, e3⟩
    · exact .inl h
    · exact .inr ⟨g, cap, cur, e1, by omega, e3⟩
  · have hk : Keeps (fun b => some b = v2.ownBlock) Wx w' := Keeps.of_grownBy hg fun r h => h.symm
    exact (hw.trans (hb.mono h1)).trans ((hx.mono (by omega)).trans (hk.below (by omega) fun b hb => by have := (hr.lt b hb.symm).1; omega))
  · obtain ⟨p, c, e, _⟩ := row_shape' hr'
    exact ⟨p, c, e⟩
set_option maxRecDepth 100000 in
set_option maxHeartbeats 4000000 in
theorem walk_ok : ∀ n : NodeT, WalkOk n := by
  refine NodeT.ind fun n ih => ?_
  intro k0 w S Sp u v path Bn Bp hbn hu hbp hv hpl hcn
  refine seqG_any (n := 5) k0 ?_
  intro l J Jx W O hW hO hJ hJx hY h0
  obtain ⟨pu, cu, rfl, lu⟩ := hu.shape
  obtain ⟨pv, cv, rfl, lv⟩ := hv.shape
  refine callsIn_of_wp_marks Tryd.func49 rfl trivial ?_ rfl
  simp only [Tryd.ntmps49, List.size_toArray, List.length_cons, List.length_nil, Nat.reduceAdd, Nat.reduceSub, Array.replicate_succ, Array.replicate_zero, List.push_toArray, List.append_toArray, List.nil_append, List.cons_append]
  have hu' := hu.within
  have hv' := hv.within
  have hal := (Below.refl W.heap.size W).alloc (Nat.le_refl _) (.cells #[.func (.yield l) #[] #[]] 72)
  have hWs := hW.size
  have hst : WSt l n (.slice pu n.kids.length cu) (.slice pv path.length cv) path (fun b => S b ∧ b < w.heap.size) (fun b => Sp b ∧ b < w.heap.size) Bn Bp W.heap.size [] O (W.alloc (.cells #[.func (.yield l) #[] #[]] 72)) := by
    have hbnl := hbn.lt
    have hbpl := hbp.lt
    refine ⟨(hbn.stays hW).stays hal, (hu'.stays hW).stays hal, boxed_keeps (boxed_keeps hbp (Keeps.of_below' (O := fun _ => False) hW) (fun h => h)) (Keeps.of_below' (O := fun _ => False) hal) (fun h => h), (hv'.stays hW).stays hal, Boxed.new W 72 (.func (.yield l) #[] #[]), List.nodup_nil, (fun D h => by cases h), (fun D h => by cases h), ?_, ?_⟩
    · intro b hb
      rw [World.size_alloc]
      rcases hb with hb | hb | hb | hb | hb | hb
      · have := hb.2; omega
      · have := hb.2; omega
      · omega
      · omega
      · omega
      · cases hb
    · intro b hb
      have h1 := hO b hb
      rw [World.size_alloc]
      refine ⟨by omega, fun e => ?_⟩
      rcases e with e | e | e | e | e | e
      · exact h1.2.2 (.inl e.1)
      · exact h1.2.2 (.inr (.inl e.1))
      · exact h1.2.2 (.inr (.inr (.inl e)))
      · exact h1.2.2 (.inr (.inr (.inr e)))
      · omega
      · cases e
  have HY := Lib.hid hY
  have HJ := Lib.hid hJ
  have HJX := Lib.hid hJx
  have H0 := Lib.hid (hJ _ _ _ _ h0 ((Keeps.of_below' (O := fun _ => False) hal).mono fun b _ h => h.elim))
  have IH := Lib.hid ih
  have hsz : (W.alloc (.cells #[.func (.yield l) #[] #[]] 72)).heap.size = W.heap.size + 1 := by simp
  have HST := Lib.hid hst
  clear hal hbn hu hv hbp hY hJ hJx hO h0 ih hW hst hu' hv' hWs
  refine wpIn_noPanic ?_
  gi_wp2
  have hcp := HST.out.bp.cell
  have hcy := HST.out.by'.cell
  generalize W.alloc (.cells #[.func (.yield l) #[] #[]] 72) = W1 at *
  generalize (fun b => S b ∧ b < w.heap.size) = S at *
  generalize (fun b => Sp b ∧ b < w.heap.size) = Sp at *
  have hcl := fun (w' : World) (h : Below W1.heap.size W1 w') => clone_calls path _ w' Sp (HST.out.iv.stays h) (by omega)
  have Hcl := Lib.hid hcl
  have Hsz := Lib.hid hsz
  have hyy := fun (w' w2 : World) (v2 : Value) (h : Below W1.heap.size W1 w') (hr2 : w2.ownsRow w'.heap.size 3 1 v2 path.length (intC path)) (hb2 : Below w'.heap.size w' w2) => HY.out [] (v2, path) w2 O
    (HJ.out _ _ _ _ H0.out ((Keeps.of_below' (O := fun _ => False) (h.trans (hb2.mono h.size))).mono fun b _ h => h.elim)) (countN_pos n)
    (fun b hb => by have h1 := hr2.lt b hb.symm; have h2 := h.size; have h3 := Hsz.out; exact ⟨h1.2, by omega, fun hO => by have := (HST.out.off b hO).1; omega⟩)
    (IntsAt.of_own hr2 (by omega) fun _ h => h)
  have Hyy := Lib.hid hyy
  have Hcy := Lib.hid (fun (w' w2 : World) (h : Below W1.heap.size W1 w') (hb2 : Below w'.heap.size w' w2) => (boxed_keeps HST.out.by' (Keeps.of_below' (O := fun _ => False) (h.trans (hb2.mono h.size))) (fun h => h)).cell)
  clear hcl hsz hyy
  rename_i Q' K1 hK1 K2 hK2
  have HK1 := Lib.hid hK1
  have HK2 := Lib.hid hK2
  clear hK1 hK2
  have hend : ∀ (q : Bool) (x7 x8 x9 x10 v2 : Value) (O2 : Nat → Prop) (W3 : World), WSt l n (.slice pu n.kids.length cu) (.slice pv path.length cv) path S Sp Bn Bp W.heap.size [] O2 W3 → (q = true → J ([] ++ [(v2, path)]) O2 W3) → (q = false → Jx ([] ++ [(v2, path)]) O2 W3) →
      K2 { tmps := #[.func (.yield l) #[] #[], .pointer (some ⟨Bp, 0, none⟩), .pointer (some ⟨Bn, 0, none⟩), .pointer (some ⟨W.heap.size, 0, none⟩), undef, undef, undef, x7, x8, x9, x10, .bool (!q), undef, undef, undef, undef, undef, undef, undef, undef, undef, undef, undef, undef, undef, undef, undef, undef, undef, undef, undef, undef, undef], defers := [] } W3 := by
    intro q x7 x8 x9 x10 v2 O2 W3 hst hq1 hq2
    refine HK2.out _ _ ?_
    cases q
    · gi_wp2
      exact ⟨_, results_none rfl _ _ _, ⟨_, rfl⟩, .inr ⟨_, O2, hq2 trivial⟩⟩
    · have H1 := Lib.hid (hq1 rfl)
      have HS := Lib.hid hst
      obtain ⟨c0, c1, c2⟩ := hst.bn.cells
      clear hq1 hq2 hst
      gi_wp2
      refine HK1.out _ _ ?_
      gi_wp2
      refine wpIn_loop (fun a wr => ∃ (j : Nat) (O3 : Nat → Prop) (xs : List PathV) (ds : List Nat) (y4 y5 y6 y16 y17 y18 y19 y20 y21 y22 y23 y24 y25 y26 y27 y28 y29 y30 y31 y32 : Value), j ≤ n.kids.length ∧ Hid (WSt l n (.slice pu n.kids.length cu) (.slice pv path.length cv) path S Sp Bn Bp W.heap.size ds O3 wr) ∧ Hid (J xs O3 wr) ∧ Hid (xs.map (fun x => x.2) = ([] :: pathsL (n.kids.take j) 0).map (fun p => path ++ zs p)) ∧
        a = { tmps := #[.func (.yield l) #[] #[], .pointer (some ⟨Bp, 0, none⟩), .pointer (some ⟨Bn, 0, none⟩), .pointer (some ⟨W.heap.size, 0, none⟩), y4, y5, y6, x7, x8, x9, x10, .bool false, .pointer (some ⟨Bn, 2, none⟩), .slice pu n.kids.length cu, .int .i64 n.kids.length, .int .i64 j, y16, y17, y18, y19, y20, y21, y22, y23, y24, y25, y26, y27, y28, y29, y30, y31, y32], defers := markD ds })
        (fun a _ => n.kids.length - (intOf (a.tmps.getD 15 undef)).toNat) ?h0 ?round
      case h0 => exact ⟨0, O2, _, [], _, _, _, _, _, _, _, _, _, _, _, _, _, _, _, _, _, _, _, _, Nat.zero_le _, HS, H1, Lib.hid (by simp [pathsL]), rfl⟩
      case round =>
        clear HS H1 c0 c1 c2
        rintro a wr ⟨j, O3, xs, ds, y4, y5, y6, y16, y17, y18, y19, y20, y21, y22, y23, y24, y25, y26, y27, y28, y29, y30, y31, y32, hj, HS, HJx, HX, rfl⟩
        by_cases hlt : j < n.kids.length
        · have hx := List.getElem?_eq_getElem hlt
          obtain ⟨b, o, ux, rfl, -, a1, ax⟩ := HS.out.ku.kid hx
          obtain ⟨px, cx, rfl, lx⟩ := ax.shape
          obtain ⟨c0, c1, c2⟩ := a1
          have hIH := IH.out n.kids[j] (List.getElem_mem hlt)
          generalize hkx : n.kids[j] = x at *
          have HKX := Lib.hid hkx
          have Hx := Lib.hid hx
          have HIH := Lib.hid hIH
          have Hax := Lib.hid ax
          clear hkx hx hIH ax
          gi_wp2
          have bxA := nbox_new wr 25 x.kind x.text (.slice px x.kids.length cx)
          have halA := (Below.refl wr.heap.size wr).alloc (Nat.le_refl _) (.cells #[.int .i64 x.kind, .string x.text, .slice px x.kids.length cx] 25)
          have hszA : (wr.alloc (.cells #[.int .i64 x.kind, .string x.text, .slice px x.kids.length cx] 25)).heap.size = wr.heap.size + 1 := by simp
          have hcA := (boxed_keeps HS.out.bp (Keeps.of_below' (O := fun _ => False) halA) (fun h => h))
          generalize wr.alloc (.cells #[.int .i64 x.kind, .string x.text, .slice px x.kids.length cx] 25) = WA at *
          have HBA := Lib.hid bxA
          have HAL := Lib.hid halA
          have HSA := Lib.hid hszA
          have HCA := Lib.hid hcA
          have HIV := Lib.hid (HS.out.iv.stays halA)
          have HlA := Lib.hid (fun (w' : World) (h : Below WA.heap.size WA w') => (⟨(bxA.stays h).cells, (boxed_keeps hcA (Keeps.of_below' (O := fun _ => False) h) (fun h => h)).cell⟩ : (w'.cell? ⟨wr.heap.size, 0, none⟩ = some (.int .i64 x.kind) ∧ w'.cell? ⟨wr.heap.size, 1, none⟩ = some (.string x.text) ∧ w'.cell? ⟨wr.heap.size, 2, none⟩ = some (.slice px x.kids.length cx)) ∧ w'.cell? ⟨Bp, 0, none⟩ = some (.slice pv path.length cv)))
          have hbB : Below WA.heap.size WA (WA.alloc (.cells #[.int .i64 j] 3)).drew := ((Below.refl WA.heap.size WA).alloc (Nat.le_refl _) _).drew
          have HclA := Lib.hid (clone_calls path _ WA.drew Sp (HIV.out.stays ((Below.refl WA.heap.size WA).drew)) (by omega))
          have HclB := Lib.hid (clone_calls path _ (WA.alloc (.cells #[.int .i64 j] 3)).drew Sp (HIV.out.stays hbB) (by omega))
          obtain ⟨⟨g0, g1, g2⟩, g3⟩ := HlA.out WA (Below.refl _ _)
          obtain ⟨⟨k0', k1', k2'⟩, k3'⟩ := HlA.out (WA.alloc (.cells #[.int .i64 j] 3)) ((Below.refl WA.heap.size WA).alloc (Nat.le_refl _) _)
          have HbB := Lib.hid hbB
          have HappA := Lib.hid (fun (w2 : World) (v2 : Value) hr hb => app_run WA WA.drew w2 (w2.alloc (.cells #[.int .i64 j] 3)) v2 w2.heap.size path j (by omega) ((Below.refl WA.heap.size WA).drew) hr hb ((Below.refl _ _).alloc (Nat.le_refl _) _) (cell_of_block (World.alloc_heap_new w2 _) rfl))
          have HappB := Lib.hid (fun (w2 : World) (v2 : Value) hr (hb : Below (WA.alloc (.cells #[.int .i64 j] 3)).drew.heap.size (WA.alloc (.cells #[.int .i64 j] 3)).drew w2) => app_run WA (WA.alloc (.cells #[.int .i64 j] 3)).drew w2 w2 v2 WA.heap.size path j (by omega) HbB.out hr hb (Below.refl _ _) (cell_of_block ((hb.block _ (by show _ < (WA.alloc (.cells #[.int .i64 j] 3)).heap.size; simp)).trans (show (WA.alloc (.cells #[.int .i64 j] 3)).heap[WA.heap.size]? = _ from World.alloc_heap_new WA _)) rfl))
          have hwalk := fun (p3 : Option Addr) (c3 : Nat) (w3 : World) => walk_calls x px p3 x.kids.length cx (path.length + 1) c3 w3
          unfold nodeV at hwalk
          have Hwalk := Lib.hid hwalk
          clear hwalk
          clear bxA halA hszA hcA hbB
          rename_i K3 hK3
          have HK3 := Lib.hid hK3
          clear hK3 c0 c1 c2
          have hend2 : ∀ (z20 z21 z22 z23 z24 z25 : Value) (p3 : Option Addr) (c3 : Nat) (w3 : World), w3.ownsRow WA.heap.size 3 1 (.slice p3 (path.length + 1) c3) (path.length + 1) (intC (path ++ [(j : Int)])) → Below WA.heap.size WA w3 →
              K3 { tmps := #[.func (.yield l) #[] #[], .pointer (some ⟨Bp, 0, none⟩), .pointer (some ⟨Bn, 0, none⟩), .pointer (some ⟨W.heap.size, 0, none⟩), .int .i64 j, .pointer (some ⟨wr.heap.size, 0, none⟩), y6, x7, x8, x9, x10, .bool false, .pointer (some ⟨Bn, 2, none⟩), .slice (some ⟨b, o, none⟩) n.kids.length cu, .int .i64 n.kids.length, .int .i64 j, .bool true, .int .i64 j, .pointer (some ⟨b, o + j * 3, none⟩), .agg #[.int .i64 x.kind, .string x.text, .slice px x.kids.length cx], z20, z21, z22, z23, z24, z25,
                .func (.func 49) #[] #[.pointer (some ⟨w3.heap.size + 1, 0, none⟩), .pointer (some ⟨w3.heap.size, 0, none⟩)], y27, y28, y29, y30, y31, y32], defers := markD ds } ((w3.alloc (.cells #[.int .i64 x.kind, .string x.text, .slice px x.kids.length cx] 25)).alloc (.cells #[.slice p3 (path.length + 1) c3] 37)) := by
            intro z20 z21 z22 z23 z24 z25 p3 c3 w3 hr3 hb3
            refine HK3.out _ _ ?_
            gi_wp2
            have hsz4 : ((w3.alloc (.cells #[.int .i64 x.kind, .string x.text, .slice px x.kids.length cx] 25)).alloc (.cells #[.slice p3 (path.length + 1) c3] 37)).heap.size = w3.heap.size + 2 := by simp
            have hal4 : Below w3.heap.size w3 ((w3.alloc (.cells #[.int .i64 x.kind, .string x.text, .slice px x.kids.length cx] 25)).alloc (.cells #[.slice p3 (path.length + 1) c3] 37)) := ((Below.refl _ _).alloc (Nat.le_refl _) _).alloc (by simp) _
            have bn4 := (nbox_new w3 25 x.kind x.text (.slice px x.kids.length cx)).stays ((Below.refl _ _).alloc (Nat.le_refl _) (.cells #[.slice p3 (path.length + 1) c3] 37))
            have bp4 := Boxed.new (w3.alloc (.cells #[.int .i64 x.kind, .string x.text, .slice px x.kids.length cx] 25)) 37 (.slice p3 (path.length + 1) c3)
            rw [World.size_alloc] at bp4
            have hrow4 : (path ++ [(j : Int)]).length = path.length + 1 := by simp
            have hiv3 : IntsAt w3 (fun b => some b = (Value.slice p3 (path.length + 1) c3).ownBlock ∧ b < w3.heap.size) (.slice p3 (path.length + 1) c3) (path ++ [(j : Int)]) :=
              (IntsAt.of_own (S := fun b => some b = (Value.slice p3 (path.length + 1) c3).ownBlock) (by rw [hrow4]; exact hr3) (by rw [hrow4]; omega) fun _ h => h).within
            have hbW : Below wr.heap.size wr w3 := HAL.out.trans (hb3.mono HAL.out.size)
            have hbW4 := hbW.trans (hal4.mono hbW.size)
            have hst4 := HS.out.move (O' := O3) (Keeps.of_below' (O := fun _ => False) hbW4) (fun b h => h.elim) (fun b hb => ⟨Nat.lt_of_lt_of_le (HS.out.off b hb).1 hbW4.size, (HS.out.off b hb).2⟩)
            have hJ4 := HJ.out _ _ _ _ HJx.out ((Keeps.of_below' (O := fun _ => False) hbW4).mono fun b _ h => h.elim)
            have hax4 := Hax.out.stays hbW4
            have hiv4 := hiv3.stays hal4
            have hlow3 : ∀ b, some b = (Value.slice p3 (path.length + 1) c3).ownBlock → wr.heap.size ≤ b := fun b hb => by have := (hr3.lt b hb.symm).1; have := HSA.out; omega
            have hs3 := hbW.size
            generalize (w3.alloc (.cells #[.int .i64 x.kind, .string x.text, .slice px x.kids.length cx] 25)).alloc (.cells #[.slice p3 (path.length + 1) c3] 37) = W4 at *
            have hcx := countL_take n.kids j Hx.out
            have hcle : countL (n.kids.take (j + 1)) ≤ countL n.kids := by
              have := countL_append (n.kids.take (j + 1)) (n.kids.drop (j + 1)); rw [List.take_append_drop] at this; omega
            have hxl : xs.length = 1 + countL (n.kids.take j) := by
              have := congrArg List.length HX.out
              rw [List.length_map, List.length_map, List.length_cons, pathsL_length] at this; omega
            have hcn2 := countN_eq n
            have hdx : deepN x + 1 ≤ deepN n := by
              rw [deepN_eq n]
              have := deepL_take n.kids j Hx.out
              have := deepL_take_le n.kids (j + 1)
              omega
            have hseq := HIH.out 4 W4 _ _ _ _ (path ++ [(j : Int)]) w3.heap.size (w3.heap.size + 1) bn4 hax4 bp4 hiv4 (by rw [hrow4]; omega) (by omega)
            refine wpIn_rangeFunc_G (n := 5) (encs := pathE) rfl (by omega) (gf := 49) (lb := #[.pointer (some ⟨w3.heap.size + 1, 0, none⟩), .pointer (some ⟨w3.heap.size, 0, none⟩)]) rfl trivial (enters_of Tryd.func49 (by kernel_rfl) rfl)
              hseq (Below.refl _ _) ?hps (fun b (h : False) => h.elim) ?hR ?hS ?hSp
              (fun pre O W' => WSt l n (.slice (some ⟨b, o, none⟩) n.kids.length cu) (.slice pv path.length cv) path S Sp Bn Bp W.heap.size ds O W' ∧ J (xs ++ pre) O W') (fun c pre O W' => c = .ret ∧ WSt l n (.slice (some ⟨b, o, none⟩) n.kids.length cu) (.slice pv path.length cv) path S Sp Bn Bp W.heap.size ds O W' ∧ Jx (xs ++ pre) O W') O3 ?hO
              ?hI ?hIx ⟨hst4, by rw [List.append_nil]; exact hJ4⟩ ?hround ?hdone ?hstop
            case hps => intro y; rfl
            case hS => intro xs A B h _; exact h
            case hSp => intro xs A B h _; exact h
            case hR =>
              intro b hb
              rcases hb with hb | hb | hb | hb
              · exact hst4.lt b (.inl hb)
              · have := hb.2; omega
              · omega
              · omega
            case hO =>
              intro b hb
              have h1 := (HS.out.off b hb).1
              refine ⟨by omega, fun h => h, fun e => ?_⟩
              rcases e with e | e | e | e
              · exact (HS.out.off b hb).2 (.inl e)
              · have := hlow3 b e.1; omega
              · omega
              · omega
            case hI =>
              rintro pre O A B ⟨h1, h2⟩ hk
              refine ⟨h1.move hk (fun b hb hc => ?_) (fun b hb => ⟨Nat.lt_of_lt_of_le (h1.off b hb).1 hk.size, (h1.off b hb).2⟩), HJ.out _ _ _ _ h2 (hk.mono fun b _ h => ⟨h.1, .inr ?_⟩)⟩
              · have := hst4.lt b hc; exact hb.2.elim (fun h => h) (fun h => by omega)
              · have := hst4.lt W.heap.size (.inr (.inr (.inr (.inr (.inl rfl))))); exact h.2.elim (fun h => h.elim) (fun h => by omega)
            case hIx =>
              rintro c pre O A B ⟨hc, h1, h2⟩ hk
              refine ⟨hc, h1.move hk (fun b hb hc => ?_) (fun b hb => ⟨Nat.lt_of_lt_of_le (h1.off b hb).1 hk.size, (h1.off b hb).2⟩), HJX.out _ _ _ _ h2 (hk.mono fun b _ h => ⟨h.1, .inr ?_⟩)⟩
              · have := hst4.lt b hc; exact hb.2.elim (fun h => h) (fun h => by omega)
              · have := hst4.lt W.heap.size (.inr (.inr (.inr (.inr (.inl rfl))))); exact h.2.elim (fun h => h.elim) (fun h => by omega)
            case hround =>
              rintro l' pre y W5 O5 ⟨hst5, hJ5⟩ hltn hOl hsz5 hG hY5
              unfold pathE
              gi_wp2
              refine ⟨Keeps.refl _ _, fun Wb hkb hsb ⟨hstb, hJb⟩ hl' => ?_⟩
              have hcy := hstb.by'.cell
              have hYw := hst4.lt W.heap.size (.inr (.inr (.inr (.inr (.inl rfl)))))
              obtain ⟨fn, tmps, assign, body, hy, hR⟩ := HY.out (xs ++ pre) y Wb O5 hJb (by rw [List.length_append]; omega) (fun b hb => by have h1 := hG b hb; rw [hsb]; exact ⟨h1.1, by omega, h1.2.2.1⟩) (hY5.keeps hkb fun b hb e => (hG b hb).2.2.2 e)
              have HR := Lib.hid hR
              dsimp only [pathE] at hy
              have HSB := Lib.hid hsb
              have HG := Lib.hid hG
              have HSTB := Lib.hid hstb
              clear hR hsb hG hkb hY5 hJb hOl hst5 hJ5 hstb
              gi_wp2
              refine RoundIn.mono (show RoundIn (Fence.wide.inRound l') _ _ _ _ _ _ _ _ _ from roundIn_any (F := Fence.wide) rfl HR.out) ?_
              intro e W6 hp
              obtain ⟨q, O6, rfl, hk6, hO6, hq1, hq2⟩ := yield_q hp
              clear hy
              have hst6 : WSt l n (.slice (some ⟨b, o, none⟩) n.kids.length cu) (.slice pv path.length cv) path S Sp Bn Bp W.heap.size ds O6 W6 := by
                refine HSTB.out.move hk6 (fun d hd => ?_) (fun d hd => ⟨(hO6 d hd).2, fun hc => ?_⟩)
                · rcases hd with h | h
                  · exact (HSTB.out.off d h).2
                  · intro hc; have := hst4.lt d hc; have := (HG.out d h).2.1; omega
                · have h4 := hst4.lt d hc
                  rcases (hO6 d hd).1 with h | h | h
                  · exact (HSTB.out.off d h).2 hc
                  · have := (HG.out d h).2.1; omega
                  · have := HSB.out; omega
              have hO7 : ∀ d, O6 d → (O5 d ∨ pathG y d ∨ W5.heap.size ≤ d) ∧ d < W6.heap.size := fun d hd => by
                have := hO6 d hd
                rw [HSB.out] at this
                exact this
              have hk7 : Keeps (fun d => O5 d ∨ pathG y d ∨ W5.heap.size ≤ d) Wb W6 := hk6.mono fun d _ h => h.elim .inl fun h => .inr (.inl h)
              clear hk6 hO6 hp
              cases q
              · have hjx := hq2 rfl
                rw [List.append_assoc] at hjx
                clear hq1 hq2
                gi_wp2
                exact ⟨O6, hk7, hO7, rfl, hst6, hjx⟩
              · have hj7 := hq1 rfl
                rw [List.append_assoc] at hj7
                clear hq1 hq2
                gi_wp2
                exact ⟨O6, hk7, hO7, hst6, hj7⟩
            case hdone =>
              rintro D ys W7 O7 hD hS7 ⟨hst7, hJ7⟩ hOD hK7
              gi_wp2
              have hnc : ¬ coreB S Sp Bn Bp W.heap.size ds D := fun hc => by have := hst4.lt D hc; omega
              have hYw := hst4.lt W.heap.size (.inr (.inr (.inr (.inr (.inl rfl)))))
              have hxy : (xs ++ ys).map (fun x => x.2) = ([] :: pathsL (n.kids.take (j + 1)) 0).map (fun p => path ++ zs p) := by
                rw [List.map_append, HX.out, hS7, pathsL_take _ _ Hx.out]
                simp [Function.comp_def]
              refine ⟨⟨j + 1, O7, xs ++ ys, D :: ds, _, _, _, _, _, _, _, _, _, _, _, _, _, _, _, _, _, _, _, _, by omega, Lib.hid (hst7.mark hK7 hnc hOD (by omega)), Lib.hid hJ7, Lib.hid hxy, rfl⟩, ?_⟩
              simp [intOf]
              omega
            case hstop =>
              rintro D c pre W7 O7 hD _ ⟨rfl, hst7, hJx7⟩ hOD hK7
              gi_wp2
              have hnc : ¬ coreB S Sp Bn Bp W.heap.size ds D := fun hc => by have := hst4.lt D hc; omega
              have hYw := hst4.lt W.heap.size (.inr (.inr (.inr (.inr (.inl rfl)))))
              have hm := hst7.mark hK7 hnc hOD (by omega)
              refine leaves_marks (D :: ds) W7 hm.nd hm.mks fun W' hk => ⟨_, results_none rfl _ _ _, ⟨_, rfl⟩, .inr ⟨_, O7, trivial, HJX.out _ _ _ _ hJx7 (hk.mono fun d hd h => ⟨fun h2 => (hm.off d h2).2 (.inr (.inr (.inr (.inr (.inr h))))), .inr ?_⟩)⟩⟩
              exact hm.base d h
          gi_region_with (first
            | (refine ⟨trivial, ?_⟩; gi_at_call 50; (with_reducible refine (callsIn_wide.2 HclA.out).mono ?_); rintro e w2 ⟨v2, rfl, hr2, hb2⟩; obtain ⟨v3, w3, hrun, hr3, hb3, p3, c3, rfl⟩ := HappA.out w2 v2 hr2 hb2; obtain ⟨⟨q0, q1, q2⟩, q3⟩ := HlA.out w2 (((Below.refl WA.heap.size WA).drew).trans (show Below WA.heap.size WA.drew w2 from hb2)); obtain ⟨⟨s0, s1, s2⟩, s3⟩ := HlA.out (w2.alloc (.cells #[.int .i64 j] 3)) ((((Below.refl WA.heap.size WA).drew).trans (show Below WA.heap.size WA.drew w2 from hb2)).alloc hb2.size _); obtain ⟨⟨r0, r1, r2⟩, r3⟩ := HlA.out w3 hb3; have HR3 := Lib.hid hr3; have HB3 := Lib.hid hb3; clear hr2 hb2 hr3 hb3; simp [go_sem] at hrun)
            | (refine ⟨trivial, ?_⟩; gi_at_call 50; (with_reducible refine (callsIn_wide.2 HclB.out).mono ?_); rintro e w2 ⟨v2, rfl, hr2, hb2⟩; obtain ⟨v3, w3, hrun, hr3, hb3, p3, c3, rfl⟩ := HappB.out w2 v2 hr2 hb2; obtain ⟨⟨q0, q1, q2⟩, q3⟩ := HlA.out w2 (HbB.out.trans (hb2.mono HbB.out.size)); obtain ⟨⟨r0, r1, r2⟩, r3⟩ := HlA.out w3 hb3; have HR3 := Lib.hid hr3; have HB3 := Lib.hid hb3; clear hr2 hb2 hr3 hb3; simp [go_sem] at hrun)
            | (refine ⟨trivial, ?_⟩; gi_at_call 36; (with_reducible refine (callsIn_wide.2 (Hwalk.out p3 c3 w3)).mono ?_); rintro e w4 ⟨rfl, rfl⟩))
          all_goals exact hend2 _ _ _ _ _ _ p3 c3 w3 HR3.out HB3.out
        · obtain rfl : j = n.kids.length := by omega
          have hm := HS.out
          have hx2 := HX.out
          rw [List.take_length] at hx2
          clear HS HX
          gi_wp2
          refine leaves_marks ds wr hm.nd hm.mks fun W' hk => ⟨_, results_none rfl _ _ _, ⟨_, rfl⟩, .inl ⟨xs, O3, by rw [pathsN_eq]; exact hx2, HJ.out _ _ _ _ HJx.out (hk.mono fun d hd h => ⟨fun h2 => (hm.off d h2).2 (.inr (.inr (.inr (.inr (.inr h))))), .inr ?_⟩)⟩⟩
          exact hm.base d h
  gi_region_with (first
    | (refine ⟨trivial, ?_⟩; gi_at_call 50; refine (callsIn_wide.2 (Hcl.out _ (by first | exact Below.refl _ _ | exact (Below.refl _ _).drew))).mono ?_; rintro e w2 ⟨v2, rfl, hr2, hb2⟩; obtain ⟨fn, tmps, assign, body, hy, hR⟩ := Hyy.out _ w2 v2 (by first | exact Below.refl _ _ | exact (Below.refl _ _).drew) hr2 hb2; have HR := Lib.hid hR; have Hr2 := Lib.hid hr2; have Hb2 := Lib.hid (show Below W1.heap.size W1 w2 from (show Below W1.heap.size W1 _ by first | exact Below.refl _ _ | exact (Below.refl _ _).drew).trans hb2); dsimp only [pathE] at hy; have hcy2 := Hcy.out _ w2 (by first | exact Below.refl _ _ | exact (Below.refl _ _).drew) hb2; clear hR hr2 hb2)
    | (refine HR.out.mono ?_; intro e W3 hp; obtain ⟨q, O2, rfl, hk3, hO2, hq1, hq2⟩ := yield_q hp))
  all_goals
    refine hend q _ _ _ _ v2 O2 W3 ?_ hq1 hq2
    have hst2 := HST.out.move (O' := O) (Keeps.of_below' (O := fun _ => False) Hb2.out) (fun b h => h.elim) (fun b hb => ⟨Nat.lt_of_lt_of_le (HST.out.off b hb).1 Hb2.out.size, (HST.out.off b hb).2⟩)
    refine hst2.move hk3 (fun b hb => ?_) (fun b hb => ⟨(hO2 b hb).2, fun e => ?_⟩)
    · rcases hb with hb | hb
      · exact (hst2.off b hb).2
      · intro e; have := HST.out.lt b e; have := (Hr2.out.lt b hb.symm).1; simp at this; omega
    · rcases (hO2 b hb).1 with hb | hb | hb
      · exact (hst2.off b hb).2 e
      · have := HST.out.lt b e; have := (Hr2.out.lt b hb.symm).1; simp at this; omega
      · have := hst2.lt b e; omega
end Go.Proofs.YtigpffbhkopjeaaDoor
