/- The lexer's iterator, walked (under way). -/
import Derived.RangeFuncNested
import Derived.RangeFuncBound
import Derived.RangeFuncCalls
import Derived.RangeFuncLeaves
import Derived.Shelf.Abstract
import Derived.Shelf.RegionOpen
import Derived.OwnWalkIn
import Derived.TacticsInMore
import Derived.LoopNIn
import Derived.LoopIn
import Derived.RegionIn
import Derived.Test.YtiinhkfbgecbjaaGreatDoorLx13
import Derived.Test.YtiinhkfbgecbjaaGreatDoorRange
namespace Go.Proofs.YtiinhkfbgecbjaaGreatDoor
set_option linter.unusedSimpArgs false
set_option linter.unusedVariables false
open Go.RowKit Go.Sub
attribute [local go_sem] Oper.semAt_some

abbrev Tok3 := Nat × Nat × Nat
def tokV (l : List UInt8) (x : Tok3) : Array Value := #[.agg #[.int .i64 (x.1 : Int), .string ⟨((l.drop x.2.1).take x.2.2).toArray⟩]]
/-- which tokens have been told, and where the lexer stands -/
inductive Reach (l : List UInt8) : List Tok3 → Nat → List Nat → Bool → Prop
  | nil : Reach l [] 0 [] false
  | snoc {pre : List Tok3} {at' : Nat} {st : List Nat} {inn : Bool} {k n : Nat} {st2 : List Nat} {inn2 : Bool} : Reach l pre at' st inn → at' < l.length → stepN (l.drop at') st inn = (k, n, st2, inn2, 0) → Reach l (pre ++ [(k, at', n)]) (at' + n) st2 inn2
def cellInt : Option Value → Nat | some (.int _ n) => n.toNat | _ => 0
/-- how all lies at the head of a round -/
structure AtHead (W wr : World) (X B1 B3 TB : Nat) (s : ByteArray) (pre : List Tok3) (at' : Nat) (st : List Nat) (inn : Bool) (v : Value) (O : Nat → Prop) : Prop where
  reach : Reach s.data.toList pre at' st inn
  lex : LexSt wr X s at' v st inn 0
  b1 : Boxed wr B1 76 (.pointer (some ⟨X, 0, none⟩))
  b3 : Boxed wr B3 92 (.slice (some ⟨TB, 0, none⟩) 9 9)
  tab : wr.heap[TB]? = some (.cells triesC.toArray 103 (0, 0))
  size : W.heap.size ≤ wr.heap.size
  le : at' ≤ s.size
  noX : ¬ O X
  no1 : ¬ O B1
  no3 : ¬ O B3
  noT : ¬ O TB
  noV : ∀ g, some g = v.ownBlock → ¬ O g
  newV : ∀ g, some g = v.ownBlock → W.heap.size ≤ g
  a1 : ¬ some B1 = v.ownBlock
  a3 : ¬ some B3 = v.ownBlock
  aT : ¬ some TB = v.ownBlock
  d1 : B1 ≠ X
  d3 : B3 ≠ X
  dT : TB ≠ X

theorem reach_facts {l : List UInt8} {pre : List Tok3} {at' : Nat} {st : List Nat} {inn : Bool} (h : Reach l pre at' st inn) : at' ≤ l.length ∧ st.length ≤ 256 ∧ (∀ x ∈ st, x ≤ at') ∧ pre.length ≤ at' := by
  induction h with
  | nil => exact ⟨Nat.zero_le _, Nat.zero_le _, fun x h => by simp at h, Nat.le_refl _⟩
  | @snoc pre at' st inn k n st2 inn2 _ hlt hs ih =>
    obtain ⟨i1, i2, i3, i4⟩ := ih
    have hg := stepN_good (l.drop at') st inn at' (fun e => by have := congrArg List.length e; rw [List.length_drop] at this; simp at this; omega) i2 i3
    rw [hs] at hg
    obtain ⟨g1, g2, g3, g4⟩ := hg rfl
    dsimp only at g1 g2 g3 g4
    rw [List.length_drop] at g2
    exact ⟨by omega, g3, fun x hx => by have := g4 x hx; omega, by rw [List.length_append]; simp only [List.length_cons, List.length_nil]; omega⟩
theorem LexSt.drew' {w : World} {X : Nat} {s : ByteArray} {at' : Nat} {v : Value} {st : List Nat} {inn : Bool} {er : Int} (h : LexSt w X s at' v st inn er) : LexSt w.drew X s at' v st inn er := ⟨h.blk, h.own⟩

/-- how the lexer ends: at an error, or at the text's end -/
def Done (s : ByteArray) (X : Nat) (ys : List Tok3) (W' : World) : Prop :=
  ∃ (at' : Nat) (st : List Nat) (inn : Bool) (v : Value) (st2 : List Nat) (inn2 : Bool) (er : Nat), Reach s.data.toList ys at' st inn ∧ LexSt W' X s at' v st2 inn2 (er : Int) ∧
    ((at' < s.size ∧ er ≠ 0 ∧ (stepN (s.data.toList.drop at') st inn).2.2.2.2 = er) ∨ (at' = s.size ∧ er = if inn || !st.isEmpty then 13 else 0))
/-- behind a step, with the token laid in a block: what the body still has, and what can be read -/
theorem head_after {W wr w2 : World} {X B1 B3 TB : Nat} {s : ByteArray} {pre : List Tok3} {at' : Nat} {st st2 : List Nat} {inn inn2 : Bool} {v v' : Value} {O : Nat → Prop} {J : List Tok3 → (Nat → Prop) → World → Prop} {er : Int} (HH : AtHead W wr X B1 B3 TB s pre at' st inn v O) (hJ0 : J pre O wr) (hO : ∀ b, O b → b < wr.heap.size)
    (hJ : ∀ pre O A B, J pre O A → Keeps (fun b => ¬ O b ∧ (b = X ∨ W.heap.size ≤ b)) A B → J pre O B) (h2 : LexSt w2 X s at' v' st2 inn2 er) (hk : Keeps (lexO X v) wr.drew w2) (kd : Value) (R : List UInt8) :
    J pre O (w2.alloc (.cells #[kd, .string ⟨R.toArray⟩] 29)) ∧ (w2.alloc (.cells #[kd, .string ⟨R.toArray⟩] 29)).cell? ⟨B1, 0, none⟩ = some (.pointer (some ⟨X, 0, none⟩)) ∧ (w2.alloc (.cells #[kd, .string ⟨R.toArray⟩] 29)).cell? ⟨X, 4, none⟩ = some (.int .u16 er) ∧ (w2.alloc (.cells #[kd, .string ⟨R.toArray⟩] 29)).cell? ⟨w2.heap.size, 0, none⟩ = some kd ∧ (w2.alloc (.cells #[kd, .string ⟨R.toArray⟩] 29)).cell? ⟨w2.heap.size, 1, none⟩ = some (.string ⟨R.toArray⟩) := by
  have hA : Below w2.heap.size w2 (w2.alloc (.cells #[kd, .string ⟨R.toArray⟩] 29)) := (Below.refl _ _).alloc (Nat.le_refl _) _
  have hn := World.alloc_heap_new w2 (.cells #[kd, .string ⟨R.toArray⟩] 29)
  have hb1 : w2.cell? ⟨B1, 0, none⟩ = some (.pointer (some ⟨X, 0, none⟩)) := hk.cell (show wr.drew.cell? ⟨B1, 0, none⟩ = _ from HH.b1.cell) (fun e => e.elim HH.d1 HH.a1)
  have c4 := h2.c4
  refine ⟨hJ _ _ _ _ hJ0 ?_, (hA.cell (World.block_lt_of_cell? _ _ hb1)).trans hb1, (hA.cell (World.block_lt_of_cell? _ _ c4)).trans c4, cell_of_block hn rfl, cell_of_block hn rfl⟩
  refine (((Keeps.drew wr).trans hk).mono (O' := fun b => ¬ O b ∧ (b = X ∨ W.heap.size ≤ b)) ?_).trans' (Keeps.of_below' (O := fun _ => False) hA) (fun _ _ h => h.elim)
  intro b _ e
  rcases e with e | e
  · exact ⟨by rw [e]; exact HH.noX, .inl e⟩
  · exact ⟨HH.noV b e, .inr (HH.newV b e)⟩

/-- behind the yield: what can be read -/
theorem head_read {W wr w2 W3 : World} {X B1 B3 TB : Nat} {s : ByteArray} {pre : List Tok3} {at' : Nat} {st st2 : List Nat} {inn inn2 : Bool} {v v' : Value} {O : Nat → Prop} {er : Int} {kd tx : Value} (HH : AtHead W wr X B1 B3 TB s pre at' st inn v O) (hO : ∀ b, O b → b < wr.heap.size)
    (h2 : LexSt w2 X s at' v' st2 inn2 er) (hk : Keeps (lexO X v) wr.drew w2) (hv : v'.ownBlock = v.ownBlock ∨ ∃ g, v'.ownBlock = some g ∧ wr.drew.heap.size ≤ g) (hk3 : Keeps O (w2.alloc (.cells #[kd, tx] 29)) W3) :
    W3.cell? ⟨B1, 0, none⟩ = some (.pointer (some ⟨X, 0, none⟩)) ∧ W3.cell? ⟨X, 1, none⟩ = some (.int .i64 (at' : Int)) ∧ W3.frozen? ⟨X, 1, none⟩ = false ∧ W3.cell? ⟨w2.heap.size, 1, none⟩ = some tx ∧ LexSt W3 X s at' v' st2 inn2 er := by
  have hA : Below w2.heap.size w2 (w2.alloc (.cells #[kd, tx] 29)) := (Below.refl _ _).alloc (Nat.le_refl _) _
  have hn := World.alloc_heap_new w2 (.cells #[kd, tx] 29)
  have hsz : wr.heap.size ≤ w2.heap.size := hk.size
  have hb1 : w2.cell? ⟨B1, 0, none⟩ = some (.pointer (some ⟨X, 0, none⟩)) := hk.cell (show wr.drew.cell? ⟨B1, 0, none⟩ = _ from HH.b1.cell) (fun e => e.elim HH.d1 HH.a1)
  have hb1' := (hA.cell (World.block_lt_of_cell? _ _ hb1)).trans hb1
  have hv' : ∀ g, some g = v'.ownBlock → ¬ O g := fun g hg e => by
    rcases hv with hv | ⟨g', hv, hg'⟩
    · exact HH.noV g (hg.trans hv) e
    · rw [hv] at hg; cases hg
      have : wr.heap.size ≤ g := hg'
      have := hO g e
      omega
  have h3 : LexSt W3 X s at' v' st2 inn2 er := (h2.below hA).keeps hk3 HH.noX hv'
  exact ⟨hk3.cell hb1' HH.no1, h3.c1, h3.free 1, cell_of_block (hk3.heap hn (fun e => by have := hO _ e; omega)) rfl, h3⟩

/-- the head of the next round -/
theorem head_next {W wr w2 W3 : World} {X B1 B3 TB : Nat} {s : ByteArray} {pre pre2 : List Tok3} {at' at2 : Nat} {st st2 : List Nat} {inn inn2 : Bool} {v v' : Value} {O O2 : Nat → Prop} {er : Int} {kd tx : Value} (HH : AtHead W wr X B1 B3 TB s pre at' st inn v O) (hO : ∀ b, O b → b < wr.heap.size)
    (h2 : LexSt w2 X s at' v' st2 inn2 er) (hk : Keeps (lexO X v) wr.drew w2) (hv : v'.ownBlock = v.ownBlock ∨ ∃ g, v'.ownBlock = some g ∧ wr.drew.heap.size ≤ g) (hk3 : Keeps O (w2.alloc (.cells #[kd, tx] 29)) W3) (hO2 : ∀ b, O2 b → (O b ∨ (w2.alloc (.cells #[kd, tx] 29)).heap.size ≤ b) ∧ b < W3.heap.size)
    (h3 : LexSt W3 X s at' v' st2 inn2 0) (hreach : Reach s.data.toList pre2 at2 st2 inn2) (hle : at2 ≤ s.size) :
    AtHead W (W3.setCell ⟨X, 1, none⟩ (.int .i64 (at2 : Int))).drew X B1 B3 TB s pre2 at2 st2 inn2 v' O2 ∧ (∀ b, O2 b → b < (W3.setCell ⟨X, 1, none⟩ (.int .i64 (at2 : Int))).drew.heap.size) ∧ Keeps (fun b => ¬ O2 b ∧ (b = X ∨ W.heap.size ≤ b)) W3 (W3.setCell ⟨X, 1, none⟩ (.int .i64 (at2 : Int))).drew := by
  have hA : Below w2.heap.size w2 (w2.alloc (.cells #[kd, tx] 29)) := (Below.refl _ _).alloc (Nat.le_refl _) _
  have hsA : (w2.alloc (.cells #[kd, tx] 29)).heap.size = w2.heap.size + 1 := by simp
  have hsz : wr.heap.size ≤ w2.heap.size := hk.size
  have kset := keeps_setCell (O := fun b => b = X) W3 X 1 (.int .i64 (at2 : Int)) rfl
  have kd4 : Keeps (fun b => b = X) W3 (W3.setCell ⟨X, 1, none⟩ (.int .i64 (at2 : Int))).drew := kset.trans (Keeps.drew _)
  have kA : Keeps (fun _ => False) w2 (w2.alloc (.cells #[kd, tx] 29)) := Keeps.of_below' hA
  have old : ∀ b, b < wr.heap.size → ¬ O b → ¬ O2 b := fun b hb ho e => by
    rcases (hO2 b e).1 with h | h
    · exact ho h
    · omega
  have all : ∀ {b : Nat} {o : Obj}, wr.heap[b]? = some o → b ≠ X → ¬ some b = v.ownBlock → ¬ O b → (W3.setCell ⟨X, 1, none⟩ (.int .i64 (at2 : Int))).drew.heap[b]? = some o := fun {b o} h hX hV ho =>
    kd4.heap (hk3.heap (kA.heap (hk.heap (show wr.drew.heap[b]? = some o from h) (fun e => e.elim hX hV)) (fun h => h)) ho) hX
  have hXl := heap_lt HH.lex.blk
  have vcase : ∀ g, some g = v'.ownBlock → (some g = v.ownBlock ∨ wr.heap.size ≤ g) := fun g hg => by
    rcases hv with hv | ⟨g', hv, hg'⟩
    · exact .inl (hg.trans hv)
    · rw [hv] at hg; cases hg; exact .inr hg'
  have vlt : ∀ g, some g = v'.ownBlock → g < w2.heap.size := fun g hg => (h2.own.lt g hg.symm).2
  have hset : LexSt (W3.setCell ⟨X, 1, none⟩ (.int .i64 (at2 : Int))).drew X s at2 v' st2 inn2 0 :=
    ⟨heap_setCell_same W3 X 1 _ _ _ h3.blk, ownsRow_setCell_other h3.own h3.apart _⟩
  have hb1l := HH.b1.lt
  have hb3l := HH.b3.lt
  have htl := heap_lt HH.tab
  refine ⟨⟨hreach, hset, all HH.b1 HH.d1 HH.a1 HH.no1, all HH.b3 HH.d3 HH.a3 HH.no3, all HH.tab HH.dT HH.aT HH.noT, ?_, hle, old X hXl HH.noX, old B1 hb1l HH.no1, old B3 hb3l HH.no3, old TB htl HH.noT, ?_, ?_, ?_, ?_, ?_, HH.d1, HH.d3, HH.dT⟩, ?_, ?_⟩
  · have h1 := HH.size
    have h2' := hk3.size
    have h3' := kd4.size
    omega
  · intro g hg e
    have hgl := vlt g hg
    rcases (hO2 g e).1 with h | h
    · rcases vcase g hg with hc | hc
      · exact HH.noV g hc h
      · have := hO g h; omega
    · omega
  · intro g hg
    rcases vcase g hg with hc | hc
    · exact HH.newV g hc
    · have := HH.size; omega
  · intro e
    rcases vcase B1 e with hc | hc
    · exact HH.a1 hc
    · omega
  · intro e
    rcases vcase B3 e with hc | hc
    · exact HH.a3 hc
    · omega
  · intro e
    rcases vcase TB e with hc | hc
    · exact HH.aT hc
    · omega
  · intro b hb
    exact Nat.lt_of_lt_of_le (hO2 b hb).2 kd4.size
  · exact kd4.mono fun b _ e => ⟨by rw [e]; exact old X hXl HH.noX, .inl e⟩

set_option maxRecDepth 100000 in
set_option maxHeartbeats 4000000 in
theorem all_in (n : Nat) (hn : 3 ≤ n) (l : Nat) (X B1 : Nat) (s : ByteArray) (hs : s.size ≤ 65536) (hd1 : B1 ≠ X) (J Jx : List Tok3 → (Nat → Prop) → World → Prop) (W : World) (O : Nat → Prop)
    (hO : ∀ b, O b → b < W.heap.size ∧ ¬ b = X ∧ ¬ b = B1)
    (hJ : ∀ pre O A B, J pre O A → Keeps (fun b => ¬ O b ∧ (b = X ∨ W.heap.size ≤ b)) A B → J pre O B)
    (hY : ∀ pre x W1 O1, J pre O1 W1 → pre.length < 65537 → YieldAt Fence.wide (n - 1) Tryz.prog l (tokV s.data.toList x) W1 fun e W' => ∃ O2, Keeps O1 W1 W' ∧ (∀ b, O2 b → (O1 b ∨ W1.heap.size ≤ b) ∧ b < W'.heap.size) ∧
      ((e = .returned (.bool true) ∧ J (pre ++ [x]) O2 W') ∨ (e = .returned (.bool false) ∧ Jx (pre ++ [x]) O2 W')))
    (hst : LexSt W X s 0 (.slice none 0 0) [] false 0) (hb1 : Boxed W B1 76 (.pointer (some ⟨X, 0, none⟩))) (h0 : J [] O W) :
    CallsIn Fence.wide n Tryz.prog 60 #[.func (.yield l) #[] #[], .pointer (some ⟨B1, 0, none⟩)] W fun e W' => (∃ v, e = .returned v) ∧
      ((∃ ys O', Done s X ys W' ∧ J ys O' W') ∨ (∃ pre O', Jx pre O' W')) := by
  refine callsIn_of_wp Tryz.func60 rfl trivial ?_ rfl
  simp only [Tryz.ntmps60, List.size_toArray, List.length_cons, List.length_nil, Nat.reduceAdd, Nat.reduceSub, Array.replicate_succ, Array.replicate_zero, List.push_toArray, List.append_toArray, List.nil_append, List.cons_append]
  have htr := fun w => tries_calls w
  gi_wp2_with (refine ⟨trivial, fun _ => by omega, ?_⟩; gi_at_call 61; refine (callsIn_wide.2 (htr _)).mono ?_; rintro e w' ⟨rfl, rfl⟩)
  clear htr
  have hB0 : Below W.heap.size W ((W.alloc (.cells triesC.toArray 103)).alloc (.cells #[.slice (some ⟨W.heap.size, 0, none⟩) 9 9] 92)) := ((Below.refl _ _).alloc (Nat.le_refl _) _).alloc (by simp) _
  have ht0 : ((W.alloc (.cells triesC.toArray 103)).alloc (.cells #[.slice (some ⟨W.heap.size, 0, none⟩) 9 9] 92)).heap[W.heap.size]? = some (.cells triesC.toArray 103 (0, 0)) := (Below.heap_alloc _ _ _ (by simp)).trans (World.alloc_heap_new W _)
  have hb3 : Boxed ((W.alloc (.cells triesC.toArray 103)).alloc (.cells #[.slice (some ⟨W.heap.size, 0, none⟩) 9 9] 92)) (W.heap.size + 1) 92 (.slice (some ⟨W.heap.size, 0, none⟩) 9 9) := by
    have := Boxed.new (W.alloc (.cells triesC.toArray 103)) 92 (.slice (some ⟨W.heap.size, 0, none⟩) 9 9)
    simpa using this
  have hXl : X < W.heap.size := heap_lt hst.blk
  have hBl : B1 < W.heap.size := hb1.lt
  have hh : AtHead W ((W.alloc (.cells triesC.toArray 103)).alloc (.cells #[.slice (some ⟨W.heap.size, 0, none⟩) 9 9] 92)) X B1 (W.heap.size + 1) W.heap.size s [] 0 [] false (.slice none 0 0) O :=
    ⟨.nil, hst.below hB0, boxed_keeps hb1 (Keeps.of_below' (O := fun _ => False) hB0) (fun h => h), hb3, ht0, hB0.size, Nat.zero_le _, (fun h => (hO _ h).2.1 rfl), (fun h => (hO _ h).2.2 rfl), (fun h => absurd (hO _ h).1 (by omega)), (fun h => absurd (hO _ h).1 (by omega)), (fun g hg => by cases hg), (fun g hg => by cases hg), (fun h => by cases h), (fun h => by cases h), (fun h => by cases h), hd1, (by omega), (by omega)⟩
  have hJ0 : J [] O ((W.alloc (.cells triesC.toArray 103)).alloc (.cells #[.slice (some ⟨W.heap.size, 0, none⟩) 9 9] 92)) := hJ _ _ _ _ h0 (Keeps.of_below' hB0)
  have hO0 : ∀ b, O b → b < ((W.alloc (.cells triesC.toArray 103)).alloc (.cells #[.slice (some ⟨W.heap.size, 0, none⟩) 9 9] 92)).heap.size := fun b hb => by have := (hO b hb).1; simp; omega
  have HH := Lib.hid hh
  have HJ0 := Lib.hid hJ0
  have HO0 := Lib.hid hO0
  clear hB0 ht0 hb3 hh hJ0 hO0 h0 hst hb1
  generalize (W.alloc (.cells triesC.toArray 103)).alloc (.cells #[.slice (some ⟨W.heap.size, 0, none⟩) 9 9] 92) = W0 at *
  gi_loopw [4, 5] (fun _ _ wr => ∃ (pre : List Tok3) (at' : Nat) (st : List Nat) (inn : Bool) (v : Value) (O : Nat → Prop), Hid (AtHead W wr X B1 (W.heap.size + 1) W.heap.size s pre at' st inn v O) ∧ Hid (J pre O wr) ∧ Hid (∀ b, O b → b < wr.heap.size))
    (fun _ _ wr => s.size - cellInt (wr.cell? ⟨X, 1, none⟩))
  case atStart => exact ⟨[], 0, [], false, _, O, HH, HJ0, HO0⟩
  case round =>
    clear HH HJ0 HO0 hO O
    obtain ⟨pre, at', st, inn, v, O, HH, HJ, HO⟩ := hrel
    have k1 := HH.out.b1.cell
    have c0 := HH.out.lex.c0
    have c1 := HH.out.lex.c1
    have hle := HH.out.le
    by_cases hlt : at' < s.size
    · obtain ⟨r1, r2, r3, r4⟩ := reach_facts HH.out.reach
      rw [← Lib.size_eq] at r1
      have hXw : X < wr.heap.size := heap_lt HH.out.lex.blk
      have k3 := HH.out.b3.cell
      cases inn
      · have c3 := HH.out.lex.c3
        have hins := fun h => close_calls (w := wr.drew) (HH.out.lex.drew') HH.out.tab HH.out.dT HH.out.aT hlt hs (fun x hx => by have := r3 x hx; omega) h (show wr.drew.cell? ⟨B1, 0, none⟩ = _ from k1) (show wr.drew.cell? ⟨W.heap.size + 1, 0, none⟩ = _ from k3)
        have hstep : stepN (s.data.toList.drop at') st false = outN (s.data.toList.drop at') st := rfl
        have hgood := stepN_good (s.data.toList.drop at') st false at' (fun e => by have := congrArg List.length e; rw [List.length_drop, ← Lib.size_eq] at this; simp at this; omega) r2 r3 
        rw [← hstep] at hins 
        generalize hr5 : stepN (s.data.toList.drop at') st false = r5 at * 
        obtain ⟨k, m, st2, inn2, er⟩ := r5 
        have Hins := Lib.hid (hins hXw) 
        have Hr5 := Lib.hid hr5 
        have Hgood := Lib.hid hgood 
        clear hins hstep hgood hr5 k3 
        cases er 
        · gi_wp2 
          gi_region 
          gi_wp2_with (refine ⟨trivial, fun _ => by omega, ?_⟩; gi_at_call 63; refine (callsIn_wide.2 Hins.out).mono ?_; rintro e w2 ⟨v', R, rfl, hRd, h2, hk2, hv2⟩; obtain rfl : R = ⟨((s.data.toList.drop at').take m).toArray⟩ := (by rw [← hRd]); obtain ⟨z1, z2, z3, z4, z5⟩ := head_after HH.out HJ.out HO.out hJ h2 hk2 (.int .i64 (k : Int)) ((s.data.toList.drop at').take m); obtain ⟨fn, tmps, assign, body, hy, hR⟩ := hY pre (k, at', m) _ O z1 (by omega); have HR := Lib.hid hR; have H2 := Lib.hid h2; have Hk2 := Lib.hid hk2; have Hv2 := Lib.hid hv2; clear hRd h2 hk2 hv2 k1 c0 c1 c3 z1 hR; dsimp only [tokV] at hy) 
          refine ⟨fun _ => by omega, ?_⟩ 
          refine HR.out.mono ?_ 
          clear hy 
          rintro e W3 ⟨O2, hk3, hO2', (⟨rfl, hJ3⟩ | ⟨rfl, hJx3⟩)⟩ 
          · obtain ⟨m0, m1, m2, m3, m4⟩ := head_read HH.out HO.out H2.out Hk2.out Hv2.out hk3 
            clear z2 z3 z4 z5 
            gi_wp2 
            gi_region 
            gi_wp2 
            obtain ⟨g1, g2, g3, _⟩ := Hgood.out rfl 
            dsimp only at g1 g2 
            rw [List.length_drop, ← Lib.size_eq] at g2 
            have hmin : min m (s.size - at') = m := by omega 
            rw [hmin, show ((at' : Int) + (m : Int)) = ((at' + m : Nat) : Int) by omega] 
            obtain ⟨n1, n2, n3⟩ := head_next HH.out HO.out H2.out Hk2.out Hv2.out hk3 hO2' m4 (.snoc HH.out.reach (by rw [← Lib.size_eq]; exact hlt) Hr5.out) (by omega) 
            refine ⟨⟨_, at' + m, st2, inn2, v', O2, Lib.hid n1, Lib.hid (hJ _ _ _ _ hJ3 n3), Lib.hid n2⟩, ?_⟩ 
            rw [n1.lex.c1, HH.out.lex.c1] 
            simp only [cellInt, Int.toNat_natCast] 
            omega 
          · gi_wp2 
            refine bodyPost_ret (results_none rfl _ _ _) rfl ?_ 
            exact ⟨⟨_, rfl⟩, .inr ⟨_, O2, hJx3⟩⟩ 
        · rename_i er 
          gi_wp2 
          gi_region 
          have yer : (((er + 1 : Nat) : Int) != 0) = true := by rw [bne_iff_ne]; omega 
          gi_wp2_with (refine ⟨trivial, fun _ => by omega, ?_⟩; gi_at_call 63; refine (callsIn_wide.2 Hins.out).mono ?_; rintro e w2 ⟨v', R, rfl, hRd, h2, hk2, hv2⟩; obtain rfl : R = ⟨((s.data.toList.drop at').take m).toArray⟩ := (by rw [← hRd]); obtain ⟨z1, z2, z3, z4, z5⟩ := head_after HH.out HJ.out HO.out hJ h2 hk2 (.int .i64 (k : Int)) ((s.data.toList.drop at').take m); have Z1 := Lib.hid z1; have H2 := Lib.hid h2; have Hk2 := Lib.hid hk2; have Hv2 := Lib.hid hv2; clear hRd h2 hk2 hv2 k1 c0 c1 c3 z1) 
          all_goals 
            (try (refine ⟨(fun f h => by cases h), ?_⟩)) 
            gi_wp2 
            refine bodyPost_ret (results_none rfl _ _ _) rfl ?_ 
            exact ⟨⟨_, rfl⟩, .inl ⟨pre, O, ⟨at', st, _, v', st2, inn2, er + 1, HH.out.reach, H2.out.below ((Below.refl _ _).alloc (Nat.le_refl _) _), .inl ⟨hlt, by omega, by rw [Hr5.out]⟩⟩, Z1.out⟩⟩
      · have c3 := HH.out.lex.c3
        have hins := fun h => inside_calls (w := wr.drew) (HH.out.lex.drew') hlt hs r2 h
        have hstep : stepN (s.data.toList.drop at') st true = insN (s.data.toList.drop at') st := rfl
        have hgood := stepN_good (s.data.toList.drop at') st true at' (fun e => by have := congrArg List.length e; rw [List.length_drop, ← Lib.size_eq] at this; simp at this; omega) r2 r3 
        rw [← hstep] at hins 
        generalize hr5 : stepN (s.data.toList.drop at') st true = r5 at * 
        obtain ⟨k, m, st2, inn2, er⟩ := r5 
        have Hins := Lib.hid (hins hXw) 
        have Hr5 := Lib.hid hr5 
        have Hgood := Lib.hid hgood 
        clear hins hstep hgood hr5 k3 
        cases er 
        · gi_wp2 
          gi_region 
          gi_wp2_with (refine ⟨trivial, fun _ => by omega, ?_⟩; gi_at_call 62; refine (callsIn_wide.2 Hins.out).mono ?_; rintro e w2 ⟨v', R, rfl, hRd, h2, hk2, hv2⟩; obtain rfl : R = ⟨((s.data.toList.drop at').take m).toArray⟩ := (by rw [← hRd]); obtain ⟨z1, z2, z3, z4, z5⟩ := head_after HH.out HJ.out HO.out hJ h2 hk2 (.int .i64 (k : Int)) ((s.data.toList.drop at').take m); obtain ⟨fn, tmps, assign, body, hy, hR⟩ := hY pre (k, at', m) _ O z1 (by omega); have HR := Lib.hid hR; have H2 := Lib.hid h2; have Hk2 := Lib.hid hk2; have Hv2 := Lib.hid hv2; clear hRd h2 hk2 hv2 k1 c0 c1 c3 z1 hR; dsimp only [tokV] at hy) 
          refine ⟨fun _ => by omega, ?_⟩ 
          refine HR.out.mono ?_ 
          clear hy 
          rintro e W3 ⟨O2, hk3, hO2', (⟨rfl, hJ3⟩ | ⟨rfl, hJx3⟩)⟩ 
          · obtain ⟨m0, m1, m2, m3, m4⟩ := head_read HH.out HO.out H2.out Hk2.out Hv2.out hk3 
            clear z2 z3 z4 z5 
            gi_wp2 
            gi_region 
            gi_wp2 
            obtain ⟨g1, g2, g3, _⟩ := Hgood.out rfl 
            dsimp only at g1 g2 
            rw [List.length_drop, ← Lib.size_eq] at g2 
            have hmin : min m (s.size - at') = m := by omega 
            rw [hmin, show ((at' : Int) + (m : Int)) = ((at' + m : Nat) : Int) by omega] 
            obtain ⟨n1, n2, n3⟩ := head_next HH.out HO.out H2.out Hk2.out Hv2.out hk3 hO2' m4 (.snoc HH.out.reach (by rw [← Lib.size_eq]; exact hlt) Hr5.out) (by omega) 
            refine ⟨⟨_, at' + m, st2, inn2, v', O2, Lib.hid n1, Lib.hid (hJ _ _ _ _ hJ3 n3), Lib.hid n2⟩, ?_⟩ 
            rw [n1.lex.c1, HH.out.lex.c1] 
            simp only [cellInt, Int.toNat_natCast] 
            omega 
          · gi_wp2 
            refine bodyPost_ret (results_none rfl _ _ _) rfl ?_ 
            exact ⟨⟨_, rfl⟩, .inr ⟨_, O2, hJx3⟩⟩ 
        · rename_i er 
          gi_wp2 
          gi_region 
          have yer : (((er + 1 : Nat) : Int) != 0) = true := by rw [bne_iff_ne]; omega 
          gi_wp2_with (refine ⟨trivial, fun _ => by omega, ?_⟩; gi_at_call 62; refine (callsIn_wide.2 Hins.out).mono ?_; rintro e w2 ⟨v', R, rfl, hRd, h2, hk2, hv2⟩; obtain rfl : R = ⟨((s.data.toList.drop at').take m).toArray⟩ := (by rw [← hRd]); obtain ⟨z1, z2, z3, z4, z5⟩ := head_after HH.out HJ.out HO.out hJ h2 hk2 (.int .i64 (k : Int)) ((s.data.toList.drop at').take m); have Z1 := Lib.hid z1; have H2 := Lib.hid h2; have Hk2 := Lib.hid hk2; have Hv2 := Lib.hid hv2; clear hRd h2 hk2 hv2 k1 c0 c1 c3 z1) 
          all_goals 
            (try (refine ⟨(fun f h => by cases h), ?_⟩)) 
            gi_wp2 
            refine bodyPost_ret (results_none rfl _ _ _) rfl ?_ 
            exact ⟨⟨_, rfl⟩, .inl ⟨pre, O, ⟨at', st, _, v', st2, inn2, er + 1, HH.out.reach, H2.out.below ((Below.refl _ _).alloc (Nat.le_refl _) _), .inl ⟨hlt, by omega, by rw [Hr5.out]⟩⟩, Z1.out⟩⟩
    · have hat : at' = s.size := by omega
      subst hat
      have c3 := HH.out.lex.c3
      have c4 := HH.out.lex.c4
      have f4 := HH.out.lex.free 4
      have hJX : ∀ B', Keeps (fun b => b = X) wr B' → J pre O B' := fun B' h => hJ _ _ _ _ HJ.out (h.mono fun b _ e => ⟨by rw [e]; exact HH.out.noX, .inl e⟩)
      have HJX := Lib.hid hJX
      have kset : ∀ n, Keeps (fun b => b = X) wr ((wr.setCell ⟨X, 4, none⟩ (.int .u16 13)).drewN n) := fun n => (keeps_setCell (O := fun b => b = X) wr X 4 (.int .u16 13) rfl).trans (Keeps.of_below' (below_drewN (Below.refl _ _) n))
      have Hset := Lib.hid kset
      have Hl := Lib.hid (HH.out.lex.setErr 13)
      clear hJX kset
      cases inn
      · rcases HH.out.lex.nil_or with ⟨hst, p, cap, hv⟩ | ⟨t, rest, g, cap, cur, hst, hv, _⟩
        · subst hst
          have Htop := Lib.hid (top_nil (HH.out.lex.drew'))
          gi_wp2
          gi_region
          gi_wp2_with (refine ⟨trivial, fun _ => by omega, ?_⟩; gi_at_call 65; refine (callsIn_wide.2 Htop.out).mono ?_; rintro e w2 ⟨rfl, rfl⟩)
          refine bodyPost_end (results_none rfl _ _ _) rfl ?_
          exact ⟨⟨_, rfl⟩, .inl ⟨pre, O, ⟨s.size, [], false, v, [], false, 0, HH.out.reach, HH.out.lex.drew', .inr ⟨rfl, rfl⟩⟩, HJX.out _ (Keeps.drew _)⟩⟩
        · subst hst
          subst hv
          have Htop := Lib.hid (top_some (HH.out.lex.drew'))
          gi_wp2
          gi_region
          gi_wp2_with (refine ⟨trivial, fun _ => by omega, ?_⟩; gi_at_call 65; refine (callsIn_wide.2 Htop.out).mono ?_; rintro e w2 ⟨rfl, nq, rfl⟩)
          refine bodyPost_end (results_none rfl _ _ _) rfl ?_
          exact ⟨⟨_, rfl⟩, .inl ⟨pre, O, ⟨s.size, _, false, _, _, false, 13, HH.out.reach, ⟨Hl.out.blk, Hl.out.own⟩, .inr ⟨rfl, rfl⟩⟩, HJX.out _ (by first | exact Hset.out _ | exact (Hset.out 0).trans (Keeps.drew _))⟩⟩
      · gi_wp2
        gi_region
        gi_wp2
        refine ⟨trivial, ?_⟩
        gi_wp2
        refine bodyPost_end (results_none rfl _ _ _) rfl ?_
        exact ⟨⟨_, rfl⟩, .inl ⟨pre, O, ⟨s.size, st, true, v, st, true, 13, HH.out.reach, ⟨Hl.out.blk, Hl.out.own⟩, .inr ⟨rfl, rfl⟩⟩, HJX.out _ (by first | exact Hset.out _ | exact (Hset.out 0).trans (Keeps.drew _))⟩⟩
end Go.Proofs.YtiinhkfbgecbjaaGreatDoor
