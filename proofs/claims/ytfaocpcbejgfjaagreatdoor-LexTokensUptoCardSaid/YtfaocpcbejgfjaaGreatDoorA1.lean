/- A law on 'for .. range f' over a function, with the blocks named that the loop's body owns and those that the iterator may turn: plain laws over any program. No condition but those that each law names. · Plain laws on append at a slice that is one's own: which block holds the slice behind it. No condition but those that each law names. · The classes of bytes, as the program has them. No condition. · What runs of a class, and simple names, the program reads. No condition. · What numbers and words the program reads. No condition. · What words the program reads. No condition. · What escapes the program reads. No condition. · The operators' text is cut at its blanks: what the iterator tells. No condition. · Which operator the program reads at a text's front. No condition. -/
import Derived.RangeFuncNested
import Derived.RangeFuncBound
import Derived.WalkKit
import Derived.OwnWalkIn
import Derived.Maps.AppendAt
import Derived.WalkSpells
import Derived.WalkLawsBesides
import Derived.Lib.Hide
import Derived.Lib.Strings
import Derived.Test.YtfaocpcbejgfjaaGreatDoorProg
import Derived.Test.YtfaocpcbejgfjaaGreatDoorShelf
import Derived.Deep.QuietTactic
import Derived.BigQuiet
import Derived.Lib.Bytes2
import Derived.RangeFuncCalls
import Derived.RangeFuncLeaves
import Derived.Shelf.Abstract
import Derived.Shelf.RegionOpen
import Derived.TacticsInMore
import Derived.LoopNIn
import Derived.LoopIn
namespace Go.Sub
open Go.RowKit

/-- all blocks of A but those of O lie in B as they lay -/
structure Keeps (O : Nat → Prop) (A B : World) : Prop where
  os : B.os = A.os
  tape : B.tape = A.tape
  output : B.output = A.output
  size : A.heap.size ≤ B.heap.size
  block : ∀ b, b < A.heap.size → ¬ O b → B.heap[b]? = A.heap[b]?

variable {O O' : Nat → Prop} {A B C : World}
theorem Keeps.refl (O : Nat → Prop) (A : World) : Keeps O A A := ⟨rfl, rfl, rfl, Nat.le_refl _, fun _ _ _ => rfl⟩
theorem Keeps.trans (h : Keeps O A B) (k : Keeps O B C) : Keeps O A C :=
  ⟨k.os.trans h.os, k.tape.trans h.tape, k.output.trans h.output, Nat.le_trans h.size k.size, fun b hb ho => (k.block b (Nat.lt_of_lt_of_le hb h.size) ho).trans (h.block b hb ho)⟩
theorem Keeps.mono (h : Keeps O A B) (hO : ∀ b, b < A.heap.size → O b → O' b) : Keeps O' A B := ⟨h.os, h.tape, h.output, h.size, fun b hb ho => h.block b hb fun h => ho (hO b hb h)⟩
/-- the second step may turn what came with the first -/
theorem Keeps.trans' (h : Keeps O A B) (k : Keeps O' B C) (hO : ∀ b, b < A.heap.size → O' b → O b) : Keeps O A C :=
  ⟨k.os.trans h.os, k.tape.trans h.tape, k.output.trans h.output, Nat.le_trans h.size k.size, fun b hb ho => (k.block b (Nat.lt_of_lt_of_le hb h.size) fun h' => ho (hO b hb h')).trans (h.block b hb ho)⟩
theorem Keeps.alloc (O : Nat → Prop) (A : World) (o : Obj) : Keeps O A (A.alloc o) := ⟨rfl, rfl, rfl, by simp, fun _ hb _ => Below.heap_alloc _ _ _ hb⟩
theorem Keeps.alloc' (h : Keeps O A B) (o : Obj) : Keeps O A (B.alloc o) := h.trans (Keeps.alloc O B o)
theorem Keeps.putObj (A : World) (l : Nat) (o : Obj) (hO : O l) : Keeps O A (A.putObj l o) := ⟨rfl, rfl, rfl, by simp [World.putObj], fun b _ ho => World.putObj_heap_other fun e => ho (e ▸ hO)⟩
theorem Keeps.of_grownBy {row : Option Nat} (hg : A.grownBy B row) (hO : ∀ r, row = some r → O r) : Keeps O A B :=
  ⟨hg.os, hg.tape, hg.output, hg.size, fun b hb ho => hg.block b hb fun e => ho (hO b e.symm)⟩
theorem Keeps.setCell (A : World) (b : Nat) (v : Value) (hO : O b) : Keeps O A (A.setCell ⟨b, 0, none⟩ v) := Keeps.of_grownBy (grownBy_setCell' A b v) fun r e => by cases e; exact hO
theorem Keeps.of_below {n : Nat} (h : Below n A B) : Keeps (fun b => n ≤ b) A B := ⟨h.os, h.tape, h.output, h.size, fun b _ ho => h.block b (Nat.lt_of_not_le ho)⟩
theorem Keeps.of_below' (h : Below A.heap.size A B) : Keeps O A B := ⟨h.os, h.tape, h.output, h.size, fun b hb _ => h.block b hb⟩
theorem Keeps.below {n : Nat} (h : Keeps O A B) (hn : n ≤ A.heap.size) (hO : ∀ b, O b → n ≤ b) : Below n A B := ⟨h.os, h.tape, h.output, h.size, fun b hb => h.block b (Nat.lt_of_lt_of_le hb hn) fun h' => by have := hO b h'; omega⟩
theorem Keeps.heap (h : Keeps O A B) {b : Nat} {o : Obj} (ho : A.heap[b]? = some o) (hn : ¬ O b) : B.heap[b]? = some o := (h.block b (Array.getElem?_eq_some_iff.1 ho).1 hn).trans ho
theorem Keeps.cell (h : Keeps O A B) {b c : Nat} {v : Value} (ho : A.cell? ⟨b, c, none⟩ = some v) (hn : ¬ O b) : B.cell? ⟨b, c, none⟩ = some v := by
  have hlt := World.block_lt_of_cell? _ _ ho
  unfold World.cell? at ho ⊢
  rw [h.block b hlt hn]; exact ho
theorem Keeps.frozen (h : Keeps O A B) {b c : Nat} {v : Value} (ho : A.cell? ⟨b, c, none⟩ = some v) (hn : ¬ O b) : B.frozen? ⟨b, c, none⟩ = A.frozen? ⟨b, c, none⟩ := by
  have hlt := World.block_lt_of_cell? _ _ ho
  unfold World.frozen?
  rw [h.block b hlt hn]
theorem Keeps.drew (A : World) : Keeps O A A.drew := ⟨rfl, rfl, rfl, Nat.le_refl _, fun _ _ _ => rfl⟩

/-- some blocks laid one behind the other -/
def allocs (w : World) (os : List Obj) : World := os.foldl World.alloc w
theorem allocs_heap_eq : ∀ (os : List Obj) (w : World), (allocs w os).heap = w.heap ++ os.toArray
  | [], w => by simp [allocs]
  | o :: r, w => by
    show (allocs (w.alloc o) r).heap = _
    rw [allocs_heap_eq r, show (w.alloc o).heap = w.heap.push o from rfl]
    simp
theorem allocs_keeps (O : Nat → Prop) : ∀ (os : List Obj) (w : World), Keeps O w (allocs w os)
  | [], w => Keeps.refl O w
  | o :: r, w => (Keeps.alloc O w o).trans (allocs_keeps O r (w.alloc o))
theorem allocs_heap (os : List Obj) (w : World) (i : Nat) : (allocs w os).heap[w.heap.size + i]? = os[i]? := by
  rw [allocs_heap_eq, Array.getElem?_append_right (by omega)]
  simp
theorem allocs_below (os : List Obj) (w : World) : Below w.heap.size w (allocs w os) := (allocs_keeps (fun _ => False) os w).below (Nat.le_refl _) fun _ h => h.elim
theorem cell_of_block {w : World} {b o : Nat} {cs : Array Value} {t : TypeId} {m : Nat × Nat} {v : Value} (h : w.heap[b]? = some (.cells cs t m)) (hv : cs[o]? = some v) : w.cell? ⟨b, o, none⟩ = some v := by simp [World.cell?, h, hv]

/-- **THE CONTRACT OF AN ITERATOR**: M: the blocks of w that it may turn; R: those that it reads alone. The body owns O; it may take new blocks to it. -/
def SeqO {α : Type} (F : Fence) (n : Nat) (P : Program) (g : Nat) (lb : Array Value) (encs : α → Array Value) (M R : Nat → Prop) (S Sp : List α → World → Prop) (N : Nat) (w : World) : Prop :=
  ∀ (l : Nat) (J Jx : List α → (Nat → Prop) → World → Prop) (W : World) (O : Nat → Prop), Below w.heap.size w W →
    (∀ b, O b → b < W.heap.size ∧ ¬ M b ∧ ¬ R b) →
    (∀ pre O A B, J pre O A → Keeps (fun b => ¬ O b ∧ (M b ∨ W.heap.size ≤ b)) A B → J pre O B) →
    (∀ pre x W1 O1, J pre O1 W1 → pre.length < N → YieldAt F (n - 1) P l (encs x) W1 fun e W' => ∃ O2, Keeps O1 W1 W' ∧ (∀ b, O2 b → (O1 b ∨ W1.heap.size ≤ b) ∧ b < W'.heap.size) ∧
      ((e = .returned (.bool true) ∧ J (pre ++ [x]) O2 W') ∨ (e = .returned (.bool false) ∧ Jx (pre ++ [x]) O2 W'))) →
    J [] O W →
    CallsIn F n P g (#[.func (.yield l) #[] #[]] ++ lb) W fun e W' => (∃ v, e = .returned v) ∧ ((∃ xs O', S xs W' ∧ J xs O' W') ∨ (∃ pre O', Sp pre W' ∧ Jx pre O' W'))

/-- how a body may be left -/
def postO {α : Type} (Wa : World) (O : Nat → Prop) (n₀ : Nat) (I : List α → (Nat → Prop) → World → Prop) (Ix : Code → List α → (Nat → Prop) → World → Prop) (xs : List α) (e : Exit) (_ : Act) (W' : World) : Prop :=
  ∃ O2, Keeps (fun b => O b ∨ n₀ ≤ b) Wa W' ∧ (∀ b, O2 b → (O b ∨ n₀ ≤ b) ∧ b < W'.heap.size) ∧
    match e with
    | .normal => I xs O2 W'
    | .ret => Ix .ret xs O2 W'
    | .exit id => Ix (.exit id) xs O2 W'
    | .goto t => Ix (.goto t) xs O2 W'
    | .panic _ => False
    | .outgrown => False

variable {F : Fence} {n : Nat} {P : Program}

set_option maxHeartbeats 1000000 in
theorem wpIn_rangeFunc_O {α : Type} {g : Operand} {ps : Array Tmp} {assign body : Code} {Q : Exit → Act → World → Prop} {a : Act} {w : World}
    (hro : F.round = none) (h1 : 1 ≤ n) {gf : Nat} {lb : Array Value} (hg : a.eval g = .func (.func gf) #[] lb) (hFg : F.fn gf) (eg : ∀ args w, (callFunc gf args).run P w = .ok (.enter gf args) w)
    {encs : α → Array Value} {M R : Nat → Prop} {S Sp : List α → World → Prop} {N : Nat} {w0 : World} (hseq : SeqO F (n - 1) P gf lb encs M R S Sp N w0) (hb0 : Below w0.heap.size w0 w) (hps : ∀ x, (encs x).size = ps.size)
    (hM : ∀ b, M b → b < w.heap.size) (hR : ∀ b, R b → b < w.heap.size)
    (hS : ∀ xs A B, S xs A → Keeps (fun b => w.heap.size ≤ b) A B → S xs B) (hSp : ∀ xs A B, Sp xs A → Keeps (fun b => w.heap.size ≤ b) A B → Sp xs B)
    (I : List α → (Nat → Prop) → World → Prop) (Ix : Code → List α → (Nat → Prop) → World → Prop) (O : Nat → Prop) (hO : ∀ b, O b → b < w.heap.size ∧ ¬ M b ∧ ¬ R b)
    (hI : ∀ pre O A B, I pre O A → Keeps (fun b => ¬ O b ∧ (M b ∨ w.heap.size ≤ b)) A B → I pre O B)
    (hIx : ∀ c pre O A B, Ix c pre O A → Keeps (fun b => ¬ O b ∧ (M b ∨ w.heap.size ≤ b)) A B → Ix c pre O B)
    (h0 : I [] O w)
    (hround : ∀ (l : Nat) (pre : List α) (x : α) (W : World) (O : Nat → Prop), I pre O W → pre.length < N → (∀ b, O b → b ≠ l ∧ ¬ M b ∧ b < W.heap.size) → w.heap.size < W.heap.size →
      assign.wpIn (F.inRound l) (n - 1 - 1) P (Exit.then (fun a' Wa => Keeps (fun _ => False) W Wa ∧ ∀ Wb, Keeps (fun b => b = l) Wa Wb → Wb.heap.size = Wa.heap.size → I pre O Wb → l < W.heap.size →
        body.wpIn (F.inRound l) (n - 1 - 1) P (postO Wb O W.heap.size I Ix (pre ++ [x])) a' Wb) (fun _ _ _ => False))
        { tmps := (ps.zip (encs x)).foldl (fun t (p, v) => t.setIfInBounds p v) a.tmps, defers := [] } W)
    (hdone : ∀ (D : Nat) (xs : List α) (W : World) (O : Nat → Prop), w.heap.size ≤ D → S xs W → I xs O W → ¬ O D → W.heap[D]? = some (.deferred (some [])) → Q .normal { a with defers := { target := .collected D, args := #[] } :: a.defers } W)
    (hstop : ∀ (D : Nat) (c : Code) (pre : List α) (W : World) (O : Nat → Prop), w.heap.size ≤ D → Sp pre W → Ix c pre O W → ¬ O D → W.heap[D]? = some (.deferred (some [])) → c.wpIn F n P Q { a with defers := { target := .collected D, args := #[] } :: a.defers } W) :
    (Code.rangeFunc g ps assign body).wpIn F n P Q a w := by
  refine wpIn_rangeFunc ?_
  intro fn hfn
  rw [hro]
  obtain ⟨rec, hrec⟩ : ∃ rec : LoopState → Option Code → Loop, rec = fun st pe => { state := st, pending := pe, fn, tmps := a.tmps, params := ps, assign, body, defers := w.heap.size } := ⟨_, rfl⟩
  obtain ⟨W1, hW1⟩ : ∃ W1, (w.alloc (.deferred (some []))).alloc (.loop (rec .ready none)) = W1 := ⟨_, rfl⟩
  have hs1 : W1.heap.size = w.heap.size + 2 := by rw [← hW1]; simp
  have hL1 : W1.heap[w.heap.size + 1]? = some (.loop (rec .ready none)) := by
    rw [← hW1]; have := World.alloc_heap_new (w.alloc (.deferred (some []))) (.loop (rec .ready none)); rwa [World.size_alloc] at this
  have hK1 : W1.heap[w.heap.size]? = some (.deferred (some [])) := by
    rw [← hW1]; exact (Below.heap_alloc _ _ _ (by simp)).trans (World.alloc_heap_new w _)
  have hk1 : Keeps (fun _ => False) w W1 := by rw [← hW1]; exact (Keeps.alloc _ _ _).alloc' _
  have hI1 : I [] O W1 := hI _ _ _ _ h0 (hk1.mono fun _ _ h => h.elim)
  have hb1 : Below w0.heap.size w0 W1 := by
    rw [← hW1]; exact hb0.trans ((((Below.refl _ w).alloc (Nat.le_refl _) _).alloc (by simp) _).mono hb0.size)
  refine ⟨w.heap.size + 1, [{ target := .collected w.heap.size, args := #[] }], W1, { target := .fn (.func gf) lb, args := #[.func (.yield (w.heap.size + 1)) #[] #[]] }, W1, gf,
    #[.func (.yield (w.heap.size + 1)) #[] #[]] ++ lb, W1, ?_, ?_, ?_, ?_, fun _ => h1, ?_⟩
  · rw [← hW1, hrec]; exact run_enterLoop_outer _ _ _ _ _
  · simp only [resolve, hg]
    simp [go_sem]
  · intro f' hf'; simp [Target.leads] at hf'; subst hf'; exact hFg
  · simp [invoke, go_sem, eg]
  · let own : (Nat → Prop) → Nat → Prop := fun O b => O b ∨ b = w.heap.size ∨ b = w.heap.size + 1
    have hnw : ∀ {O : Nat → Prop} {A B : World}, Keeps (fun b => ¬ own O b ∧ (M b ∨ W1.heap.size ≤ b)) A B → Keeps (fun b => ¬ O b ∧ (M b ∨ w.heap.size ≤ b)) A B := fun h =>
      h.mono fun b _ ⟨h1, h2⟩ => ⟨fun h => h1 (.inl h), h2.imp id (by omega)⟩
    have hrec1 : ∀ {O : Nat → Prop} {A B : World} {o : Obj}, Keeps (fun b => ¬ own O b ∧ (M b ∨ W1.heap.size ≤ b)) A B → A.heap[w.heap.size + 1]? = some o → B.heap[w.heap.size + 1]? = some o := fun h ho => h.heap ho fun h => h.1 (.inr (.inr rfl))
    have hrec0 : ∀ {O : Nat → Prop} {A B : World} {o : Obj}, Keeps (fun b => ¬ own O b ∧ (M b ∨ W1.heap.size ≤ b)) A B → A.heap[w.heap.size]? = some o → B.heap[w.heap.size]? = some o := fun h ho => h.heap ho fun h => h.1 (.inr (.inl rfl))
    refine (hseq (w.heap.size + 1)
      (fun pre Ot W => ∃ O, Ot = own O ∧ (∀ b, O b → (b ≠ w.heap.size ∧ b ≠ w.heap.size + 1) ∧ ¬ M b ∧ b < W.heap.size) ∧ I pre O W ∧ W.heap[w.heap.size + 1]? = some (.loop (rec .ready none)) ∧ W.heap[w.heap.size]? = some (.deferred (some [])))
      (fun pre Ot W => ∃ O c, Ot = own O ∧ (∀ b, O b → (b ≠ w.heap.size ∧ b ≠ w.heap.size + 1) ∧ ¬ M b ∧ b < W.heap.size) ∧ Ix c pre O W ∧ W.heap[w.heap.size + 1]? = some (.loop (rec .done (some c))) ∧ W.heap[w.heap.size]? = some (.deferred (some [])))
      W1 (own O) hb1 ?_ ?_ ?_ ⟨O, rfl, fun b hb => ⟨by have := (hO b hb).1; omega, (hO b hb).2.1, by have := (hO b hb).1; omega⟩, hI1, hL1, hK1⟩).mono ?_
    · rintro b (h | rfl | rfl)
      · exact ⟨by have := (hO b h).1; omega, (hO b h).2⟩
      · exact ⟨by omega, fun h => by have := hM _ h; omega, fun h => by have := hR _ h; omega⟩
      · exact ⟨by omega, fun h => by have := hM _ h; omega, fun h => by have := hR _ h; omega⟩
    · rintro pre Ot A B ⟨O, rfl, ho, hi, hl, hk⟩ hab
      exact ⟨O, rfl, fun b hb => ⟨(ho b hb).1, (ho b hb).2.1, Nat.lt_of_lt_of_le (ho b hb).2.2 hab.size⟩, hI _ _ _ _ hi (hnw hab), hrec1 hab hl, hrec0 hab hk⟩
    · -- ONE ROUND
      rintro pre x W Ot ⟨O, rfl, ho, hi, hl, hk⟩ hlen
      have hlt : w.heap.size + 1 < W.heap.size := (Array.getElem?_eq_some_iff.1 hl).1
      have hy := run_yield (P := P) (args := encs x) hl (by rw [hrec]; exact hps x)
      rw [hrec] at hy
      refine ⟨fn, _, assign, body, hy, roundIn_of_wpIn hfn (wpIn_mono (hround (w.heap.size + 1) pre x W O hi hlen (fun b hb => ⟨(ho b hb).1.2, (ho b hb).2.1, (ho b hb).2.2⟩) (by omega)) ?_)⟩
      clear hy
      intro e a' Wa he
      cases e with
      | normal =>
        obtain ⟨hka, hbody⟩ := he
        have hla := hka.heap hl (fun h => h)
        have hkka := hka.heap hk (fun h => h)
        have hlta : w.heap.size + 1 < Wa.heap.size := (Array.getElem?_eq_some_iff.1 hla).1
        refine ⟨_, run_beginRound hla (by rw [hrec]), ?_⟩
        have hl2 : (Wa.putObj (w.heap.size + 1) (.loop { rec .ready none with state := .busy })).heap[w.heap.size + 1]? = some (.loop { rec .ready none with state := .busy }) := World.putObj_heap_same hlta
        have hk2 : (Wa.putObj (w.heap.size + 1) (.loop { rec .ready none with state := .busy })).heap[w.heap.size]? = some (.deferred (some [])) := (World.putObj_heap_other (by omega)).trans hkka
        have hkb : Keeps (fun b => b = w.heap.size + 1) Wa (Wa.putObj (w.heap.size + 1) (.loop { rec .ready none with state := .busy })) := Keeps.putObj _ _ _ rfl
        have hsb : (Wa.putObj (w.heap.size + 1) (.loop { rec .ready none with state := .busy })).heap.size = Wa.heap.size := by simp [World.putObj]
        have hnl : ¬ O (w.heap.size + 1) := fun h => (ho _ h).1.2 rfl
        have hnd : ¬ O w.heap.size := fun h => (ho _ h).1.1 rfl
        have hib : I pre O (Wa.putObj (w.heap.size + 1) (.loop { rec .ready none with state := .busy })) :=
          hI _ _ _ _ (hI _ _ _ _ hi (hka.mono fun _ _ h => h.elim)) (hkb.mono fun b _ h => by subst h; exact ⟨hnl, .inr (by omega)⟩)
        refine wpIn_mono (hbody _ hkb hsb hib hlt) ?_
        rintro e a3 W3 ⟨O2, hk3, hO2, hp⟩
        have hl3 := hk3.heap hl2 (fun h => h.elim hnl (by omega))
        have hkk3 := hk3.heap hk2 (fun h => h.elim hnd (by omega))
        have hlt3 := (Array.getElem?_eq_some_iff.1 hl3).1
        have fin : ∀ (jump : Option Code), (Instr.endRound (w.heap.size + 1) jump).run P W3 = .ok (.bool jump.isNone) (W3.putObj (w.heap.size + 1) (.loop (rec (if jump.isNone then .ready else .done) jump))) := fun jump => by
          have := run_endRound (P := P) jump hl3
          rw [hrec] at this ⊢
          exact this
        have hkW : ∀ o, Keeps (own O) W (W3.putObj (w.heap.size + 1) o) := fun o =>
          (((hka.mono fun _ _ h => h.elim).trans' (hkb.mono (O' := own O) fun b _ h => .inr (.inr h)) fun _ _ h => h).trans' hk3 fun b hb h => h.elim .inl (by omega)).trans' (Keeps.putObj (O := fun b => b = w.heap.size + 1) _ _ _ rfl) fun b _ h => .inr (.inr h)
        have hO2n : ∀ b, O2 b → (b ≠ w.heap.size ∧ b ≠ w.heap.size + 1) ∧ ¬ M b ∧ b < W3.heap.size := fun b hb => by
          obtain ⟨h1 | h1, h2⟩ := hO2 b hb
          · exact ⟨(ho b h1).1, (ho b h1).2.1, h2⟩
          · exact ⟨by omega, fun h => by have := hM b h; omega, h2⟩
        have hown : ∀ o b, own O2 b → (own O b ∨ W.heap.size ≤ b) ∧ b < (W3.putObj (w.heap.size + 1) o).heap.size := fun o b hb => by
          have hsz : (W3.putObj (w.heap.size + 1) o).heap.size = W3.heap.size := by simp [World.putObj]
          rw [hsz]
          rcases hb with hb | rfl | rfl
          · exact ⟨(hO2 b hb).1.imp .inl id, (hO2 b hb).2⟩
          · exact ⟨.inl (.inr (.inl rfl)), by omega⟩
          · exact ⟨.inl (.inr (.inr rfl)), by omega⟩
        have hI3 : ∀ {o : Obj}, Keeps (fun b => ¬ O2 b ∧ (M b ∨ w.heap.size ≤ b)) W3 (W3.putObj (w.heap.size + 1) o) := fun {o} =>
          (Keeps.putObj (O := fun b => b = w.heap.size + 1) W3 _ o rfl).mono fun b _ h => by subst h; exact ⟨fun h => (hO2n _ h).1.2 rfl, .inr (by omega)⟩
        have hsz : ∀ o, (W3.putObj (w.heap.size + 1) o).heap.size = W3.heap.size := fun o => by simp [World.putObj]
        have hstop' : ∀ c, Ix c (pre ++ [x]) O2 W3 → ∃ O2', Keeps (own O) W (W3.putObj (w.heap.size + 1) (.loop (rec .done (some c)))) ∧ (∀ b, O2' b → (own O b ∨ W.heap.size ≤ b) ∧ b < (W3.putObj (w.heap.size + 1) (.loop (rec .done (some c)))).heap.size) ∧
            ((Ending.returned (.bool false) = .returned (.bool true) ∧ ∃ O, O2' = own O ∧ (∀ b, O b → (b ≠ w.heap.size ∧ b ≠ w.heap.size + 1) ∧ ¬ M b ∧ b < (W3.putObj (w.heap.size + 1) (.loop (rec .done (some c)))).heap.size) ∧ I (pre ++ [x]) O (W3.putObj (w.heap.size + 1) (.loop (rec .done (some c)))) ∧ (W3.putObj (w.heap.size + 1) (.loop (rec .done (some c)))).heap[w.heap.size + 1]? = some (.loop (rec .ready none)) ∧ (W3.putObj (w.heap.size + 1) (.loop (rec .done (some c)))).heap[w.heap.size]? = some (.deferred (some []))) ∨
            (Ending.returned (.bool false) = .returned (.bool false) ∧ ∃ O c', O2' = own O ∧ (∀ b, O b → (b ≠ w.heap.size ∧ b ≠ w.heap.size + 1) ∧ ¬ M b ∧ b < (W3.putObj (w.heap.size + 1) (.loop (rec .done (some c)))).heap.size) ∧ Ix c' (pre ++ [x]) O (W3.putObj (w.heap.size + 1) (.loop (rec .done (some c)))) ∧ (W3.putObj (w.heap.size + 1) (.loop (rec .done (some c)))).heap[w.heap.size + 1]? = some (.loop (rec .done (some c'))) ∧ (W3.putObj (w.heap.size + 1) (.loop (rec .done (some c)))).heap[w.heap.size]? = some (.deferred (some [])))) := fun c hc =>
          ⟨own O2, hkW _, hown _, .inr ⟨rfl, O2, c, rfl, fun b hb => by rw [hsz]; exact hO2n b hb, hIx _ _ _ _ _ hc hI3, World.putObj_heap_same hlt3, (World.putObj_heap_other (by omega)).trans hkk3⟩⟩
        cases e with
        | normal =>
          exact ⟨_, _, fin none, own O2, hkW _, hown _, .inl ⟨rfl, O2, rfl, fun b hb => by rw [hsz]; exact hO2n b hb, hI _ _ _ _ hp hI3, World.putObj_heap_same hlt3, (World.putObj_heap_other (by omega)).trans hkk3⟩⟩
        | ret => exact ⟨_, _, fin (some .ret), hstop' .ret hp⟩
        | exit id => exact ⟨_, _, fin (some (.exit id)), hstop' (.exit id) hp⟩
        | goto t => exact ⟨_, _, fin (some (.goto t)), hstop' (.goto t) hp⟩
        | panic ch => exact hp.elim
        | outgrown => exact hp.elim
      | ret => exact he.elim
      | exit id => exact he.elim
      | goto t => exact he.elim
      | panic ch => exact he.elim
      | outgrown => exact he.elim
    · -- BEHIND THE ITERATOR
      rintro e W2 ⟨⟨v, rfl⟩, (⟨xs, Ot, hs, O, rfl, ho, hi, hl, hk⟩ | ⟨pre, Ot, hs, O, c, rfl, ho, hi, hl, hk⟩)⟩
      · have hnl : ¬ O (w.heap.size + 1) := fun h => (ho _ h).1.2 rfl
        have hnd : ¬ O w.heap.size := fun h => (ho _ h).1.1 rfl
        refine ⟨none, _, by have := run_endLoop (P := P) hl (by rw [hrec]; simp); rw [hrec] at this; exact this, hdone _ xs _ O (Nat.le_refl _) (hS _ _ _ hs (Keeps.putObj _ _ _ (by omega))) (hI _ _ _ _ hi ((Keeps.putObj (O := fun b => b = w.heap.size + 1) _ _ _ rfl).mono fun b _ h => by subst h; exact ⟨hnl, .inr (by omega)⟩)) hnd ((World.putObj_heap_other (by omega)).trans hk)⟩
      · have hnl : ¬ O (w.heap.size + 1) := fun h => (ho _ h).1.2 rfl
        have hnd : ¬ O w.heap.size := fun h => (ho _ h).1.1 rfl
        refine ⟨some c, _, by have := run_endLoop (P := P) hl (by rw [hrec]; simp); rw [hrec] at this; exact this, hstop _ c pre _ O (Nat.le_refl _) (hSp _ _ _ hs (Keeps.putObj _ _ _ (by omega))) (hIx _ _ _ _ _ hi ((Keeps.putObj (O := fun b => b = w.heap.size + 1) _ _ _ rfl).mono fun b _ h => by subst h; exact ⟨hnl, .inr (by omega)⟩)) hnd ((World.putObj_heap_other (by omega)).trans hk)⟩
end Go.Sub
namespace Go.Sub
open Go.RowKit

theorem ownsRow_keeps {O : Nat → Prop} {A B : World} {base : Nat} {e : TypeId} {size : Nat} {v : Value} {k : Nat} {xs : List Value} (h : A.ownsRow base e size v k xs) (hk : Keeps O A B) (hn : ∀ g, some g = v.ownBlock → ¬ O g) : B.ownsRow base e size v k xs := by
  refine ⟨h.1, ?_⟩
  rcases h.2 with h0 | ⟨g, cap, cur, rfl, hb, hg, rest⟩
  · exact .inl h0
  · exact .inr ⟨g, cap, cur, rfl, hb, hk.heap hg (hn g rfl), rest⟩
theorem boxed_keeps {O : Nat → Prop} {A B : World} {b : Nat} {t : TypeId} {v : Value} (h : Boxed A b t v) (hk : Keeps O A B) (hn : ¬ O b) : Boxed B b t v := hk.heap h hn

variable {P : Program}
theorem run_append_own2 (w : World) (base : Nat) (t ty e : TypeId) (i : TypeInfo) (z : Value) (size bytes : Nat) (ht : P.underlying t = some (.slice e)) (hi : P.info? e = some i) (hz : i.zero = some z)
    (hsize : i.size = size) (hby : i.bytes = bytes) (hzs : z.cells.size = size) (hsz : 0 < size)
    (v : Value) (n : Nat) (xs : List Value) (hown : w.ownsRow base e size v n xs)
    (a : Addr) (m c : Nat) (news : List Value) (hl : news.length = m * size) (hnews : ∀ j u, news[j]? = some u → w.cell? (a.add j) = some u) (h1 : ∀ u ∈ news, u.oneCell' = true)
    (h63 : n + m ≤ maxLen) (hbytes : (n + m) * bytes ≤ 140737488355328) (hbase : base ≤ w.heap.size) :
    ∃ v' w', (Builtin.append_ #[t, t] ty #[v, .slice (some a) m c]).run P w = .ok v' w' ∧ w'.ownsRow base e size v' (n + m) (xs ++ news) ∧ w.grownBy w' v.ownBlock ∧
      (v' = .slice none 0 0 ↔ v = .slice none 0 0 ∧ m = 0) ∧ (v'.ownBlock = v.ownBlock ∨ v'.ownBlock = some w.heap.size) := by
  obtain ⟨v', w', hr, h2, h3, h4⟩ := run_append_own (P := P) w base t ty e i z size bytes ht hi hz hsize hby hzs hsz v n xs hown a m c news hl hnews h1 h63 hbytes hbase
  refine ⟨v', w', hr, h2, h3, h4, ?_⟩
  subst hsize
  subst hby
  have hsmall : n + m ≤ 9223372036854775807 := by simp only [maxLen] at h63; omega
  rcases hown.2 with ⟨rfl, rfl⟩ | ⟨g, cap, cur, rfl, hbg, hg, hnc, hcm, hcs, htake⟩
  · by_cases hm : m = 0
    · have : v' = .slice none 0 0 := h4.2 ⟨rfl, hm⟩
      exact .inl (by rw [this])
    · have hr' := run_append_nil (P := P) w t ty e i z ht hi hz a m c news hl hnews (by omega) (by omega) (by have hb := hbytes; simp only [Nat.zero_add] at hb; omega)
      rw [hr'] at hr
      injection hr with hv _
      exact .inr (by rw [← hv]; rfl)
  · by_cases hroom : n + m ≤ cap
    · have hfit : n * i.size + news.length ≤ cur.size := by rw [hl, hcs, ← Nat.add_mul]; exact Nat.mul_le_mul_right _ hroom
      have hr' := run_append_room (P := P) w t ty e i ht hi g n cap cur hg a m c news hl hnews h1 hroom hfit
      rw [hr'] at hr
      injection hr with hv _
      exact .inl (by rw [← hv]; rfl)
    · have holds : ∀ j u, xs[j]? = some u → w.cell? ((⟨g, 0, none⟩ : Addr).add j) = some u := hown.cells (g := g) rfl
      have hr' := run_append_grow (P := P) w t ty e i z ht hi hz ⟨g, 0, none⟩ n cap xs hown.1 holds a m c news hl hnews (by omega) (by omega) (growslice_fits (by omega) hbytes)
      rw [hr'] at hr
      injection hr with hv _
      exact .inr (by rw [← hv]; rfl)

/-- **append AT THE OPERATION**, in a fenced walk. -/
theorem wpListIn_append_O {F : Fence} {n : Nat} (w : World) {ops : Array Oper} {rest : List Oper} {o : Oper} {a : Act} {Q : Exit → Act → World → Prop}
    (hg : o.guard = none) (s x : Operand) (t : TypeId) (hop : o.op = Op.call { callee := Callee.builtin Builtin.append, args := #[s, x], argTypes := #[t, t] })
    (base : Nat) (e : TypeId) (i : TypeInfo) (z : Value) (size bytes : Nat) (h1 : P.underlying t = some (.slice e)) (h2 : P.info? e = some i) (h3 : i.zero = some z) (h4 : i.size = size) (h5 : i.bytes = bytes) (h6 : z.cells.size = size) (h7 : 0 < size)
    (v : Value) (k : Nat) (xs : List Value) (hs : a.eval s = v) (hown : w.ownsRow base e size v k xs) (ad : Addr) (m c : Nat) (news : List Value) (hx : a.eval x = .slice (some ad) m c) (hn : news.length = m * size)
    (hc : ∀ j u, news[j]? = some u → w.cell? (ad.add j) = some u) (h1c : ∀ u ∈ news, u.oneCell' = true) (b1 : k + m ≤ maxLen) (b2 : (k + m) * bytes ≤ 140737488355328) (b3 : base ≤ w.heap.size)
    (hK : ∀ v' w', w'.ownsRow base e size v' (k + m) (xs ++ news) → Keeps (fun b => some b = v.ownBlock) w w' → (v'.ownBlock = v.ownBlock ∨ v'.ownBlock = some w.heap.size) → (v' = .slice none 0 0 ↔ v = .slice none 0 0 ∧ m = 0) → wpListIn F n P ops Q rest (a.put o.dst v') w') :
    wpListIn F n P ops Q (o :: rest) a w := by
  refine wpListIn_plain hg fun K hK' => ?_
  obtain ⟨v', w', hrun, r1, r2, r3, r4⟩ := run_append_own2 (P := P) w base t o.type e i z size bytes h1 h2 h3 h4 h5 h6 h7 v k xs hown ad m c news hn hc h1c b1 b2 b3
  unfold Oper.wpIn
  refine ⟨?_, ?_⟩
  · simp [Oper.about, hop, resolve, Target.leads, Sem.run_pure]
  · rw [Oper.semAt_plain F _ _ (by rw [hop]; intro c hc'; cases hc')]
    simp [execOp, hop, resolve, invoke, builtin, hs, hx, hrun, Result.andThen]
    exact hK' _ _ (hK v' w' r1 (Keeps.of_grownBy r2 fun r h => h.symm) r4 r3)

/-- **append AT THE OPERATION**, in a plain walk. -/
theorem wpList_append_O (w : World) {ops : Array Oper} {rest : List Oper} {o : Oper} {a : Act} {Q : Exit → Act → World → Prop}
    (hg : o.guard = none) (s x : Operand) (t : TypeId) (hop : o.op = Op.call { callee := Callee.builtin Builtin.append, args := #[s, x], argTypes := #[t, t] })
    (base : Nat) (e : TypeId) (i : TypeInfo) (z : Value) (size bytes : Nat) (h1 : P.underlying t = some (.slice e)) (h2 : P.info? e = some i) (h3 : i.zero = some z) (h4 : i.size = size) (h5 : i.bytes = bytes) (h6 : z.cells.size = size) (h7 : 0 < size)
    (v : Value) (k : Nat) (xs : List Value) (hs : a.eval s = v) (hown : w.ownsRow base e size v k xs) (ad : Addr) (m c : Nat) (news : List Value) (hx : a.eval x = .slice (some ad) m c) (hn : news.length = m * size)
    (hc : ∀ j u, news[j]? = some u → w.cell? (ad.add j) = some u) (h1c : ∀ u ∈ news, u.oneCell' = true) (b1 : k + m ≤ maxLen) (b2 : (k + m) * bytes ≤ 140737488355328) (b3 : base ≤ w.heap.size)
    (hK : ∀ v' w', w'.ownsRow base e size v' (k + m) (xs ++ news) → Keeps (fun b => some b = v.ownBlock) w w' → (v'.ownBlock = v.ownBlock ∨ v'.ownBlock = some w.heap.size) → (v' = .slice none 0 0 ↔ v = .slice none 0 0 ∧ m = 0) → wpList P ops Q rest (a.put o.dst v') w') :
    wpList P ops Q (o :: rest) a w := by
  refine wpList_plain hg fun K hK' => ?_
  obtain ⟨v', w', hrun, r1, r2, r3, r4⟩ := run_append_own2 (P := P) w base t o.type e i z size bytes h1 h2 h3 h4 h5 h6 h7 v k xs hown ad m c news hn hc h1c b1 b2 b3
  unfold Oper.wp
  simp [execOp, hop, resolve, invoke, builtin, hs, hx, hrun, Result.andThen]
  exact hK' _ _ (hK v' w' r1 (Keeps.of_grownBy r2 fun r h => h.symm) r4 r3)

/-- **'out = append(out, ..)' AT A VARIABLE's BOX**: all that stands behind the store. tmp: the block with what is appended. -/
theorem appended {W w1 : World} {n₀ B : Nat} {t e : TypeId} {size : Nat} {v v' : Value} {k m : Nat} {xs ys : List Value} {tmp : Obj}
    (hv : Boxed W B t v) (hte : t ≠ e) (hrow : W.ownsRow n₀ e size v k xs)
    (hown' : w1.ownsRow n₀ e size v' m ys) (hkeep : Keeps (fun b => some b = v.ownBlock) (W.alloc tmp) w1) (hnew : v'.ownBlock = v.ownBlock ∨ v'.ownBlock = some (W.heap.size + 1)) :
    Boxed w1 B t v ∧ Boxed (w1.setCell ⟨B, 0, none⟩ v') B t v' ∧ (w1.setCell ⟨B, 0, none⟩ v').ownsRow n₀ e size v' m ys ∧ Keeps (fun b => b = B ∨ some b = v.ownBlock) W (w1.setCell ⟨B, 0, none⟩ v') ∧
      (∀ b, some b = v'.ownBlock → (some b = v.ownBlock ∨ W.heap.size ≤ b) ∧ b < (w1.setCell ⟨B, 0, none⟩ v').heap.size) := by
  have hne := hv.not_row hte hrow
  have hv1 : Boxed w1 B t v := boxed_keeps (hv.alloc tmp) hkeep (fun h => hne h)
  have hne' := hv1.not_row hte hown'
  have hs : Keeps (fun b => b = B) w1 (w1.setCell ⟨B, 0, none⟩ v') := Keeps.setCell _ _ _ rfl
  refine ⟨hv1, hv1.set v', ownsRow_keeps hown' hs (fun g hg h => hne' (by rw [← h]; exact hg)), ?_, ?_⟩
  · exact ((Keeps.alloc (fun b => b = B ∨ some b = v.ownBlock) W tmp).trans (hkeep.mono fun b _ h => .inr h)).trans (hs.mono fun b _ h => .inl h)
  · intro b hb
    have hlt := (hown'.lt b hb.symm).2
    refine ⟨?_, Nat.lt_of_lt_of_le hlt hs.size⟩
    rcases hnew with h | h
    · exact .inl (hb.trans h)
    · rw [h] at hb; cases hb; exact .inr (by omega)
end Go.Sub
namespace Go.Proofs.YtfaocpcbejgfjaaGreatDoor
open Go.RowKit

def isLetter (b : UInt8) : Bool := (97 ≤ b && b ≤ 122) || (65 ≤ b && b ≤ 90) || b == 95
def isDigit (b : UInt8) : Bool := 48 ≤ b && b ≤ 57
def isBlank (b : UInt8) : Bool := b == 32 || b == 9 || b == 10 || b == 13
def isPart (b : UInt8) : Bool := isLetter b || isDigit b
def isHex (b : UInt8) : Bool := isDigit b || (97 ≤ b && b ≤ 102) || (65 ≤ b && b ≤ 70)

theorem u8_all {p : UInt8 → Bool} (h : (List.range 256).all (fun n => p (UInt8.ofNat n)) = true) (b : UInt8) : p b = true := by
  have := List.all_eq_true.1 h b.toNat (List.mem_range.2 b.toNat_lt)
  rwa [UInt8.ofNat_toNat] at this
theorem letter_spec (b : UInt8) : isLetter b = ((b.toNat : Int) == 95 || (decide (97 ≤ bits .or .u8 (b.toNat : Int) 32) && decide (bits .or .u8 (b.toNat : Int) 32 ≤ 122))) :=
  beq_iff_eq.1 (u8_all (p := fun b => isLetter b == ((b.toNat : Int) == 95 || (decide (97 ≤ bits .or .u8 (b.toNat : Int) 32) && decide (bits .or .u8 (b.toNat : Int) 32 ≤ 122)))) (by decide +kernel) b)
theorem hex_spec (b : UInt8) : isHex b = (isDigit b || (decide (97 ≤ bits .or .u8 (b.toNat : Int) 32) && decide (bits .or .u8 (b.toNat : Int) 32 ≤ 102))) :=
  beq_iff_eq.1 (u8_all (p := fun b => isHex b == (isDigit b || (decide (97 ≤ bits .or .u8 (b.toNat : Int) 32) && decide (bits .or .u8 (b.toNat : Int) 32 ≤ 102)))) (by decide +kernel) b)
theorem digit_spec (b : UInt8) : isDigit b = decide (((b.toNat : Int) - 48) % 256 < 10) :=
  beq_iff_eq.1 (u8_all (p := fun b => isDigit b == decide (((b.toNat : Int) - 48) % 256 < 10)) (by decide +kernel) b)

set_option maxHeartbeats 400000 in
theorem letter_calls (b : UInt8) (w : World) :
    Calls Tryz.prog 58 #[.int .u8 b.toNat] w fun e w' => e = .returned (.bool (isLetter b)) ∧ w' = w := by
  have Hs := Lib.hid (letter_spec b)
  go_enter Tryz.func58, Tryz.ntmps58
  go_wp2
  all_goals
    go_ret
    refine ⟨?_, rfl⟩
    rw [Hs.out]
    simp [*]
  omega
set_option maxHeartbeats 400000 in
theorem digit_calls (b : UInt8) (w : World) :
    Calls Tryz.prog 82 #[.int .u8 b.toNat] w fun e w' => e = .returned (.bool (isDigit b)) ∧ w' = w := by
  have Hs := Lib.hid (digit_spec b)
  go_enter Tryz.func82, Tryz.ntmps82
  go_wp2
  go_ret
  exact ⟨by rw [Hs.out]; rfl, rfl⟩
set_option maxHeartbeats 400000 in
theorem part_calls (b : UInt8) (w : World) :
    Calls Tryz.prog 96 #[.int .u8 b.toNat] w fun e w' => e = .returned (.bool (isPart b)) ∧ w' = w := by
  cases hl : isLetter b
  all_goals
    have Hl := Lib.hid hl
    clear hl
    go_enter Tryz.func96, Tryz.ntmps96
    go_wp2_with (first | (go_at_call 58; refine (letter_calls b _).mono ?_; rw [Hl.out]; rintro e w' ⟨rfl, rfl⟩) | (go_at_call 82; refine (digit_calls b _).mono ?_; rintro e w' ⟨rfl, rfl⟩))
    go_ret
    exact ⟨by unfold isPart; rw [Hl.out]; rfl, rfl⟩
set_option maxHeartbeats 400000 in
theorem hex_calls (b : UInt8) (w : World) :
    Calls Tryz.prog 102 #[.int .u8 b.toNat] w fun e w' => e = .returned (.bool (isHex b)) ∧ w' = w := by
  have Hs := Lib.hid (hex_spec b)
  cases hd : isDigit b
  all_goals
    have Hd := Lib.hid hd
    clear hd
    go_enter Tryz.func102, Tryz.ntmps102
    go_wp2_with (go_at_call 82; refine (digit_calls b _).mono ?_; rw [Hd.out]; rintro e w' ⟨rfl, rfl⟩)
    all_goals
      go_ret
      refine ⟨?_, rfl⟩
      rw [Hs.out, Hd.out]
      simp [*]
  omega
end Go.Proofs.YtfaocpcbejgfjaaGreatDoor
namespace Go.Proofs.YtfaocpcbejgfjaaGreatDoor
open Go.RowKit

def runOf (p : UInt8 → Bool) (l : List UInt8) : Nat := (l.takeWhile p).length
def simpleN (l : List UInt8) : Nat := match l with | [] => 0 | b :: r => if isLetter b then runOf isPart (b :: r) else 0

theorem runOf_le (p : UInt8 → Bool) (l : List UInt8) : runOf p l ≤ l.length := by
  unfold runOf
  induction l with
  | nil => simp
  | cons b r ih => rw [List.takeWhile_cons]; split <;> simp; omega
theorem runOf_drop_hit (p : UInt8 → Bool) (l : List UInt8) (n : Nat) (b : UInt8) (h : l[n]? = some b) (hp : p b = true) : runOf p (l.drop n) = runOf p (l.drop (n + 1)) + 1 := by
  obtain ⟨hn, rfl⟩ := List.getElem?_eq_some_iff.1 h
  rw [List.drop_eq_getElem_cons hn]
  unfold runOf
  rw [List.takeWhile_cons, if_pos hp]; rfl
theorem runOf_drop_miss (p : UInt8 → Bool) (l : List UInt8) (n : Nat) (b : UInt8) (h : l[n]? = some b) (hp : p b = false) : runOf p (l.drop n) = 0 := by
  obtain ⟨hn, rfl⟩ := List.getElem?_eq_some_iff.1 h
  rw [List.drop_eq_getElem_cons hn]
  unfold runOf
  rw [List.takeWhile_cons, if_neg (by simp [hp])]; rfl
theorem runOf_drop_end (p : UInt8 → Bool) (l : List UInt8) (n : Nat) (h : l.length ≤ n) : runOf p (l.drop n) = 0 := by
  rw [List.drop_eq_nil_of_le h]; rfl

theorem blank_spec (b : UInt8) : isBlank b = decide (0 ≤ Lib.indexByte [32, 9, 10, 13] b) :=
  beq_iff_eq.1 (u8_all (p := fun b => isBlank b == decide (0 ≤ Lib.indexByte [32, 9, 10, 13] b)) (by decide +kernel) b)
theorem u8_back (b : UInt8) : ((b.toNat : Int)).toNat.toUInt8 = b := by simp

set_option maxHeartbeats 400000 in
theorem blank_calls (b : UInt8) (w : World) :
    Calls Tryz.prog 52 #[.int .u8 b.toNat] w fun e w' => e = .returned (.bool (isBlank b)) ∧ w' = w := by
  have Hs := Lib.hid (blank_spec b)
  go_enter Tryz.func52, Tryz.ntmps52
  go_wp2_with (go_at_call 75; refine (Tryz.strings_IndexByte _ _ _).mono ?_; rw [u8_back]; rintro e w' ⟨rfl, rfl⟩)
  go_ret
  exact ⟨by rw [Hs.out]; rfl, rfl⟩

set_option maxHeartbeats 1000000 in
set_option maxRecDepth 20000 in
theorem run_calls (g : Nat) (eg : ∀ args w, (callFunc g args).run Tryz.prog w = .ok (.enter g args) w) (p : UInt8 → Bool)
    (hp : ∀ (b : UInt8) w, Calls Tryz.prog g #[.int .u8 b.toNat] w fun e w' => e = .returned (.bool (p b)) ∧ w' = w) (s : ByteArray) (w : World) (hs : s.size < 4611686018427387904) :
    Calls Tryz.prog 83 #[.func (.func g) #[] #[], .string s] w fun e w' => e = .returned (.int .i64 (runOf p s.data.toList : Nat)) ∧ w' = w := by
  have Hp := Lib.hid hp
  have Eg := Lib.hid eg
  clear hp eg
  have hsz := Lib.size_eq s
  go_enter Tryz.func83, Tryz.ntmps83
  go_wp2
  go_loopw [5] (fun i wr => ∃ n : Nat, n ≤ s.size ∧ i = .int .i64 n ∧ n + runOf p (s.data.toList.drop n) = runOf p s.data.toList ∧ wr = w) (fun i _ => s.size - (intOf i).toNat)
  case atStart => exact ⟨0, by omega, rfl, by simp, rfl⟩
  case round =>
    obtain ⟨n, hn, rfl, hrun, rfl⟩ := hrel
    by_cases hlt : n < s.size
    · have hb : s.data.toList[n]? = some s[n] := by rw [List.getElem?_eq_getElem (by omega)]; rfl
      have Hrun := Lib.hid hrun
      have Hsz := Lib.hid hsz
      have Hb := Lib.hid hb
      clear hrun hsz hb
      cases hpb : p s[n]
      · have Hpb := Lib.hid hpb
        clear hpb
        go_wp2
        rw [Eg.out, Oper.upon_enter]
        refine (Hp.out _ _).mono ?_
        rw [Hpb.out]
        rintro e w' ⟨rfl, rfl⟩
        go_wp2
        go_ret
        refine ⟨?_, rfl⟩
        have h1 := Hrun.out
        rw [runOf_drop_miss p _ n _ Hb.out Hpb.out] at h1
        rw [← h1]; rfl
      · have Hpb := Lib.hid hpb
        clear hpb
        go_wp2
        rw [Eg.out, Oper.upon_enter]
        refine (Hp.out _ _).mono ?_
        rw [Hpb.out]
        rintro e w' ⟨rfl, rfl⟩
        go_wp2
        go_roundw
        case rel =>
          have h1 := Hrun.out
          rw [runOf_drop_hit p _ n _ Hb.out Hpb.out] at h1
          exact ⟨n + 1, by omega, by go_num, by omega, trivial⟩
        case measure => simp [intOf]; omega
    · obtain rfl : n = s.size := by omega
      have Hrun := Lib.hid hrun
      have Hsz := Lib.hid hsz
      clear hrun hsz
      go_wp2
      go_ret
      refine ⟨?_, rfl⟩
      have h1 := Hrun.out
      rw [runOf_drop_end p _ _ (Nat.le_of_eq Hsz.out.symm)] at h1
      rw [← h1]; rfl

set_option maxHeartbeats 400000 in
set_option maxRecDepth 20000 in
theorem simple_calls (s : ByteArray) (w : World) (hs : s.size < 4611686018427387904) :
    Calls Tryz.prog 79 #[.string s] w fun e w' => e = .returned (.int .i64 (simpleN s.data.toList : Nat)) ∧ w' = w := by
  by_cases h0 : s.size = 0
  · obtain rfl : s = ByteArray.empty := ByteArray.size_eq_zero_iff.1 h0
    go_enter Tryz.func79, Tryz.ntmps79
    go_wp2
    go_ret
    exact ⟨rfl, rfl⟩
  · have hlt : 0 < s.size := by omega
    have hsz := Lib.size_eq s
    obtain ⟨b, r, hl⟩ : ∃ b r, s.data.toList = b :: r := by
      match h : s.data.toList with
      | [] => rw [h] at hsz; exact absurd hsz h0
      | b :: r => exact ⟨b, r, rfl⟩
    have hb : s[0] = b := by
      have : s.data.toList[0]? = some s[0] := by rw [List.getElem?_eq_getElem (by omega)]; rfl
      rw [hl] at this; simpa using this.symm
    have hsp : simpleN s.data.toList = if isLetter s[0] then runOf isPart s.data.toList else 0 := by rw [hb, hl]; rfl
    have he : s.toList.isEmpty = false := by rw [Lib.toList_data, hl]; rfl
    have he2 : (s.toList = []) = False := by rw [Lib.toList_data, hl]; simp
    have Hsp := Lib.hid hsp
    clear hsp hb hsz
    cases hL : isLetter s[0]
    all_goals
      have HL := Lib.hid hL
      rw [hL] at Hsp
      clear hL hl
      go_enter Tryz.func79, Tryz.ntmps79
      go_wp2_with (first
        | (go_at_call 58; refine (letter_calls _ _).mono ?_; rw [HL.out]; rintro e w' ⟨rfl, rfl⟩)
        | (go_at_call 83; refine (run_calls 96 (fun _ _ => rfl) isPart part_calls s _ hs).mono ?_; rintro e w' ⟨rfl, rfl⟩))
      go_ret
      exact ⟨by rw [Hsp.out]; rfl, rfl⟩
end Go.Proofs.YtfaocpcbejgfjaaGreatDoor
namespace Go.Proofs.YtfaocpcbejgfjaaGreatDoor
open Go.RowKit

def signOff (r : List UInt8) : List UInt8 := match r with | [] => [] | b :: t => if b == 43 || b == 45 then t else b :: t
def powerN (l : List UInt8) : Nat := match l with
  | [] => 0
  | b :: r => if b == 101 || b == 69 then (if runOf isDigit (signOff r) = 0 then 0 else l.length - (signOff r).length + runOf isDigit (signOff r)) else 0
def mantN (l : List UInt8) : Nat :=
  if l[runOf isDigit l]? = some 46 then (if runOf isDigit l + runOf isDigit (l.drop (runOf isDigit l + 1)) = 0 then 0 else runOf isDigit l + (1 + runOf isDigit (l.drop (runOf isDigit l + 1)))) else runOf isDigit l
def numberN (l : List UInt8) : Nat := if mantN l = 0 then 0 else mantN l + powerN (l.drop (mantN l))

theorem signOff_le (r : List UInt8) : (signOff r).length ≤ r.length := by
  match r with
  | [] => simp [signOff]
  | b :: t =>
    show (if b == 43 || b == 45 then t else b :: t).length ≤ (b :: t).length
    split <;> simp
theorem powerN_le (l : List UInt8) : powerN l ≤ l.length := by
  match l with
  | [] => simp [powerN]
  | b :: r =>
    have h1 := signOff_le r
    have h2 := runOf_le isDigit (signOff r)
    show (if b == 101 || b == 69 then (if runOf isDigit (signOff r) = 0 then 0 else (b :: r).length - (signOff r).length + runOf isDigit (signOff r)) else 0) ≤ (b :: r).length
    have h3 : (b :: r).length = r.length + 1 := rfl
    split
    · split <;> omega
    · omega
theorem mantN_le (l : List UInt8) : mantN l ≤ l.length := by
  have h1 := runOf_le isDigit l
  have h2 := runOf_le isDigit (l.drop (runOf isDigit l + 1))
  rw [List.length_drop] at h2
  unfold mantN
  split
  · rename_i h
    obtain ⟨h3, _⟩ := List.getElem?_eq_some_iff.1 h
    split <;> omega
  · omega
theorem numberN_le (l : List UInt8) : numberN l ≤ l.length := by
  have h1 := mantN_le l
  have h2 := powerN_le (l.drop (mantN l))
  rw [List.length_drop] at h2
  unfold numberN; split <;> omega

theorem e_spec (b : UInt8) : (b == 101 || b == 69) = (bits .or .u8 (b.toNat : Int) 32 == 101) :=
  beq_iff_eq.1 (u8_all (p := fun b => (b == 101 || b == 69) == (bits .or .u8 (b.toNat : Int) 32 == 101)) (by decide +kernel) b)
theorem ext_data (s : ByteArray) (n : Nat) : (s.extract n s.size).data.toList = s.data.toList.drop n := by
  rw [Lib.extract_data, Lib.size_eq, List.take_of_length_le (by rw [List.length_drop]; exact Nat.le_refl _)]
theorem ext_size (s : ByteArray) (n : Nat) : (s.extract n s.size).size = s.size - n := by
  rw [Lib.size_eq, ext_data, List.length_drop, ← Lib.size_eq]
theorem ext_lt (s : ByteArray) (a b : Nat) {n : Nat} (hs : s.size < n) : (s.extract a b).size < n := by
  rw [Lib.size_eq, Lib.extract_data]
  have := Lib.size_eq s
  simp only [List.length_take, List.length_drop]
  omega
theorem mk_size (l : List UInt8) : (⟨l.toArray⟩ : ByteArray).size = l.length := rfl
theorem cons_of (s : ByteArray) (h : 0 < s.size) : s.data.toList = s[0] :: s.data.toList.drop 1 := by
  have hsz := Lib.size_eq s
  have h1 : s.data.toList[0]? = some s[0] := by rw [List.getElem?_eq_getElem (by omega)]; rfl
  match hl : s.data.toList with
  | [] => rw [hl] at h1; simp at h1
  | b :: r => rw [hl] at h1; simp at h1; simp [h1]
theorem not_empty (s : ByteArray) (h : 0 < s.size) : s.toList.isEmpty = false ∧ ((s.toList = []) = False) := by
  rw [Lib.toList_data, cons_of s h]; simp
theorem tp_cons (c b : UInt8) (r : List UInt8) : Lib.trimPrefix (b :: r) [c] = if c == b then r else b :: r := by
  unfold Lib.trimPrefix Lib.hasPrefix
  simp [List.isPrefixOf]
theorem signOff_hit (r : List UInt8) (h : (Lib.trimPrefix r [43]).length ≠ r.length) : signOff r = Lib.trimPrefix r [43] := by
  match r with
  | [] => rfl
  | b :: t =>
    rw [tp_cons] at h ⊢
    by_cases hc : (43 : UInt8) = b
    · subst hc; rfl
    · rw [if_neg (by simpa using hc)] at h; exact absurd rfl h
theorem signOff_miss (r : List UInt8) (h : (Lib.trimPrefix r [43]).length = r.length) : signOff r = Lib.trimPrefix (Lib.trimPrefix r [43]) [45] := by
  match r with
  | [] => rfl
  | b :: t =>
    rw [tp_cons] at h ⊢
    by_cases hc : (43 : UInt8) = b
    · subst hc; simp at h
    · rw [if_neg (by simpa using hc), tp_cons]
      show (if b == 43 || b == 45 then t else b :: t) = _
      by_cases h5 : (45 : UInt8) = b
      · subst h5; rfl
      · rw [if_neg (by simpa using And.intro (fun h => hc (Eq.symm h)) (fun h => h5 (Eq.symm h))), if_neg (by simpa using h5)]

theorem trim_calls (s p : ByteArray) (c : UInt8) (hp : p.data.toList = [c]) (w : World) :
    Calls Tryz.prog 64 #[.string s, .string p] w fun e w' => ∃ R : ByteArray, e = .returned (.string R) ∧ w' = w ∧ R.data.toList = Lib.trimPrefix s.data.toList [c] ∧ R.size ≤ s.size := by
  refine (Tryz.strings_TrimPrefix _ _ _).mono ?_
  rintro e w' ⟨rfl, rfl⟩
  exact ⟨_, rfl, rfl, by rw [hp], by rw [Lib.size_eq, Lib.size_eq s]; exact Lib.trimPrefix_le _ _⟩

set_option maxHeartbeats 1000000 in
set_option maxRecDepth 20000 in
theorem power_calls (s : ByteArray) (w : World) (hs : s.size < 4611686018427387904) :
    Calls Tryz.prog 84 #[.string s] w fun e w' => e = .returned (.int .i64 (powerN s.data.toList : Nat)) ∧ w' = w := by
  by_cases h0 : s.size = 0
  · obtain rfl : s = ByteArray.empty := ByteArray.size_eq_zero_iff.1 h0
    go_enter Tryz.func84, Tryz.ntmps84
    go_wp2
    go_ret
    exact ⟨rfl, rfl⟩
  · have hlt : 0 < s.size := by omega
    have hl := cons_of s hlt
    obtain ⟨he, he2⟩ := not_empty s hlt
    have hE := e_spec s[0]
    have hk : powerN s.data.toList = if s[0] == 101 || s[0] == 69 then (if runOf isDigit (signOff (s.data.toList.drop 1)) = 0 then 0 else s.size - (signOff (s.data.toList.drop 1)).length + runOf isDigit (signOff (s.data.toList.drop 1))) else 0 := by
      rw [Lib.size_eq s]
      have : powerN s.data.toList = powerN (s[0] :: s.data.toList.drop 1) := by rw [← hl]
      rw [this, powerN, ← hl]
    cases hb : (s[0] == 101 || s[0] == 69)
    · rw [hb] at hE hk
      have Hk := Lib.hid hk
      have hE1 : (bits .or .u8 (s[0].toNat : Int) 32 = 101) = False := by simpa using hE.symm
      have hE2 := hE.symm
      clear hb hk hl hE
      go_enter Tryz.func84, Tryz.ntmps84
      go_wp2
      go_ret
      exact ⟨by rw [Hk.out]; rfl, rfl⟩
    · rw [hb] at hE hk
      have hE1 : bits .or .u8 (s[0].toNat : Int) 32 = 101 := by simpa using hE.symm
      rw [if_pos rfl] at hk
      have Hk := Lib.hid hk
      have Hl := Lib.hid hl
      clear hb hk hl hE
      have hsR := Lib.size_eq s
      have HsR := Lib.hid hsR
      clear hsR
      go_enter Tryz.func84, Tryz.ntmps84
      go_wp2_with (first
        | (go_at_call 64; refine (trim_calls _ _ 43 (by decide +kernel) _).mono ?_; rintro e w' ⟨R, rfl, rfl, hR, hle⟩; have hsR : R.size < 4611686018427387904 := Nat.lt_of_le_of_lt hle (ext_lt _ _ _ hs); clear hle; have HR := Lib.hid hR; clear hR; have HRs := Lib.hid (Lib.size_eq R))
        | (go_at_call 64; refine (trim_calls _ _ 45 (by decide +kernel) _).mono ?_; rintro e w' ⟨R2, rfl, rfl, hR, hle⟩; have hsR2 : R2.size < 4611686018427387904 := Nat.lt_of_le_of_lt hle hsR; clear hle; have HR2 := Lib.hid hR; clear hR; have HRs2 := Lib.hid (Lib.size_eq R2))
        | (go_at_call 83; refine (run_calls 82 (fun _ _ => rfl) isDigit digit_calls _ _ (by assumption)).mono ?_; rintro e w' ⟨rfl, rfl⟩))
      · have h1 : ((R.size : Int) == (s.size : Int) - 1) = true := by assumption
        have h2 : (((runOf isDigit R2.data.toList : Nat) : Int) == 0) = true := by assumption
        go_ret
        refine ⟨?_, rfl⟩
        have e1 : (Lib.trimPrefix (s.data.toList.drop 1) [43]).length = (s.data.toList.drop 1).length := by
          rw [← ext_data, ← HR.out, ← HRs.out, ext_data, List.length_drop, ← HsR.out]
          have := eq_of_beq h1; omega
        have e2 := signOff_miss _ e1
        rw [← ext_data, ← HR.out, ← HR2.out] at e2
        have e3 : runOf isDigit R2.data.toList = 0 := by have := eq_of_beq h2; omega
        rw [Hk.out, ← ext_data, e2, e3]; rfl
      · have h1 : ((R.size : Int) == (s.size : Int) - 1) = true := by assumption
        have h2 : (((runOf isDigit R2.data.toList : Nat) : Int) == 0) = false := by assumption
        go_ret
        refine ⟨?_, rfl⟩
        have e1 : (Lib.trimPrefix (s.data.toList.drop 1) [43]).length = (s.data.toList.drop 1).length := by
          rw [← ext_data, ← HR.out, ← HRs.out, ext_data, List.length_drop, ← HsR.out]
          have := eq_of_beq h1; omega
        have e2 := signOff_miss _ e1
        rw [← ext_data, ← HR.out, ← HR2.out] at e2
        have e3 : ¬ runOf isDigit R2.data.toList = 0 := fun h => by rw [h] at h2; simp at h2
        have e4 := signOff_le (s.extract 1 s.size).data.toList
        rw [e2, ← HRs2.out, ← Lib.size_eq, ext_size] at e4
        have e5 := runOf_le isDigit R2.data.toList
        rw [← HRs2.out] at e5
        rw [Hk.out, ← ext_data, e2, if_neg e3, ← HRs2.out]
        show Ending.returned (.int .i64 (wrap64 _)) = _
        rw [IntWalk.wrap64_in _ (by omega)]
        congr 2; omega
      · have h1 : ((R.size : Int) == (s.size : Int) - 1) = false := by assumption
        have h2 : (((runOf isDigit R.data.toList : Nat) : Int) == 0) = true := by assumption
        go_ret
        refine ⟨?_, rfl⟩
        have e1 : (Lib.trimPrefix (s.data.toList.drop 1) [43]).length ≠ (s.data.toList.drop 1).length := by
          rw [← ext_data, ← HR.out, ← HRs.out, ext_data, List.length_drop, ← HsR.out]
          intro h
          have := (beq_eq_false_iff_ne.1 h1); omega
        have e2 := signOff_hit _ e1
        rw [← ext_data, ← HR.out] at e2
        have e3 : runOf isDigit R.data.toList = 0 := by have := eq_of_beq h2; omega
        rw [Hk.out, ← ext_data, e2, e3]; rfl
      · have h1 : ((R.size : Int) == (s.size : Int) - 1) = false := by assumption
        have h2 : (((runOf isDigit R.data.toList : Nat) : Int) == 0) = false := by assumption
        go_ret
        refine ⟨?_, rfl⟩
        have e1 : (Lib.trimPrefix (s.data.toList.drop 1) [43]).length ≠ (s.data.toList.drop 1).length := by
          rw [← ext_data, ← HR.out, ← HRs.out, ext_data, List.length_drop, ← HsR.out]
          intro h
          have := (beq_eq_false_iff_ne.1 h1); omega
        have e2 := signOff_hit _ e1
        rw [← ext_data, ← HR.out] at e2
        have e3 : ¬ runOf isDigit R.data.toList = 0 := fun h => by rw [h] at h2; simp at h2
        have e4 := signOff_le (s.extract 1 s.size).data.toList
        rw [e2, ← HRs.out, ← Lib.size_eq, ext_size] at e4
        have e5 := runOf_le isDigit R.data.toList
        rw [← HRs.out] at e5
        rw [Hk.out, ← ext_data, e2, if_neg e3, ← HRs.out]
        show Ending.returned (.int .i64 (wrap64 _)) = _
        rw [IntWalk.wrap64_in _ (by omega)]
        congr 2; omega

theorem dig_dot (l : List UInt8) (h : l[runOf isDigit l]? = some 46) : mantN l = if runOf isDigit l + runOf isDigit (l.drop (runOf isDigit l + 1)) = 0 then 0 else runOf isDigit l + (1 + runOf isDigit (l.drop (runOf isDigit l + 1))) := by
  unfold mantN; rw [if_pos h]

set_option maxHeartbeats 1000000 in
set_option maxRecDepth 20000 in
theorem number_calls (s : ByteArray) (w : World) (hs : s.size < 4611686018427387904) :
    Calls Tryz.prog 62 #[.string s] w fun e w' => e = .returned (.int .i64 (numberN s.data.toList : Nat)) ∧ w' = w := by
  obtain ⟨n, hn⟩ : ∃ n, runOf isDigit s.data.toList = n := ⟨_, rfl⟩
  have hle := runOf_le isDigit s.data.toList
  rw [hn, ← Lib.size_eq] at hle
  have Hn := Lib.hid hn
  have Hsz := Lib.hid (Lib.size_eq s)
  have hrun := run_calls 82 (fun _ _ => rfl) isDigit digit_calls s w hs
  rw [hn] at hrun
  clear hn
  have tailNone : mantN s.data.toList = n → n = 0 → numberN s.data.toList = 0 := fun h h0 => by unfold numberN; rw [if_pos (by omega)]
  have tailSome : ∀ m, mantN s.data.toList = m → m ≠ 0 → m ≤ s.size → numberN s.data.toList = m + powerN ((s.data.toList.drop m).take (s.size - m)) ∧ powerN ((s.data.toList.drop m).take (s.size - m)) ≤ s.size - m := fun m h h0 _ => by
    have e : (s.data.toList.drop m).take (s.size - m) = s.data.toList.drop m := by rw [← Lib.extract_data, ext_data]
    have h2 := powerN_le (s.data.toList.drop m)
    rw [List.length_drop, ← Hsz.out] at h2
    rw [e]
    exact ⟨by unfold numberN; rw [if_neg (by omega), h], h2⟩
  have T1 := Lib.hid tailNone
  have T2 := Lib.hid tailSome
  clear tailNone tailSome
  by_cases hlt : n < s.size
  · by_cases hd : s[n] = 46
    · have hat : s.data.toList[n]? = some 46 := by rw [List.getElem?_eq_getElem (by rw [← Hsz.out]; exact hlt), ← hd]; rfl
      have hm := dig_dot s.data.toList (by rw [Hn.out]; exact hat)
      rw [Hn.out, ← ext_data] at hm
      have hrun2 := run_calls 82 (fun _ _ => rfl) isDigit digit_calls (s.extract (n + 1) s.size) w (ext_lt _ _ _ hs)
      obtain ⟨k, hk⟩ : ∃ k, runOf isDigit (s.extract (n + 1) s.size).data.toList = k := ⟨_, rfl⟩
      have hk2 := runOf_le isDigit (s.extract (n + 1) s.size).data.toList
      rw [hk, ← Lib.size_eq, ext_size] at hk2
      rw [hk] at hm hrun2
      have Hm := Lib.hid hm
      have hd2 : (s[n].toNat : Int) = 46 := by rw [hd]; rfl
      have hw1 : IntKind.i64.wrap ((n : Int) + 1) = (n : Int) + 1 := IntWalk.i64_in _ (by omega)
      clear hm hk hat hd
      go_enter Tryz.func62, Tryz.ntmps62
      go_wp2_with (first
        | (go_at_call 83; with_reducible refine hrun.mono ?_; rintro e w' ⟨rfl, rfl⟩)
        | (go_at_call 83; with_reducible refine hrun2.mono ?_; rintro e w' ⟨rfl, rfl⟩)
        | (go_at_call 84; refine (power_calls _ _ (ext_lt _ _ _ hs)).mono ?_; rintro e w' ⟨rfl, rfl⟩))
      · have h1 : (((n : Nat) : Int) + (k : Int) == 0) = true := by assumption
        go_ret
        refine ⟨?_, rfl⟩
        have h2 := eq_of_beq h1
        have h3 := Hm.out
        rw [if_pos (by omega)] at h3
        have h4 : numberN s.data.toList = 0 := by unfold numberN; rw [if_pos h3]
        rw [h4]; rfl
      · have h1 : (((n : Nat) : Int) + (k : Int) == 0) = false := by assumption
        go_ret
        refine ⟨?_, rfl⟩
        have h2 := beq_eq_false_iff_ne.1 h1
        have h3 := Hm.out
        rw [if_neg (by omega)] at h3
        obtain ⟨h4, h5⟩ := T2.out _ h3 (by omega) (by omega)
        rw [h4]
        show Ending.returned (.int .i64 (wrap64 _)) = _
        rw [IntWalk.wrap64_in _ (by omega)]
        congr 2
    · have hat : ¬ s.data.toList[runOf isDigit s.data.toList]? = some 46 := by
        rw [Hn.out, List.getElem?_eq_getElem (by rw [← Hsz.out]; exact hlt)]
        intro h; exact hd (Option.some.inj h)
      have hm : mantN s.data.toList = n := by unfold mantN; rw [if_neg hat, Hn.out]
      have Hm := Lib.hid hm
      have hd2 : ((s[n].toNat : Int) = 46) = False := by
        apply eq_false; intro h; apply hd
        have : s[n].toNat = 46 := by omega
        exact UInt8.toNat_inj.1 this
      have hd3 : ((s[n].toNat : Int) == 46) = false := by rw [beq_eq_false_iff_ne]; intro h; rw [h] at hd2; simp at hd2
      clear hm hat hd
      go_enter Tryz.func62, Tryz.ntmps62
      go_wp2_with (first
        | (go_at_call 83; with_reducible refine hrun.mono ?_; rintro e w' ⟨rfl, rfl⟩)
        | (go_at_call 84; refine (power_calls _ _ (ext_lt _ _ _ hs)).mono ?_; rintro e w' ⟨rfl, rfl⟩))
      · have h1 : ((n : Int) == 0) = true := by assumption
        go_ret
        refine ⟨?_, rfl⟩
        have h2 := eq_of_beq h1
        rw [T1.out Hm.out (by omega)]; rfl
      · have h1 : ((n : Int) == 0) = false := by assumption
        go_ret
        refine ⟨?_, rfl⟩
        have h2 := beq_eq_false_iff_ne.1 h1
        obtain ⟨h4, h5⟩ := T2.out _ Hm.out (by omega) (by omega)
        rw [h4]
        show Ending.returned (.int .i64 (wrap64 _)) = _
        rw [IntWalk.wrap64_in _ (by omega)]
        congr 2
  · have hat : ¬ s.data.toList[runOf isDigit s.data.toList]? = some 46 := by
      rw [Hn.out, List.getElem?_eq_none (by rw [← Hsz.out]; omega)]; simp
    have hm : mantN s.data.toList = n := by unfold mantN; rw [if_neg hat, Hn.out]
    have Hm := Lib.hid hm
    have hdl : decide ((n : Int) < (s.size : Int)) = false := by rw [decide_eq_false_iff_not]; omega
    clear hm hat
    go_enter Tryz.func62, Tryz.ntmps62
    go_wp2_with (first
      | (go_at_call 83; with_reducible refine hrun.mono ?_; rintro e w' ⟨rfl, rfl⟩)
      | (go_at_call 84; refine (power_calls _ _ (ext_lt _ _ _ hs)).mono ?_; rintro e w' ⟨rfl, rfl⟩))
    · have h1 : ((n : Int) == 0) = true := by assumption
      go_ret
      refine ⟨?_, rfl⟩
      have h2 := eq_of_beq h1
      rw [T1.out Hm.out (by omega)]; rfl
    · have h1 : ((n : Int) == 0) = false := by assumption
      go_ret
      refine ⟨?_, rfl⟩
      have h2 := beq_eq_false_iff_ne.1 h1
      obtain ⟨h4, h5⟩ := T2.out _ Hm.out (by omega) (by omega)
      rw [h4]
      show Ending.returned (.int .i64 (wrap64 _)) = _
      rw [IntWalk.wrap64_in _ (by omega)]
      congr 2
end Go.Proofs.YtfaocpcbejgfjaaGreatDoor
namespace Go.Proofs.YtfaocpcbejgfjaaGreatDoor
open Go.RowKit

def moreN (l : List UInt8) : Nat :=
  if _h : Lib.hasPrefix l [58, 58] = true then (if simpleN (l.drop 2) = 0 then 0 else 2 + simpleN (l.drop 2) + moreN (l.drop (2 + simpleN (l.drop 2)))) else 0
termination_by l.length
decreasing_by
  have := Lib.hasPrefix_le _h
  simp only [List.length_drop]
  simp at this
  omega
def wordN (l : List UInt8) : Nat := if simpleN l = 0 then 0 else simpleN l + moreN (l.drop (simpleN l))

theorem simpleN_le (l : List UInt8) : simpleN l ≤ l.length := by
  match l with
  | [] => simp [simpleN]
  | b :: r =>
    have := runOf_le isPart (b :: r)
    show (if isLetter b then runOf isPart (b :: r) else 0) ≤ _
    split <;> omega
theorem cut_calls (s p : ByteArray) (hp : p.data.toList = [58, 58]) (w : World) :
    Calls Tryz.prog 80 #[.string s, .string p] w fun e w' => ∃ R : ByteArray, e = .returned (.tuple #[.string R, .bool (Lib.hasPrefix s.data.toList [58, 58])]) ∧ w' = w ∧ R.data.toList = Lib.trimPrefix s.data.toList [58, 58] ∧ R.size ≤ s.size := by
  refine (Tryz.strings_CutPrefix _ _ _).mono ?_
  rintro e w' ⟨rfl, rfl⟩
  exact ⟨⟨(Lib.trimPrefix s.data.toList [58, 58]).toArray⟩, by rw [hp], rfl, rfl, by rw [Lib.size_eq, Lib.size_eq s]; exact Lib.trimPrefix_le _ _⟩
theorem moreN_miss (l : List UInt8) (h : Lib.hasPrefix l [58, 58] = false) : moreN l = 0 := by
  rw [moreN, dif_neg (by rw [h]; simp)]
theorem moreN_none (l : List UInt8) (h : Lib.hasPrefix l [58, 58] = true) (hk : simpleN (l.drop 2) = 0) : moreN l = 0 := by
  rw [moreN, dif_pos h, if_pos hk]
theorem moreN_hit (l : List UInt8) (k : Nat) (h : Lib.hasPrefix l [58, 58] = true) (hk : simpleN (l.drop 2) = k) (h0 : k ≠ 0) : moreN l = 2 + k + moreN (l.drop (2 + k)) := by
  rw [moreN, dif_pos h, if_neg (by rw [hk]; exact h0), hk]
theorem tp_two (l : List UInt8) (h : Lib.hasPrefix l [58, 58] = true) : Lib.trimPrefix l [58, 58] = l.drop 2 := by
  unfold Lib.trimPrefix; rw [if_pos h]; rfl
theorem drop_take (s : ByteArray) (n : Nat) : (s.data.toList.drop n).take (s.size - n) = s.data.toList.drop n := by
  rw [← Lib.extract_data, ext_data]

set_option maxHeartbeats 1000000 in
set_option maxRecDepth 20000 in
theorem word_calls (s : ByteArray) (w : World) (hs : s.size < 4611686018427387904) :
    Calls Tryz.prog 54 #[.string s] w fun e w' => e = .returned (.int .i64 (wordN s.data.toList : Nat)) ∧ w' = w := by
  have h1 := simpleN_le s.data.toList
  rw [← Lib.size_eq] at h1
  have Hw := Lib.hid (show wordN s.data.toList = if simpleN s.data.toList = 0 then 0 else simpleN s.data.toList + moreN (s.data.toList.drop (simpleN s.data.toList)) from rfl)
  have hcall := simple_calls s w hs
  have Hsz := Lib.hid (Lib.size_eq s)
  generalize simpleN s.data.toList = n0 at *
  go_enter Tryz.func54, Tryz.ntmps54
  go_wp2_with (go_at_call 79; with_reducible refine hcall.mono ?_; rintro e w' ⟨rfl, rfl⟩)
  clear hcall
  go_loopw [3, 4, 5, 6] (fun i _ _ _ wr => ∃ n : Nat, n ≤ s.size ∧ i = .int .i64 n ∧ (wordN s.data.toList = if n = 0 then 0 else n + moreN (s.data.toList.drop n)) ∧ wr = w') (fun i _ _ _ _ => s.size - (intOf i).toNat)
  case atStart => exact ⟨n0, h1, rfl, Hw.out, rfl⟩
  case round =>
    clear Hw
    obtain ⟨n, hn, rfl, hw, rfl⟩ := hrel
    have Hw := Lib.hid hw
    clear hw
    by_cases h0 : n = 0
    · subst h0
      go_wp2
      go_ret
      exact ⟨by rw [Hw.out]; rfl, rfl⟩
    · have hn0 : decide ((0 : Int) < (n : Int)) = true := by rw [decide_eq_true_iff]; omega
      go_wp2_with (first
        | (go_at_call 80; refine (cut_calls _ _ (by decide +kernel) _).mono ?_; rintro e w' ⟨R, rfl, rfl, hR, hle⟩; have hsR : R.size < 4611686018427387904 := Nat.lt_of_le_of_lt hle (ext_lt _ _ _ hs); have Hle := Lib.hid hle; clear hle; have HR := Lib.hid hR; clear hR)
        | (go_at_call 79; refine (simple_calls _ _ (by assumption)).mono ?_; rintro e w' ⟨rfl, rfl⟩))
      · have g1 : Lib.hasPrefix ((s.data.toList.drop n).take (s.size - n)) [58, 58] = true := by assumption
        have g2 : (((simpleN R.data.toList : Nat) : Int) == 0) = true := by assumption
        go_ret
        refine ⟨?_, rfl⟩
        rw [drop_take] at g1
        have g3 := HR.out
        rw [ext_data, tp_two _ g1] at g3
        have g4 : simpleN R.data.toList = 0 := by have := eq_of_beq g2; omega
        rw [g3] at g4
        rw [Hw.out, if_neg h0, moreN_none _ g1 g4]; rfl
      · have g1 : Lib.hasPrefix ((s.data.toList.drop n).take (s.size - n)) [58, 58] = true := by assumption
        have g2 : (((simpleN R.data.toList : Nat) : Int) == 0) = false := by assumption
        rw [drop_take] at g1
        have g3 := HR.out
        rw [ext_data, tp_two _ g1] at g3
        have g4 : simpleN R.data.toList ≠ 0 := by have := beq_eq_false_iff_ne.1 g2; omega
        have g5 := moreN_hit _ _ g1 (by rw [← g3]) g4
        have g6 := simpleN_le R.data.toList
        have g7 : R.data.toList.length + 2 ≤ s.size - n := by
          have := Lib.hasPrefix_le g1
          simp only [List.length_drop, List.length_cons, List.length_nil] at this
          rw [g3, List.length_drop, List.length_drop, Hsz.out]; omega
        have g8 : wordN s.data.toList = n + (2 + simpleN R.data.toList) + moreN (s.data.toList.drop (n + (2 + simpleN R.data.toList))) := by
          rw [Hw.out, if_neg h0, g5, List.drop_drop, Nat.add_assoc n]
        have G8 := Lib.hid g8
        rw [← Lib.size_eq] at g6 g7
        clear g8 g5 g3 g1
        generalize simpleN R.data.toList = k at *
        have e : wrap64 ((n : Int) + wrap64 (2 + (k : Int))) = ((n + (2 + k) : Nat) : Int) := by
          rw [IntWalk.wrap64_in (2 + _) (by omega), IntWalk.wrap64_in _ (by omega)]; omega
        rw [e]
        refine ⟨⟨n + (2 + k), by omega, rfl, ?_, trivial⟩, ?_⟩
        · rw [if_neg (by omega)]; exact G8.out
        · simp only [intOf]; omega
      · have g1 : ¬ Lib.hasPrefix ((s.data.toList.drop n).take (s.size - n)) [58, 58] = true := by assumption
        go_ret
        refine ⟨?_, rfl⟩
        rw [drop_take] at g1
        rw [Hw.out, if_neg h0, moreN_miss _ (by simpa using g1)]; rfl

theorem wordN_le (l : List UInt8) : wordN l ≤ l.length := by
  have h : ∀ k (l : List UInt8), l.length ≤ k → moreN l ≤ l.length := by
    intro k
    induction k with
    | zero => intro l h; rw [moreN_miss _ (by have : l = [] := List.length_eq_zero_iff.1 (by omega); subst this; rfl)]; omega
    | succ k ih =>
      intro l hl
      cases hp : Lib.hasPrefix l [58, 58]
      · rw [moreN_miss _ hp]; omega
      · have h2 := Lib.hasPrefix_le hp
        simp only [List.length_cons, List.length_nil] at h2
        by_cases hk : simpleN (l.drop 2) = 0
        · rw [moreN_none _ hp hk]; omega
        · rw [moreN_hit _ _ hp rfl hk]
          have h3 := simpleN_le (l.drop 2)
          rw [List.length_drop] at h3
          have h4 := ih (l.drop (2 + simpleN (l.drop 2))) (by rw [List.length_drop]; omega)
          rw [List.length_drop] at h4
          omega
  have h1 := simpleN_le l
  have h2 := h _ (l.drop (simpleN l)) (Nat.le_refl _)
  rw [List.length_drop] at h2
  unfold wordN; split <;> omega

end Go.Proofs.YtfaocpcbejgfjaaGreatDoor
namespace Go.Proofs.YtfaocpcbejgfjaaGreatDoor
open Go.RowKit

def escPlain (c : UInt8) : Bool := c == 34 || c == 92 || c == 47 || c == 98 || c == 102 || c == 110 || c == 114 || c == 116
def escN (l : List UInt8) : Nat := match l with
  | a :: c :: r => if a == 92 then (if escPlain c then 2 else if c == 117 && runOf isHex (r.take 4) == 4 then 6 else 0) else 0
  | _ => 0
theorem escPlain_spec (b : UInt8) : escPlain b = decide (0 ≤ Lib.indexByte [34, 92, 47, 98, 102, 110, 114, 116] b) :=
  beq_iff_eq.1 (u8_all (p := fun b => escPlain b == decide (0 ≤ Lib.indexByte [34, 92, 47, 98, 102, 110, 114, 116] b)) (by decide +kernel) b)
theorem byte_ne {b : UInt8} (c : UInt8) (h : (b == c) = false) : ((b.toNat : Int) = (c.toNat : Int)) = False := by
  apply eq_false; intro e
  have : b = c := UInt8.toNat_inj.1 (by omega)
  subst this; simp at h
theorem byte_beq {b : UInt8} (c : UInt8) (h : (b == c) = false) : ((b.toNat : Int) == (c.toNat : Int)) = false := by
  rw [beq_eq_false_iff_ne, ne_eq, byte_ne c h]; simp
theorem byte_bne {b : UInt8} (c : UInt8) (h : (b == c) = false) : ((b.toNat : Int) != (c.toNat : Int)) = true := by rw [bne, byte_beq c h]; rfl
theorem byte_eq {b : UInt8} (c : UInt8) (h : (b == c) = true) : (b.toNat : Int) = (c.toNat : Int) := by rw [eq_of_beq h]
theorem idx_calls (c : Int) (b : UInt8) (hc : c = (b.toNat : Int)) (w : World) :
    Calls Tryz.prog 75 #[.string ⟨#[34, 92, 47, 98, 102, 110, 114, 116]⟩, .int .u8 c] w fun e w' => ∃ v : Int, e = .returned (.int .i64 v) ∧ w' = w ∧ (escPlain b = true → 0 ≤ v) ∧ (escPlain b = false → v < 0) := by
  refine (Tryz.strings_IndexByte _ _ _).mono ?_
  rw [hc, u8_back]
  rintro e w' ⟨rfl, rfl⟩
  refine ⟨_, rfl, rfl, fun h => ?_, fun h => ?_⟩
  · rw [escPlain_spec] at h; exact of_decide_eq_true h
  · rw [escPlain_spec] at h; exact Int.not_le.1 (of_decide_eq_false h)
theorem cons2_of (s : ByteArray) (h : 2 ≤ s.size) : s.data.toList = s[0] :: s[1] :: s.data.toList.drop 2 := by
  have hsz := Lib.size_eq s
  have h1 : s.data.toList[0]? = some s[0] := by rw [List.getElem?_eq_getElem (by omega)]; rfl
  have h2 : s.data.toList[1]? = some s[1] := by rw [List.getElem?_eq_getElem (by omega)]; rfl
  match hl : s.data.toList with
  | [] => rw [hl] at h1; simp at h1
  | [b] => rw [hl] at h2; simp at h2
  | b :: c :: r => rw [hl] at h1 h2; simp at h1 h2; simp [h1, h2]
theorem escN_le (l : List UInt8) : escN l ≤ l.length := by
  match l with
  | [] => simp [escN]
  | [_] => simp [escN]
  | a :: c :: r =>
    show (if a == 92 then (if escPlain c then 2 else if c == 117 && runOf isHex (r.take 4) == 4 then 6 else 0) else 0) ≤ r.length + 2
    split
    · split
      · omega
      · split
        · rename_i h
          have h1 := runOf_le isHex (r.take 4)
          rw [Bool.and_eq_true, beq_iff_eq, beq_iff_eq] at h
          rw [h.2, List.length_take] at h1
          omega
        · omega
    · omega

set_option maxHeartbeats 1000000 in
set_option maxRecDepth 20000 in
theorem escape_calls (s : ByteArray) (w : World) (hs : s.size < 4611686018427387904) :
    Calls Tryz.prog 88 #[.string s] w fun e w' => e = .returned (.int .i64 (escN s.data.toList : Nat)) ∧ w' = w := by
  by_cases hlt : 2 ≤ s.size
  · have hl := cons2_of s hlt
    have Hsz := Lib.hid (Lib.size_eq s)
    have hE : escN s.data.toList = if s[0] == 92 then (if escPlain s[1] then 2 else if s[1] == 117 && runOf isHex ((s.data.toList.drop 2).take 4) == 4 then 6 else 0) else 0 := by
      have : escN s.data.toList = escN (s[0] :: s[1] :: s.data.toList.drop 2) := by rw [← hl]
      rw [this]; rfl
    have HE := Lib.hid hE
    clear hl hE
    have hdl : decide ((s.size : Int) < 2) = false := by rw [decide_eq_false_iff_not]; omega
    cases h0 : (s[0] == 92)
    · have e1 : ((s[0].toNat : Int) = 92) = False := byte_ne 92 h0
      have e3 : ((s[0].toNat : Int) != 92) = true := byte_bne 92 h0
      have e2 : ((s[0].toNat : Int) == 92) = false := byte_beq 92 h0
      rw [h0] at HE
      clear h0
      go_enter Tryz.func88, Tryz.ntmps88
      go_wp2
      go_ret
      exact ⟨by rw [HE.out]; rfl, rfl⟩
    · have e1 : (s[0].toNat : Int) = 92 := byte_eq 92 h0
      rw [h0] at HE
      clear h0
      cases hp : escPlain s[1]
      · rw [hp] at HE
        have Hp := Lib.hid hp
        clear hp
        cases h1 : (s[1] == 117)
        · have e2 : ((s[1].toNat : Int) = 117) = False := byte_ne 117 h1
          have e3 : ((s[1].toNat : Int) == 117) = false := byte_beq 117 h1
          rw [h1] at HE
          clear h1
          go_enter Tryz.func88, Tryz.ntmps88
          go_wp2_with (go_at_call 75; refine (idx_calls _ s[1] (by first | rfl | exact e2.symm) _).mono ?_; rintro e w' ⟨v, rfl, rfl, h1, h2⟩; first | (replace h1 := h1 Hp.out; clear h2) | (replace h2 := h2 Hp.out; clear h1))
          go_ret
          exact ⟨by rw [HE.out]; rfl, rfl⟩
        · have e2 : (s[1].toNat : Int) = 117 := byte_eq 117 h1
          rw [h1] at HE
          clear h1
          have e4 : (s.extract 2 (min (s.size : Int) 6).toNat).data.toList = (s.data.toList.drop 2).take 4 := by
            rw [Lib.extract_data]
            by_cases h6 : 6 ≤ s.size
            · rw [show (min (s.size : Int) 6).toNat - 2 = 4 by omega]
            · rw [List.take_of_length_le (by rw [List.length_drop, ← Hsz.out]; omega), List.take_of_length_le (by rw [List.length_drop, ← Hsz.out]; omega)]
          have hrun := run_calls 102 (fun _ _ => rfl) isHex hex_calls (s.extract 2 (min (s.size : Int) 6).toNat) w (ext_lt _ _ _ hs)
          rw [e4] at hrun
          clear e4
          generalize runOf isHex ((s.data.toList.drop 2).take 4) = k at *
          go_enter Tryz.func88, Tryz.ntmps88
          go_wp2_with (first
            | (go_at_call 75; refine (idx_calls _ s[1] (by first | rfl | exact e2.symm) _).mono ?_; rintro e w' ⟨v, rfl, rfl, h1, h2⟩; first | (replace h1 := h1 Hp.out; clear h2) | (replace h2 := h2 Hp.out; clear h1))
            | (go_at_call 83; with_reducible refine hrun.mono ?_; rintro e w' ⟨rfl, rfl⟩))
          · have g : ((k : Int) == 4) = true := by assumption
            have g2 : (k == 4) = true := by have := eq_of_beq g; rw [beq_iff_eq]; omega
            go_ret
            refine ⟨?_, rfl⟩
            rw [HE.out, g2]; rfl
          · have g : ((k : Int) == 4) = false := by assumption
            have g2 : (k == 4) = false := by have := beq_eq_false_iff_ne.1 g; rw [beq_eq_false_iff_ne]; omega
            go_ret
            refine ⟨?_, rfl⟩
            rw [HE.out, g2]; rfl
      · rw [hp] at HE
        have Hp := Lib.hid hp
        clear hp
        go_enter Tryz.func88, Tryz.ntmps88
        go_wp2_with (go_at_call 75; refine (idx_calls _ s[1] (by first | rfl | exact e2.symm) _).mono ?_; rintro e w' ⟨v, rfl, rfl, h1, h2⟩; first | (replace h1 := h1 Hp.out; clear h2) | (replace h2 := h2 Hp.out; clear h1))
        go_ret
        exact ⟨by rw [HE.out]; rfl, rfl⟩
  · have hE : escN s.data.toList = 0 := by
      have := Lib.size_eq s
      match hl : s.data.toList with
      | [] => rfl
      | [b] => rfl
      | b :: c :: r => rw [hl] at this; simp at this; omega
    have HE := Lib.hid hE
    have hdl : decide ((s.size : Int) < 2) = true := by rw [decide_eq_true_iff]; omega
    clear hE
    go_enter Tryz.func88, Tryz.ntmps88
    go_wp2
    go_ret
    exact ⟨by rw [HE.out]; rfl, rfl⟩
end Go.Proofs.YtfaocpcbejgfjaaGreatDoor
namespace Go.Proofs.YtfaocpcbejgfjaaGreatDoor
open Go.RowKit Go.Sub
attribute [local go_sem] Oper.semAt_some

def opersS : List UInt8 := [63, 47, 47, 32, 47, 47, 61, 32, 33, 61, 32, 61, 61, 32, 60, 61, 32, 62, 61, 32, 124, 61, 32, 43, 61, 32, 45, 61, 32, 42, 61, 32, 47, 61, 32, 37, 61, 32, 47, 47, 32, 46, 46, 32, 46, 32, 91, 32, 93, 32, 40, 32, 41, 32, 123, 32, 125, 32, 44, 32, 58, 32, 59, 32, 61, 32, 124, 32, 43, 32, 45, 32, 42, 32, 47, 32, 37, 32, 60, 32, 62, 32, 63]
def opsL : List (List UInt8) := [[63, 47, 47], [47, 47, 61], [33, 61], [61, 61], [60, 61], [62, 61], [124, 61], [43, 61], [45, 61], [42, 61], [47, 61], [37, 61], [47, 47], [46, 46], [46], [91], [93], [40], [41], [123], [125], [44], [58], [59], [61], [124], [43], [45], [42], [47], [37], [60], [62], [63]]
def curO : Nat → List UInt8
  | 0 => opersS
  | k + 1 => (curO k).drop ((Lib.indexByte (curO k) 32).toNat + 1)
def lenO (k : Nat) : Nat := (opsL.getD k []).length
theorem cur_facts : (List.range 33).all (fun k => Lib.indexByte (curO k) 32 == (lenO k : Int) && (decide (lenO k + 1 ≤ (curO k).length) && ((curO k).take (lenO k) == opsL.getD k [] && (curO k).drop (lenO k + 1) == curO (k + 1)))) = true := by decide +kernel
theorem cur_at (k : Nat) (h : k < 33) : Lib.indexByte (curO k) 32 = (lenO k : Int) ∧ lenO k + 1 ≤ (curO k).length ∧ (curO k).take (lenO k) = opsL.getD k [] ∧ (curO k).drop (lenO k + 1) = curO (k + 1) := by
  have := List.all_eq_true.1 cur_facts k (List.mem_range.2 h)
  simp only [Bool.and_eq_true, beq_iff_eq, decide_eq_true_eq] at this
  exact this
theorem cur_end : Lib.indexByte (curO 33) 32 = -1 ∧ curO 33 = [63] := by decide +kernel
theorem curO_le (k : Nat) : (curO k).length ≤ 100 := by
  induction k with
  | zero => decide +kernel
  | succ k ih => show ((curO k).drop _).length ≤ 100; rw [List.length_drop]; omega
def cellLen : Option Value → Nat | some (.string s) => s.size | _ => 0
def encB (x : List UInt8) : Array Value := #[.string ⟨x.toArray⟩]
theorem ops_snoc (k : Nat) (h : k < 34) : opsL.take k ++ [opsL.getD k []] = opsL.take (k + 1) := by
  have hl : opsL.length = 34 := rfl
  rw [List.take_add_one, List.getElem?_eq_getElem (by omega), List.getD_eq_getElem?_getD, List.getElem?_eq_getElem (by omega)]
  rfl
theorem heap_lt {w : World} {b : Nat} {o : Obj} (h : w.heap[b]? = some o) : b < w.heap.size := (Array.getElem?_eq_some_iff.1 h).1
theorem setBox (W : World) (b : Nat) (v : Value) (O : Nat → Prop) (h : O b) : Keeps O W (W.setCell ⟨b, 0, none⟩ v) := Keeps.setCell W b v h

set_option maxRecDepth 100000 in
set_option maxHeartbeats 1000000 in
theorem split_in (n : Nat) (hn : 1 ≤ n) (l : Nat) (b0 b1 b2 : Nat) (h01 : b0 ≠ b1) (h02 : b0 ≠ b2) (J Jx : List (List UInt8) → (Nat → Prop) → World → Prop) (W : World) (O : Nat → Prop)
    (hO : ∀ b, O b → b < W.heap.size ∧ ¬ b = b0 ∧ ¬ (b = b1 ∨ b = b2))
    (hJ : ∀ pre O A B, J pre O A → Keeps (fun b => ¬ O b ∧ (b = b0 ∨ W.heap.size ≤ b)) A B → J pre O B)
    (hY : ∀ pre x W1 O1, J pre O1 W1 → pre.length < 34 → YieldAt Fence.wide (n - 1) Tryz.prog l (encB x) W1 fun e W' => ∃ O2, Keeps O1 W1 W' ∧ (∀ b, O2 b → (O1 b ∨ W1.heap.size ≤ b) ∧ b < W'.heap.size) ∧
      ((e = .returned (.bool true) ∧ J (pre ++ [x]) O2 W') ∨ (e = .returned (.bool false) ∧ Jx (pre ++ [x]) O2 W')))
    (hb0 : Boxed W b0 9 (.string ⟨(curO 0).toArray⟩)) (hb1 : Boxed W b1 9 (.string ⟨#[32]⟩)) (hb2 : Boxed W b2 3 (.int .i64 0)) (h0 : J [] O W) :
    CallsIn Fence.wide n Tryz.prog 107 #[.func (.yield l) #[] #[], .pointer (some ⟨b1, 0, none⟩), .pointer (some ⟨b0, 0, none⟩), .pointer (some ⟨b2, 0, none⟩)] W fun e W' => (∃ v, e = .returned v) ∧
      ((∃ ys O', ys = opsL ∧ J ys O' W') ∨ (∃ pre O', pre <+: opsL ∧ Jx pre O' W')) := by
  refine callsIn_of_wp Tryz.func107 rfl trivial ?_ rfl
  simp only [Tryz.ntmps107, List.size_toArray, List.length_cons, List.length_nil, Nat.reduceAdd, Nat.reduceSub, Array.replicate_succ, Array.replicate_zero, List.push_toArray, List.append_toArray, List.nil_append, List.cons_append]
  have hc1 := hb1.cell
  gi_wp2
  clear hc1
  gi_loopw [7, 8] (fun _ _ wr => ∃ (k : Nat) (O : Nat → Prop), k ≤ 33 ∧ Boxed wr b0 9 (.string ⟨(curO k).toArray⟩) ∧ Boxed wr b1 9 (.string ⟨#[32]⟩) ∧ Boxed wr b2 3 (.int .i64 0) ∧ J (opsL.take k) O wr ∧ (¬ O b0 ∧ ¬ O b1 ∧ ¬ O b2) ∧ W.heap.size ≤ wr.heap.size)
    (fun _ _ wr => cellLen (wr.cell? ⟨b0, 0, none⟩))
  case atStart => exact ⟨0, O, by omega, hb0, hb1, hb2, h0, ⟨fun h => (hO _ h).2.1 rfl, fun h => (hO _ h).2.2 (.inl rfl), fun h => (hO _ h).2.2 (.inr rfl)⟩, Nat.le_refl _⟩
  case round =>
    clear hb0 hb1 hb2 h0 hO O
    obtain ⟨k, O, hk, hb0, hb1, hb2, hJk, ⟨hO0, hO1, hO2⟩, hWs⟩ := hrel
    have hc0 := hb0.cell
    have hc1 := hb1.cell
    have hc2 := hb2.cell
    have hf0 := hb0.frozen
    by_cases hlt : k < 33
    · obtain ⟨f1, f2, f3, f4⟩ := cur_at k hlt
      have f5 := curO_le k
      have hidx := Tryz.strings_Index_one ⟨(curO k).toArray⟩ 32 wr
      have hS1 : (⟨(curO k).toArray⟩ : ByteArray).extract 0 (lenO k) = ⟨(opsL.getD k []).toArray⟩ := by
        rw [Lib.extract_eq, ← f3]; rfl
      have hS2 : (⟨(curO k).toArray⟩ : ByteArray).extract (lenO k + 1) (curO k).length = ⟨(curO (k + 1)).toArray⟩ := by
        rw [Lib.extract_eq, ← f4]
        show ByteArray.mk (((curO k).drop (lenO k + 1)).take _).toArray = _
        rw [List.take_of_length_le (by rw [List.length_drop]; exact Nat.le_refl _)]
      have hS3 : (curO (k + 1)).length < (curO k).length := by rw [← f4, List.length_drop]; omega
      have hidx2 : Lib.indexByte (⟨(curO k).toArray⟩ : ByteArray).data.toList 32 = (lenO k : Int) := f1
      rw [hidx2] at hidx
      have hSs : (⟨(curO k).toArray⟩ : ByteArray).size = (curO k).length := rfl
      have hSn : (⟨(curO (k + 1)).toArray⟩ : ByteArray).size = (curO (k + 1)).length := rfl
      have Hsn := Lib.hid (ops_snoc k (by omega))
      generalize opsL.getD k [] = x at *
      generalize hS : (⟨(curO k).toArray⟩ : ByteArray) = S at *
      generalize hN : (⟨(curO (k + 1)).toArray⟩ : ByteArray) = N at *
      rw [← hSs] at hS2 f2 f5 hS3
      rw [← hSn] at hS3
      have HS1 := Lib.hid hS1
      have HS2 := Lib.hid hS2
      have HN := Lib.hid hN
      clear f1 f3 f4 hidx2 hSs hSn hS hN hS1 hS2
      generalize lenO k = ln at *
      have hl0 := hb0.lt
      have hl1 := hb1.lt
      have hl2 := hb2.lt
      obtain ⟨fn, tmps, assign, body, hy, hR⟩ := hY _ x wr O hJk (by rw [List.length_take]; omega)
      rw [show encB x = #[.string (S.extract 0 ln)] by rw [HS1.out]; rfl] at hy
      gi_wp2_with (refine ⟨trivial, ?_⟩; gi_at_call 109; refine (callsIn_wide.2 hidx).mono ?_; rintro e w' ⟨rfl, rfl⟩)
      refine hR.mono ?_
      clear hidx hy hJk
      rintro e W3 ⟨O2, hk3, hO2', (⟨rfl, hJ3⟩ | ⟨rfl, hJx3⟩)⟩
      · have hb03 := boxed_keeps hb0 hk3 hO0
        have hb13 := boxed_keeps hb1 hk3 hO1
        have hb23 := boxed_keeps hb2 hk3 hO2
        have hn : ∀ b, ¬ O b → b < w'.heap.size → ¬ O2 b := fun b h1 h2 h => (hO2' b h).1.elim h1 (by omega)
        have hn0 := hn _ hO0 hl0
        have hn1 := hn _ hO1 hl1
        have hn2 := hn _ hO2 hl2
        have hs3 := hk3.size
        have hms : cellLen (w'.cell? ⟨b0, 0, none⟩) = S.size := by rw [hb0.cell]; rfl
        have hms3 : cellLen ((W3.setCell ⟨b0, 0, none⟩ (.string N)).cell? ⟨b0, 0, none⟩) = N.size := by rw [(hb03.set (.string N)).cell]; rfl
        have Hms := Lib.hid hms
        have Hms3 := Lib.hid hms3
        rw [Hsn.out] at hJ3
        clear hms hms3 hn hR hb0 hb1 hb2 hc0 hc1 hc2 hf0
        have hc0 := hb03.cell
        have hc1 := hb13.cell
        have hc2 := hb23.cell
        have hf0 := hb03.frozen
        gi_wp2
        rw [HS2.out]
        go_roundw
        case rel =>
          refine ⟨k + 1, O2, by omega, ?_, hb13.other h01.symm _, hb23.other h02.symm _, ?_, ⟨hn0, hn1, hn2⟩, ?_⟩
          · rw [HN.out]; exact hb03.set _
          · exact hJ _ _ _ _ hJ3 ((Keeps.setCell (O := fun b => b = b0) W3 b0 _ rfl).mono fun b _ h => ⟨by rw [h]; exact hn0, .inl h⟩)
          · have := (Keeps.setCell (O := fun b => b = b0) W3 b0 (.string N) rfl).size; omega
        case measure => rw [Hms.out, Hms3.out]; omega
      · gi_wp2
        refine bodyPost_ret (results_none rfl _ _ _) rfl ?_
        refine ⟨⟨_, rfl⟩, .inr ⟨_, O2, ?_, hJx3⟩⟩
        rw [Hsn.out]; exact List.take_prefix _ _
    · obtain rfl : k = 33 := by omega
      have hidx := Tryz.strings_Index_one ⟨(curO 33).toArray⟩ 32 wr
      have hidx2 : Lib.indexByte (⟨(curO 33).toArray⟩ : ByteArray).data.toList 32 = -1 := cur_end.1
      rw [hidx2, cur_end.2] at hidx
      rw [cur_end.2] at hc0 hb0
      obtain ⟨fn, tmps, assign, body, hy, hR⟩ := hY _ [63] wr O hJk (by rw [List.length_take]; omega)
      dsimp only [encB] at hy
      have Hsn := Lib.hid (ops_snoc 33 (by omega))
      gi_wp2_with (refine ⟨trivial, ?_⟩; gi_at_call 109; refine (callsIn_wide.2 hidx).mono ?_; rintro e w' ⟨rfl, rfl⟩)
      refine hR.mono ?_
      rintro e W3 ⟨O2, hk3, hO2', (⟨rfl, hJ3⟩ | ⟨rfl, hJx3⟩)⟩
      · gi_wp2
        refine bodyPost_end (results_none rfl _ _ _) rfl ?_
        exact ⟨⟨_, rfl⟩, .inl ⟨_, O2, Hsn.out, hJ3⟩⟩
      · gi_wp2
        refine bodyPost_end (results_none rfl _ _ _) rfl ?_
        exact ⟨⟨_, rfl⟩, .inr ⟨_, O2, by rw [show opsL.take 33 ++ [[63]] = opsL from Hsn.out]; exact List.prefix_refl _, hJx3⟩⟩
end Go.Proofs.YtfaocpcbejgfjaaGreatDoor
namespace Go.Proofs.YtfaocpcbejgfjaaGreatDoor
open Go.RowKit Go.Sub
attribute [local go_sem] Oper.semAt_some

def operN (l : List UInt8) : Nat := ((opsL.find? fun o => Lib.hasPrefix l o).map List.length).getD 0
theorem operN_none (l : List UInt8) (h : ∀ x ∈ opsL, Lib.hasPrefix l x = false) : operN l = 0 := by
  unfold operN
  rw [List.find?_eq_none.2 (fun x hx => by rw [h x hx]; simp)]; rfl
theorem operN_some (l : List UInt8) (pre : List (List UInt8)) (x : List UInt8) (hp : pre ++ [x] <+: opsL) (h : ∀ y ∈ pre, Lib.hasPrefix l y = false) (hx : Lib.hasPrefix l x = true) : operN l = x.length := by
  obtain ⟨t, ht⟩ := hp
  unfold operN
  rw [← ht, List.append_assoc, List.find?_append, List.find?_eq_none.2 (fun y hy => by rw [h y hy]; simp)]
  simp [hx]

theorem splitSeq_calls (s p : ByteArray) (w : World) :
    Calls Tryz.prog 98 #[.string s, .string p, .int .i64 0] w fun e w' => e = .returned (.func (.func 107) #[] #[.pointer (some ⟨w.heap.size + 1, 0, none⟩), .pointer (some ⟨w.heap.size, 0, none⟩), .pointer (some ⟨w.heap.size + 1 + 1, 0, none⟩)]) ∧
      w' = ((w.alloc (.cells #[.string s] 9)).alloc (.cells #[.string p] 9)).alloc (.cells #[.int .i64 0] 3) := by
  go_enter Tryz.func98, Tryz.ntmps98
  go_wp2
  go_ret
  exact ⟨rfl, rfl⟩
theorem SplitSeq_calls (s p : ByteArray) (w : World) :
    Calls Tryz.prog 86 #[.string s, .string p] w fun e w' => e = .returned (.func (.func 107) #[] #[.pointer (some ⟨w.heap.size + 1, 0, none⟩), .pointer (some ⟨w.heap.size, 0, none⟩), .pointer (some ⟨w.heap.size + 1 + 1, 0, none⟩)]) ∧
      w' = ((w.alloc (.cells #[.string s] 9)).alloc (.cells #[.string p] 9)).alloc (.cells #[.int .i64 0] 3) := by
  go_enter Tryz.func86, Tryz.ntmps86
  go_wp2_with (go_at_call 98; refine (splitSeq_calls _ _ _).mono ?_; rintro e w' ⟨rfl, rfl⟩)
  go_ret
  exact ⟨rfl, rfl⟩

theorem split_stops (n : Nat) (hn : 1 ≤ n) (b0 b1 b2 : Nat) (h01 : b0 ≠ b1) (h02 : b0 ≠ b2) (w : World)
    (hb0 : Boxed w b0 9 (.string ⟨(curO 0).toArray⟩)) (hb1 : Boxed w b1 9 (.string ⟨#[32]⟩)) (hb2 : Boxed w b2 3 (.int .i64 0)) :
    SeqO Fence.wide n Tryz.prog 107 #[.pointer (some ⟨b1, 0, none⟩), .pointer (some ⟨b0, 0, none⟩), .pointer (some ⟨b2, 0, none⟩)] encB (fun b => b = b0) (fun b => b = b1 ∨ b = b2) (fun ys _ => ys = opsL) (fun pre _ => pre <+: opsL) 34 w := fun l J Jx W O hW hO hJ hY h0 =>
  have hk : Keeps (fun _ => False) w W := Keeps.of_below' hW
  split_in n hn l b0 b1 b2 h01 h02 J Jx W O hO hJ hY (boxed_keeps hb0 hk (fun h => h)) (boxed_keeps hb1 hk (fun h => h)) (boxed_keeps hb2 hk (fun h => h)) h0

def OperI (l : List UInt8) (s : ByteArray) (w : World) (pre : List (List UInt8)) (O : Nat → Prop) (W : World) : Prop :=
  O = (fun b => b = w.heap.size + 1) ∧ Boxed W w.heap.size 9 (.string s) ∧ Boxed W (w.heap.size + 1) 3 (.int .i64 0) ∧ (∀ x ∈ pre, Lib.hasPrefix l x = false) ∧ Below w.heap.size w W
def OperX (l : List UInt8) (w : World) (c : Code) (pre : List (List UInt8)) (O : Nat → Prop) (W : World) : Prop :=
  c = .ret ∧ ∃ p x, pre = p ++ [x] ∧ O = (fun b => b = w.heap.size + 1) ∧ (∀ y ∈ p, Lib.hasPrefix l y = false) ∧ Lib.hasPrefix l x = true ∧ Boxed W (w.heap.size + 1) 3 (.int .i64 x.length) ∧ Below w.heap.size w W

set_option maxRecDepth 100000 in
set_option maxHeartbeats 1000000 in
theorem oper_in (n : Nat) (hn : 3 ≤ n) (s : ByteArray) (w : World) :
    CallsIn Fence.wide n Tryz.prog 65 #[.string s] w fun e W' => e = .returned (.int .i64 (operN s.data.toList : Nat)) ∧ Below w.heap.size w W' := by
  have h1 : 1 ≤ n := by omega
  have hres : Tryz.f65.results = #[.cell 2 3] := by kernel_rfl
  refine callsIn_of_wp_marks Tryz.func65 rfl trivial ?_ rfl
  simp only [Tryz.ntmps65, List.size_toArray, List.length_cons, List.length_nil, Nat.reduceAdd, Nat.reduceSub, Array.replicate_succ, Array.replicate_zero, List.push_toArray, List.append_toArray, List.nil_append, List.cons_append]
  have hS := fun w => SplitSeq_calls ⟨(curO 0).toArray⟩ ⟨#[32]⟩ w
  gi_wp2_with (refine ⟨trivial, ?_⟩; gi_at_call 86; refine (callsIn_wide.2 (hS _)).mono ?_; rintro e w' ⟨rfl, rfl⟩)
  clear hS
  obtain ⟨W0, hW0⟩ : ∃ W0, (((((w.alloc (.cells #[.string s] 9)).alloc (.cells #[.int .i64 0] 3)).alloc (.cells #[.string ⟨(curO 0).toArray⟩] 9)).alloc (.cells #[.string ⟨#[32]⟩] 9)).alloc (.cells #[.int .i64 0] 3)) = W0 := ⟨_, rfl⟩
  have hsz : W0.heap.size = w.heap.size + 5 := by rw [← hW0]; simp
  have hB0 : Below w.heap.size w W0 := by
    rw [← hW0]
    exact (((((Below.refl _ w).alloc (Nat.le_refl _) _).alloc (by simp) _).alloc (by simp; omega) _).alloc (by simp; omega) _).alloc (by simp; omega) _
  have b0 : Boxed W0 w.heap.size 9 (.string s) := by
    rw [← hW0]
    exact ((((Boxed.new w 9 (.string s)).alloc _).alloc _).alloc _).alloc _
  have b1 : Boxed W0 (w.heap.size + 1) 3 (.int .i64 0) := by
    have := ((((Boxed.new (w.alloc (.cells #[.string s] 9)) 3 (.int .i64 0)).alloc (.cells #[.string ⟨(curO 0).toArray⟩] 9)).alloc (.cells #[.string ⟨#[32]⟩] 9)).alloc (.cells #[.int .i64 0] 3))
    rw [hW0] at this; simpa using this
  have b2 : Boxed W0 (w.heap.size + 1 + 1) 9 (.string ⟨(curO 0).toArray⟩) := by
    have := (((Boxed.new ((w.alloc (.cells #[.string s] 9)).alloc (.cells #[.int .i64 0] 3)) 9 (.string ⟨(curO 0).toArray⟩)).alloc (.cells #[.string ⟨#[32]⟩] 9)).alloc (.cells #[.int .i64 0] 3))
    rw [hW0] at this; simpa using this
  have b3 : Boxed W0 (w.heap.size + 1 + 1 + 1) 9 (.string ⟨#[32]⟩) := by
    have := ((Boxed.new (((w.alloc (.cells #[.string s] 9)).alloc (.cells #[.int .i64 0] 3)).alloc (.cells #[.string ⟨(curO 0).toArray⟩] 9)) 9 (.string ⟨#[32]⟩)).alloc (.cells #[.int .i64 0] 3))
    rw [hW0] at this; simpa using this
  have b4 : Boxed W0 (w.heap.size + 1 + 1 + 1 + 1) 3 (.int .i64 0) := by
    have := (Boxed.new ((((w.alloc (.cells #[.string s] 9)).alloc (.cells #[.int .i64 0] 3)).alloc (.cells #[.string ⟨(curO 0).toArray⟩] 9)).alloc (.cells #[.string ⟨#[32]⟩] 9)) 3 (.int .i64 0))
    rw [hW0] at this; simpa using this
  rw [hW0]
  clear hW0
  refine wpIn_rangeFunc_O rfl h1 (gf := 107) (lb := #[.pointer (some ⟨w.heap.size + 1 + 1 + 1, 0, none⟩), .pointer (some ⟨w.heap.size + 1 + 1, 0, none⟩), .pointer (some ⟨w.heap.size + 1 + 1 + 1 + 1, 0, none⟩)]) rfl trivial (enters_of Tryz.func107 (by kernel_rfl) rfl)
    (split_stops (n - 1) (by omega) _ _ _ (by omega) (by omega) W0 b2 b3 b4) (Below.refl _ _) (fun _ => rfl) (fun b h => by omega) (fun b h => by omega) (fun _ _ _ h _ => h) (fun _ _ _ h _ => h)
    (OperI s.data.toList s w) (OperX s.data.toList w) (fun b => b = w.heap.size + 1) (fun b h => ⟨by omega, by omega, by omega⟩)
    ?hI ?hIx ⟨rfl, b0, b1, fun _ h => by simp at h, hB0⟩ ?hround ?hdone ?hstop
  case hI =>
    rintro pre O A B ⟨rfl, hb0, hb1, hp, hB⟩ hk
    exact ⟨rfl, boxed_keeps hb0 hk (fun h => by have := h.2; omega), boxed_keeps hb1 hk (fun h => h.1 rfl), hp, hB.trans (hk.below hB.size fun b h => by have := h.2; omega)⟩
  case hIx =>
    rintro c pre O A B ⟨rfl, p, x, rfl, rfl, hp, hx, hb1, hB⟩ hk
    exact ⟨rfl, p, x, rfl, rfl, hp, hx, boxed_keeps hb1 hk (fun h => h.1 rfl), hB.trans (hk.below hB.size fun b h => by have := h.2; omega)⟩
  case hround =>
    rintro l pre x W O - hlt hOl hs
    unfold encB
    gi_wp2
    refine ⟨Keeps.refl _ _, fun Wb hkb hsb ⟨hO, hb0, hb1, hp, hB⟩ hl => ?_⟩
    have hOl' : ∀ b, O b → b < Wb.heap.size := fun b hb => by rw [hsb]; exact (hOl b hb).2.2
    clear hsb
    have hc0 := hb0.cell
    have hc1 := hb1.cell
    have hf1 := hb1.frozen
    have hcall := Tryz.strings_HasPrefix s ⟨x.toArray⟩ Wb
    have Hp := Lib.hid hp
    clear hp
    cases hx : Lib.hasPrefix s.data.toList x
    · have hcall2 : Lib.hasPrefix s.data.toList (⟨x.toArray⟩ : ByteArray).data.toList = false := hx
      rw [hcall2] at hcall
      have Hx := Lib.hid hx
      clear hcall2 hx
      gi_wp2_with (refine ⟨trivial, fun h => by simp [Fence.wide] at h, ?_⟩; gi_at_call 30; refine (CallsIn.inRound l (callsIn_wide.2 hcall)).mono ?_; rintro e w' ⟨rfl, rfl⟩)
      refine ⟨O, Keeps.refl _ _, fun b hb => ⟨.inl hb, (hOl' b hb)⟩, hO, hb0, hb1, fun y hy => ?_, hB⟩
      rcases List.mem_append.1 hy with h | h
      · exact Hp.out y h
      · rw [List.mem_singleton.1 h]; exact Hx.out
    · have hcall2 : Lib.hasPrefix s.data.toList (⟨x.toArray⟩ : ByteArray).data.toList = true := hx
      rw [hcall2] at hcall
      have Hx := Lib.hid hx
      clear hcall2 hx
      gi_wp2_with (refine ⟨trivial, fun h => by simp [Fence.wide] at h, ?_⟩; gi_at_call 30; refine (CallsIn.inRound l (callsIn_wide.2 hcall)).mono ?_; rintro e w' ⟨rfl, rfl⟩)
      have hk1 := Keeps.setCell (O := fun b => b = w.heap.size + 1) w' (w.heap.size + 1) (.int .i64 x.length) rfl
      refine ⟨O, hk1.mono fun b _ h => .inl (by rw [hO]; exact h), fun b hb => ⟨.inl hb, Nat.lt_of_lt_of_le (hOl' b hb) hk1.size⟩, rfl, pre, x, rfl, hO, Hp.out, Hx.out, hb1.set _, hB.trans (hk1.below hB.size fun b h => by omega)⟩
  case hdone =>
    rintro D ys W O hD rfl ⟨rfl, hb0, hb1, hp, hB⟩ hOD hK
    have hc1 := hb1.cell
    have hf1 := hb1.frozen
    have hK2 := (Keeps.setCell (O := fun b => b = w.heap.size + 1) W (w.heap.size + 1) (.int .i64 0) rfl).heap hK hOD
    gi_wp2
    refine ⟨by simp, .inl ⟨_, _, rfl, run_takeDeferred hK2, ?_⟩⟩
    have hb1' := hb1.set (.int .i64 0)
    have hk1 := Keeps.setCell (O := fun b => b = w.heap.size + 1) W (w.heap.size + 1) (.int .i64 0) rfl
    have hB1 := hB.trans (hk1.below hB.size fun b h => by omega)
    generalize W.setCell ⟨w.heap.size + 1, 0, none⟩ (.int .i64 0) = W2 at *
    have hDn : D ≠ w.heap.size + 1 := by omega
    have hb1'' := boxed_keeps hb1' (Keeps.putObj (O := fun b => b = D) W2 D (.deferred none) rfl) (fun h => hDn h.symm)
    have hBf := hB1.trans (belowK_b (w := w) (Nat.le_refl _) W2 D _ (.deferred none) (by omega) hK2 rfl rfl)
    have hc := hb1''.cell
    generalize W2.putObj D (.deferred none) = W3 at *
    refine ⟨.int .i64 0, ?_, by rw [operN_none _ hp]; rfl, hBf⟩
    simp only [results, hres]
    go_simp
  case hstop =>
    rintro D c pre W O hD hpre ⟨rfl, p, x, rfl, rfl, hp, hx, hb1, hB⟩ hOD hK
    gi_wp2
    refine ⟨by simp, .inl ⟨_, _, rfl, run_takeDeferred hK, ?_⟩⟩
    have hDn : D ≠ w.heap.size + 1 := by omega
    have hb1'' := boxed_keeps hb1 (Keeps.putObj (O := fun b => b = D) W D (.deferred none) rfl) (fun h => hDn h.symm)
    have hBf := hB.trans (belowK_b (w := w) (Nat.le_refl _) W D _ (.deferred none) (by omega) hK rfl rfl)
    have hc := hb1''.cell
    generalize W.putObj D (.deferred none) = W3 at *
    refine ⟨.int .i64 x.length, ?_, by rw [operN_some _ p x hpre hp hx], hBf⟩
    simp only [results, hres]
    go_simp
theorem oper_calls (s : ByteArray) (w : World) :
    Calls Tryz.prog 65 #[.string s] w fun e W' => e = .returned (.int .i64 (operN s.data.toList : Nat)) ∧ Below w.heap.size w W' :=
  callsIn_wide.1 (oper_in 3 (Nat.le_refl _) s w)
end Go.Proofs.YtfaocpcbejgfjaaGreatDoor
