/- A law on 'for .. range f' over a function, with the blocks named that the loop's body owns and those that the iterator may turn: plain laws over any program. No condition but those that each law names. -/
import Derived.RangeFuncNested
import Derived.RangeFuncBound
import Derived.WalkKit
import Derived.OwnWalkIn
namespace Go.Sub
set_option linter.unusedSimpArgs false
set_option linter.unusedVariables false
open Go.RowKit

/-- all blocks of A but those of O lie in B as they lay -/
structure Keeps (O : Nat → Prop) (A B : World) : Prop where
  os : B.os = A.os
  tape : B.tape = A.tape
  output : B.output = A.output
  size : A.heap.size ≤ B.heap.size
  block : ∀ b, b < A.heap.size → ¬ O b → B.heap[b]? = A.heap[b]?

variable {O O' : Nat → Prop} {A B C : World}
theorem Keeps.refl (O : Nat → Prop) (A : World) : Keeps O A A := ⟨rfl, rfl, rfl, Nat.le_refl _, fun _ _ _ => rfl⟩
theorem Keeps.trans (h : Keeps O A B) (k : Keeps O B C) : Keeps O A C :=
  ⟨k.os.trans h.os, k.tape.trans h.tape, k.output.trans h.output, Nat.le_trans h.size k.size, fun b hb ho => (k.block b (Nat.lt_of_lt_of_le hb h.size) ho).trans (h.block b hb ho)⟩
theorem Keeps.mono (h : Keeps O A B) (hO : ∀ b, b < A.heap.size → O b → O' b) : Keeps O' A B := ⟨h.os, h.tape, h.output, h.size, fun b hb ho => h.block b hb fun h => ho (hO b hb h)⟩
/-- the second step may turn what came with the first -/
theorem Keeps.trans' (h : Keeps O A B) (k : Keeps O' B C) (hO : ∀ b, b < A.heap.size → O' b → O b) : Keeps O A C :=
  ⟨k.os.trans h.os, k.tape.trans h.tape, k.output.trans h.output, Nat.le_trans h.size k.size, fun b hb ho => (k.block b (Nat.lt_of_lt_of_le hb h.size) fun h' => ho (hO b hb h')).trans (h.block b hb ho)⟩
theorem Keeps.alloc (O : Nat → Prop) (A : World) (o : Obj) : Keeps O A (A.alloc o) := ⟨rfl, rfl, rfl, by simp, fun _ hb _ => Below.heap_alloc _ _ _ hb⟩
theorem Keeps.alloc' (h : Keeps O A B) (o : Obj) : Keeps O A (B.alloc o) := h.trans (Keeps.alloc O B o)
theorem Keeps.putObj (A : World) (l : Nat) (o : Obj) (hO : O l) : Keeps O A (A.putObj l o) := ⟨rfl, rfl, rfl, by simp [World.putObj], fun b _ ho => World.putObj_heap_other fun e => ho (e ▸ hO)⟩
theorem Keeps.of_grownBy {row : Option Nat} (hg : A.grownBy B row) (hO : ∀ r, row = some r → O r) : Keeps O A B :=
  ⟨hg.os, hg.tape, hg.output, hg.size, fun b hb ho => hg.block b hb fun e => ho (hO b e.symm)⟩
theorem Keeps.setCell (A : World) (b : Nat) (v : Value) (hO : O b) : Keeps O A (A.setCell ⟨b, 0, none⟩ v) := Keeps.of_grownBy (grownBy_setCell' A b v) fun r e => by cases e; exact hO
theorem Keeps.of_below {n : Nat} (h : Below n A B) : Keeps (fun b => n ≤ b) A B := ⟨h.os, h.tape, h.output, h.size, fun b _ ho => h.block b (Nat.lt_of_not_le ho)⟩
theorem Keeps.of_below' (h : Below A.heap.size A B) : Keeps O A B := ⟨h.os, h.tape, h.output, h.size, fun b hb _ => h.block b hb⟩
theorem Keeps.below {n : Nat} (h : Keeps O A B) (hn : n ≤ A.heap.size) (hO : ∀ b, O b → n ≤ b) : Below n A B := ⟨h.os, h.tape, h.output, h.size, fun b hb => h.block b (Nat.lt_of_lt_of_le hb hn) fun h' => by have := hO b h'; omega⟩
theorem Keeps.heap (h : Keeps O A B) {b : Nat} {o : Obj} (ho : A.heap[b]? = some o) (hn : ¬ O b) : B.heap[b]? = some o := (h.block b (Array.getElem?_eq_some_iff.1 ho).1 hn).trans ho
theorem Keeps.cell (h : Keeps O A B) {b c : Nat} {v : Value} (ho : A.cell? ⟨b, c, none⟩ = some v) (hn : ¬ O b) : B.cell? ⟨b, c, none⟩ = some v := by
  have hlt := World.block_lt_of_cell? _ _ ho
  unfold World.cell? at ho ⊢
  rw [h.block b hlt hn]; exact ho
theorem Keeps.frozen (h : Keeps O A B) {b c : Nat} {v : Value} (ho : A.cell? ⟨b, c, none⟩ = some v) (hn : ¬ O b) : B.frozen? ⟨b, c, none⟩ = A.frozen? ⟨b, c, none⟩ := by
  have hlt := World.block_lt_of_cell? _ _ ho
  unfold World.frozen?
  rw [h.block b hlt hn]
theorem Keeps.drew (A : World) : Keeps O A A.drew := ⟨rfl, rfl, rfl, Nat.le_refl _, fun _ _ _ => rfl⟩

/-- some blocks laid one behind the other -/
def allocs (w : World) (os : List Obj) : World := os.foldl World.alloc w
theorem allocs_heap_eq : ∀ (os : List Obj) (w : World), (allocs w os).heap = w.heap ++ os.toArray
  | [], w => by simp [allocs]
  | o :: r, w => by
    show (allocs (w.alloc o) r).heap = _
    rw [allocs_heap_eq r, show (w.alloc o).heap = w.heap.push o from rfl]
    simp
theorem allocs_keeps (O : Nat → Prop) : ∀ (os : List Obj) (w : World), Keeps O w (allocs w os)
  | [], w => Keeps.refl O w
  | o :: r, w => (Keeps.alloc O w o).trans (allocs_keeps O r (w.alloc o))
theorem allocs_heap (os : List Obj) (w : World) (i : Nat) : (allocs w os).heap[w.heap.size + i]? = os[i]? := by
  rw [allocs_heap_eq, Array.getElem?_append_right (by omega)]
  simp
theorem allocs_below (os : List Obj) (w : World) : Below w.heap.size w (allocs w os) := (allocs_keeps (fun _ => False) os w).below (Nat.le_refl _) fun _ h => h.elim
theorem cell_of_block {w : World} {b o : Nat} {cs : Array Value} {t : TypeId} {m : Nat × Nat} {v : Value} (h : w.heap[b]? = some (.cells cs t m)) (hv : cs[o]? = some v) : w.cell? ⟨b, o, none⟩ = some v := by simp [World.cell?, h, hv]

/-- **THE CONTRACT OF AN ITERATOR**: M: the blocks of w that it may turn; R: those that it reads alone. The body owns O; it may take new blocks to it. -/
def SeqO {α : Type} (F : Fence) (n : Nat) (P : Program) (g : Nat) (lb : Array Value) (encs : α → Array Value) (M R : Nat → Prop) (S Sp : List α → World → Prop) (N : Nat) (w : World) : Prop :=
  ∀ (l : Nat) (J Jx : List α → (Nat → Prop) → World → Prop) (W : World) (O : Nat → Prop), Below w.heap.size w W →
    (∀ b, O b → b < W.heap.size ∧ ¬ M b ∧ ¬ R b) →
    (∀ pre O A B, J pre O A → Keeps (fun b => ¬ O b ∧ (M b ∨ W.heap.size ≤ b)) A B → J pre O B) →
    (∀ pre x W1 O1, J pre O1 W1 → pre.length < N → YieldAt F (n - 1) P l (encs x) W1 fun e W' => ∃ O2, Keeps O1 W1 W' ∧ (∀ b, O2 b → (O1 b ∨ W1.heap.size ≤ b) ∧ b < W'.heap.size) ∧
      ((e = .returned (.bool true) ∧ J (pre ++ [x]) O2 W') ∨ (e = .returned (.bool false) ∧ Jx (pre ++ [x]) O2 W'))) →
    J [] O W →
    CallsIn F n P g (#[.func (.yield l) #[] #[]] ++ lb) W fun e W' => (∃ v, e = .returned v) ∧ ((∃ xs O', S xs W' ∧ J xs O' W') ∨ (∃ pre O', Sp pre W' ∧ Jx pre O' W'))

/-- how a body may be left -/
def postO {α : Type} (Wa : World) (O : Nat → Prop) (n₀ : Nat) (I : List α → (Nat → Prop) → World → Prop) (Ix : Code → List α → (Nat → Prop) → World → Prop) (xs : List α) (e : Exit) (_ : Act) (W' : World) : Prop :=
  ∃ O2, Keeps (fun b => O b ∨ n₀ ≤ b) Wa W' ∧ (∀ b, O2 b → (O b ∨ n₀ ≤ b) ∧ b < W'.heap.size) ∧
    match e with
    | .normal => I xs O2 W'
    | .ret => Ix .ret xs O2 W'
    | .exit id => Ix (.exit id) xs O2 W'
    | .goto t => Ix (.goto t) xs O2 W'
    | .panic _ => False
    | .outgrown => False

variable {F : Fence} {n : Nat} {P : Program}

set_option maxHeartbeats 1000000 in
theorem wpIn_rangeFunc_O {α : Type} {g : Operand} {ps : Array Tmp} {assign body : Code} {Q : Exit → Act → World → Prop} {a : Act} {w : World}
    (hro : F.round = none) (h1 : 1 ≤ n) {gf : Nat} {lb : Array Value} (hg : a.eval g = .func (.func gf) #[] lb) (hFg : F.fn gf) (eg : ∀ args w, (callFunc gf args).run P w = .ok (.enter gf args) w)
    {encs : α → Array Value} {M R : Nat → Prop} {S Sp : List α → World → Prop} {N : Nat} {w0 : World} (hseq : SeqO F (n - 1) P gf lb encs M R S Sp N w0) (hb0 : Below w0.heap.size w0 w) (hps : ∀ x, (encs x).size = ps.size)
    (hM : ∀ b, M b → b < w.heap.size) (hR : ∀ b, R b → b < w.heap.size)
    (hS : ∀ xs A B, S xs A → Keeps (fun b => w.heap.size ≤ b) A B → S xs B) (hSp : ∀ xs A B, Sp xs A → Keeps (fun b => w.heap.size ≤ b) A B → Sp xs B)
    (I : List α → (Nat → Prop) → World → Prop) (Ix : Code → List α → (Nat → Prop) → World → Prop) (O : Nat → Prop) (hO : ∀ b, O b → b < w.heap.size ∧ ¬ M b ∧ ¬ R b)
    (hI : ∀ pre O A B, I pre O A → Keeps (fun b => ¬ O b ∧ (M b ∨ w.heap.size ≤ b)) A B → I pre O B)
    (hIx : ∀ c pre O A B, Ix c pre O A → Keeps (fun b => ¬ O b ∧ (M b ∨ w.heap.size ≤ b)) A B → Ix c pre O B)
    (h0 : I [] O w)
    (hround : ∀ (l : Nat) (pre : List α) (x : α) (W : World) (O : Nat → Prop), I pre O W → pre.length < N → (∀ b, O b → b ≠ l ∧ ¬ M b ∧ b < W.heap.size) → w.heap.size < W.heap.size →
      assign.wpIn (F.inRound l) (n - 1 - 1) P (Exit.then (fun a' Wa => Keeps (fun _ => False) W Wa ∧ ∀ Wb, Keeps (fun b => b = l) Wa Wb → Wb.heap.size = Wa.heap.size → I pre O Wb → l < W.heap.size →
        body.wpIn (F.inRound l) (n - 1 - 1) P (postO Wb O W.heap.size I Ix (pre ++ [x])) a' Wb) (fun _ _ _ => False))
        { tmps := (ps.zip (encs x)).foldl (fun t (p, v) => t.setIfInBounds p v) a.tmps, defers := [] } W)
    (hdone : ∀ (D : Nat) (xs : List α) (W : World) (O : Nat → Prop), w.heap.size ≤ D → S xs W → I xs O W → ¬ O D → W.heap[D]? = some (.deferred (some [])) → Q .normal { a with defers := { target := .collected D, args := #[] } :: a.defers } W)
    (hstop : ∀ (D : Nat) (c : Code) (pre : List α) (W : World) (O : Nat → Prop), w.heap.size ≤ D → Sp pre W → Ix c pre O W → ¬ O D → W.heap[D]? = some (.deferred (some [])) → c.wpIn F n P Q { a with defers := { target := .collected D, args := #[] } :: a.defers } W) :
    (Code.rangeFunc g ps assign body).wpIn F n P Q a w := by
  refine wpIn_rangeFunc ?_
  intro fn hfn
  rw [hro]
  obtain ⟨rec, hrec⟩ : ∃ rec : LoopState → Option Code → Loop, rec = fun st pe => { state := st, pending := pe, fn, tmps := a.tmps, params := ps, assign, body, defers := w.heap.size } := ⟨_, rfl⟩
  obtain ⟨W1, hW1⟩ : ∃ W1, (w.alloc (.deferred (some []))).alloc (.loop (rec .ready none)) = W1 := ⟨_, rfl⟩
  have hs1 : W1.heap.size = w.heap.size + 2 := by rw [← hW1]; simp
  have hL1 : W1.heap[w.heap.size + 1]? = some (.loop (rec .ready none)) := by
    rw [← hW1]; have := World.alloc_heap_new (w.alloc (.deferred (some []))) (.loop (rec .ready none)); rwa [World.size_alloc] at this
  have hK1 : W1.heap[w.heap.size]? = some (.deferred (some [])) := by
    rw [← hW1]; exact (Below.heap_alloc _ _ _ (by simp)).trans (World.alloc_heap_new w _)
  have hk1 : Keeps (fun _ => False) w W1 := by rw [← hW1]; exact (Keeps.alloc _ _ _).alloc' _
  have hI1 : I [] O W1 := hI _ _ _ _ h0 (hk1.mono fun _ _ h => h.elim)
  have hb1 : Below w0.heap.size w0 W1 := by
    rw [← hW1]; exact hb0.trans ((((Below.refl _ w).alloc (Nat.le_refl _) _).alloc (by simp) _).mono hb0.size)
  refine ⟨w.heap.size + 1, [{ target := .collected w.heap.size, args := #[] }], W1, { target := .fn (.func gf) lb, args := #[.func (.yield (w.heap.size + 1)) #[] #[]] }, W1, gf,
    #[.func (.yield (w.heap.size + 1)) #[] #[]] ++ lb, W1, ?_, ?_, ?_, ?_, fun _ => h1, ?_⟩
  · rw [← hW1, hrec]; exact run_enterLoop_outer _ _ _ _ _
  · simp only [resolve, hg]
    simp [go_sem]
  · intro f' hf'; simp [Target.leads] at hf'; subst hf'; exact hFg
  · simp [invoke, go_sem, eg]
  · let own : (Nat → Prop) → Nat → Prop := fun O b => O b ∨ b = w.heap.size ∨ b = w.heap.size + 1
    have hnw : ∀ {O : Nat → Prop} {A B : World}, Keeps (fun b => ¬ own O b ∧ (M b ∨ W1.heap.size ≤ b)) A B → Keeps (fun b => ¬ O b ∧ (M b ∨ w.heap.size ≤ b)) A B := fun h =>
      h.mono fun b _ ⟨h1, h2⟩ => ⟨fun h => h1 (.inl h), h2.imp id (by omega)⟩
    have hrec1 : ∀ {O : Nat → Prop} {A B : World} {o : Obj}, Keeps (fun b => ¬ own O b ∧ (M b ∨ W1.heap.size ≤ b)) A B → A.heap[w.heap.size + 1]? = some o → B.heap[w.heap.size + 1]? = some o := fun h ho => h.heap ho fun h => h.1 (.inr (.inr rfl))
    have hrec0 : ∀ {O : Nat → Prop} {A B : World} {o : Obj}, Keeps (fun b => ¬ own O b ∧ (M b ∨ W1.heap.size ≤ b)) A B → A.heap[w.heap.size]? = some o → B.heap[w.heap.size]? = some o := fun h ho => h.heap ho fun h => h.1 (.inr (.inl rfl))
    refine (hseq (w.heap.size + 1)
      (fun pre Ot W => ∃ O, Ot = own O ∧ (∀ b, O b → (b ≠ w.heap.size ∧ b ≠ w.heap.size + 1) ∧ ¬ M b ∧ b < W.heap.size) ∧ I pre O W ∧ W.heap[w.heap.size + 1]? = some (.loop (rec .ready none)) ∧ W.heap[w.heap.size]? = some (.deferred (some [])))
      (fun pre Ot W => ∃ O c, Ot = own O ∧ (∀ b, O b → (b ≠ w.heap.size ∧ b ≠ w.heap.size + 1) ∧ ¬ M b ∧ b < W.heap.size) ∧ Ix c pre O W ∧ W.heap[w.heap.size + 1]? = some (.loop (rec .done (some c))) ∧ W.heap[w.heap.size]? = some (.deferred (some [])))
      W1 (own O) hb1 ?_ ?_ ?_ ⟨O, rfl, fun b hb => ⟨by have := (hO b hb).1; omega, (hO b hb).2.1, by have := (hO b hb).1; omega⟩, hI1, hL1, hK1⟩).mono ?_
    · rintro b (h | rfl | rfl)
      · exact ⟨by have := (hO b h).1; omega, (hO b h).2⟩
      · exact ⟨by omega, fun h => by have := hM _ h; omega, fun h => by have := hR _ h; omega⟩
      · exact ⟨by omega, fun h => by have := hM _ h; omega, fun h => by have := hR _ h; omega⟩
    · rintro pre Ot A B ⟨O, rfl, ho, hi, hl, hk⟩ hab
      exact ⟨O, rfl, fun b hb => ⟨(ho b hb).1, (ho b hb).2.1, Nat.lt_of_lt_of_le (ho b hb).2.2 hab.size⟩, hI _ _ _ _ hi (hnw hab), hrec1 hab hl, hrec0 hab hk⟩
    · -- ONE ROUND
      rintro pre x W Ot ⟨O, rfl, ho, hi, hl, hk⟩ hlen
      have hlt : w.heap.size + 1 < W.heap.size := (Array.getElem?_eq_some_iff.1 hl).1
      have hy := run_yield (P := P) (args := encs x) hl (by rw [hrec]; exact hps x)
      rw [hrec] at hy
      refine ⟨fn, _, assign, body, hy, roundIn_of_wpIn hfn (wpIn_mono (hround (w.heap.size + 1) pre x W O hi hlen (fun b hb => ⟨(ho b hb).1.2, (ho b hb).2.1, (ho b hb).2.2⟩) (by omega)) ?_)⟩
      clear hy
      intro e a' Wa he
      cases e with
      | normal =>
        obtain ⟨hka, hbody⟩ := he
        have hla := hka.heap hl (fun h => h)
        have hkka := hka.heap hk (fun h => h)
        have hlta : w.heap.size + 1 < Wa.heap.size := (Array.getElem?_eq_some_iff.1 hla).1
        refine ⟨_, run_beginRound hla (by rw [hrec]), ?_⟩
        have hl2 : (Wa.putObj (w.heap.size + 1) (.loop { rec .ready none with state := .busy })).heap[w.heap.size + 1]? = some (.loop { rec .ready none with state := .busy }) := World.putObj_heap_same hlta
        have hk2 : (Wa.putObj (w.heap.size + 1) (.loop { rec .ready none with state := .busy })).heap[w.heap.size]? = some (.deferred (some [])) := (World.putObj_heap_other (by omega)).trans hkka
        have hkb : Keeps (fun b => b = w.heap.size + 1) Wa (Wa.putObj (w.heap.size + 1) (.loop { rec .ready none with state := .busy })) := Keeps.putObj _ _ _ rfl
        have hsb : (Wa.putObj (w.heap.size + 1) (.loop { rec .ready none with state := .busy })).heap.size = Wa.heap.size := by simp [World.putObj]
        have hnl : ¬ O (w.heap.size + 1) := fun h => (ho _ h).1.2 rfl
        have hnd : ¬ O w.heap.size := fun h => (ho _ h).1.1 rfl
        have hib : I pre O (Wa.putObj (w.heap.size + 1) (.loop { rec .ready none with state := .busy })) :=
          hI _ _ _ _ (hI _ _ _ _ hi (hka.mono fun _ _ h => h.elim)) (hkb.mono fun b _ h => by subst h; exact ⟨hnl, .inr (by omega)⟩)
        refine wpIn_mono (hbody _ hkb hsb hib hlt) ?_
        rintro e a3 W3 ⟨O2, hk3, hO2, hp⟩
        have hl3 := hk3.heap hl2 (fun h => h.elim hnl (by omega))
        have hkk3 := hk3.heap hk2 (fun h => h.elim hnd (by omega))
        have hlt3 := (Array.getElem?_eq_some_iff.1 hl3).1
        have fin : ∀ (jump : Option Code), (Instr.endRound (w.heap.size + 1) jump).run P W3 = .ok (.bool jump.isNone) (W3.putObj (w.heap.size + 1) (.loop (rec (if jump.isNone then .ready else .done) jump))) := fun jump => by
          have := run_endRound (P := P) jump hl3
          rw [hrec] at this ⊢
          exact this
        have hkW : ∀ o, Keeps (own O) W (W3.putObj (w.heap.size + 1) o) := fun o =>
          (((hka.mono fun _ _ h => h.elim).trans' (hkb.mono (O' := own O) fun b _ h => .inr (.inr h)) fun _ _ h => h).trans' hk3 fun b hb h => h.elim .inl (by omega)).trans' (Keeps.putObj (O := fun b => b = w.heap.size + 1) _ _ _ rfl) fun b _ h => .inr (.inr h)
        have hO2n : ∀ b, O2 b → (b ≠ w.heap.size ∧ b ≠ w.heap.size + 1) ∧ ¬ M b ∧ b < W3.heap.size := fun b hb => by
          obtain ⟨h1 | h1, h2⟩ := hO2 b hb
          · exact ⟨(ho b h1).1, (ho b h1).2.1, h2⟩
          · exact ⟨by omega, fun h => by have := hM b h; omega, h2⟩
        have hown : ∀ o b, own O2 b → (own O b ∨ W.heap.size ≤ b) ∧ b < (W3.putObj (w.heap.size + 1) o).heap.size := fun o b hb => by
          have hsz : (W3.putObj (w.heap.size + 1) o).heap.size = W3.heap.size := by simp [World.putObj]
          rw [hsz]
          rcases hb with hb | rfl | rfl
          · exact ⟨(hO2 b hb).1.imp .inl id, (hO2 b hb).2⟩
          · exact ⟨.inl (.inr (.inl rfl)), by omega⟩
          · exact ⟨.inl (.inr (.inr rfl)), by omega⟩
        have hI3 : ∀ {o : Obj}, Keeps (fun b => ¬ O2 b ∧ (M b ∨ w.heap.size ≤ b)) W3 (W3.putObj (w.heap.size + 1) o) := fun {o} =>
          (Keeps.putObj (O := fun b => b = w.heap.size + 1) W3 _ o rfl).mono fun b _ h => by subst h; exact ⟨fun h => (hO2n _ h).1.2 rfl, .inr (by omega)⟩
        have hsz : ∀ o, (W3.putObj (w.heap.size + 1) o).heap.size = W3.heap.size := fun o => by simp [World.putObj]
        have hstop' : ∀ c, Ix c (pre ++ [x]) O2 W3 → ∃ O2', Keeps (own O) W (W3.putObj (w.heap.size + 1) (.loop (rec .done (some c)))) ∧ (∀ b, O2' b → (own O b ∨ W.heap.size ≤ b) ∧ b < (W3.putObj (w.heap.size + 1) (.loop (rec .done (some c)))).heap.size) ∧
            ((Ending.returned (.bool false) = .returned (.bool true) ∧ ∃ O, O2' = own O ∧ (∀ b, O b → (b ≠ w.heap.size ∧ b ≠ w.heap.size + 1) ∧ ¬ M b ∧ b < (W3.putObj (w.heap.size + 1) (.loop (rec .done (some c)))).heap.size) ∧ I (pre ++ [x]) O (W3.putObj (w.heap.size + 1) (.loop (rec .done (some c)))) ∧ (W3.putObj (w.heap.size + 1) (.loop (rec .done (some c)))).heap[w.heap.size + 1]? = some (.loop (rec .ready none)) ∧ (W3.putObj (w.heap.size + 1) (.loop (rec .done (some c)))).heap[w.heap.size]? = some (.deferred (some []))) ∨
            (Ending.returned (.bool false) = .returned (.bool false) ∧ ∃ O c', O2' = own O ∧ (∀ b, O b → (b ≠ w.heap.size ∧ b ≠ w.heap.size + 1) ∧ ¬ M b ∧ b < (W3.putObj (w.heap.size + 1) (.loop (rec .done (some c)))).heap.size) ∧ Ix c' (pre ++ [x]) O (W3.putObj (w.heap.size + 1) (.loop (rec .done (some c)))) ∧ (W3.putObj (w.heap.size + 1) (.loop (rec .done (some c)))).heap[w.heap.size + 1]? = some (.loop (rec .done (some c'))) ∧ (W3.putObj (w.heap.size + 1) (.loop (rec .done (some c)))).heap[w.heap.size]? = some (.deferred (some [])))) := fun c hc =>
          ⟨own O2, hkW _, hown _, .inr ⟨rfl, O2, c, rfl, fun b hb => by rw [hsz]; exact hO2n b hb, hIx _ _ _ _ _ hc hI3, World.putObj_heap_same hlt3, (World.putObj_heap_other (by omega)).trans hkk3⟩⟩
        cases e with
        | normal =>
          exact ⟨_, _, fin none, own O2, hkW _, hown _, .inl ⟨rfl, O2, rfl, fun b hb => by rw [hsz]; exact hO2n b hb, hI _ _ _ _ hp hI3, World.putObj_heap_same hlt3, (World.putObj_heap_other (by omega)).trans hkk3⟩⟩
        | ret => exact ⟨_, _, fin (some .ret), hstop' .ret hp⟩
        | exit id => exact ⟨_, _, fin (some (.exit id)), hstop' (.exit id) hp⟩
        | goto t => exact ⟨_, _, fin (some (.goto t)), hstop' (.goto t) hp⟩
        | panic ch => exact hp.elim
        | outgrown => exact hp.elim
      | ret => exact he.elim
      | exit id => exact he.elim
      | goto t => exact he.elim
      | panic ch => exact he.elim
      | outgrown => exact he.elim
    · -- BEHIND THE ITERATOR
      rintro e W2 ⟨⟨v, rfl⟩, (⟨xs, Ot, hs, O, rfl, ho, hi, hl, hk⟩ | ⟨pre, Ot, hs, O, c, rfl, ho, hi, hl, hk⟩)⟩
      · have hnl : ¬ O (w.heap.size + 1) := fun h => (ho _ h).1.2 rfl
        have hnd : ¬ O w.heap.size := fun h => (ho _ h).1.1 rfl
        refine ⟨none, _, by have := run_endLoop (P := P) hl (by rw [hrec]; simp); rw [hrec] at this; exact this, hdone _ xs _ O (Nat.le_refl _) (hS _ _ _ hs (Keeps.putObj _ _ _ (by omega))) (hI _ _ _ _ hi ((Keeps.putObj (O := fun b => b = w.heap.size + 1) _ _ _ rfl).mono fun b _ h => by subst h; exact ⟨hnl, .inr (by omega)⟩)) hnd ((World.putObj_heap_other (by omega)).trans hk)⟩
      · have hnl : ¬ O (w.heap.size + 1) := fun h => (ho _ h).1.2 rfl
        have hnd : ¬ O w.heap.size := fun h => (ho _ h).1.1 rfl
        refine ⟨some c, _, by have := run_endLoop (P := P) hl (by rw [hrec]; simp); rw [hrec] at this; exact this, hstop _ c pre _ O (Nat.le_refl _) (hSp _ _ _ hs (Keeps.putObj _ _ _ (by omega))) (hIx _ _ _ _ _ hi ((Keeps.putObj (O := fun b => b = w.heap.size + 1) _ _ _ rfl).mono fun b _ h => by subst h; exact ⟨hnl, .inr (by omega)⟩)) hnd ((World.putObj_heap_other (by omega)).trans hk)⟩
end Go.Sub
