/- The evaluator of translated Go, part 2: The evaluator: numbers, texts, truths: operators. · The evaluator: operands; operations that need no heap. · The evaluator: more operations that need no heap. · The evaluator: still more operations that need no heap: indices, cuts, places. · The evaluator: values built of parts; lengths, greatest and least. · The evaluator: loads, new blocks, stores. · The evaluator: stores, maps, texts gone through. · The evaluator: entries stored, texts gone through, appends. -/
import Derived.Test.YtfcjbkddkaeliaaGreatDoorEv1
import GoSem.Dispatch
import Derived.Laws.Concat
import Derived.Laws.Small
import Derived.Laws.Strings
import Derived.Orders
import Derived.Laws.Cells
import Derived.MapKept
import Derived.Laws.RangeString
set_option linter.unusedVariables false
set_option linter.unusedSimpArgs false
noncomputable section
namespace Go.Ev

theorem kindN_inj {j k : IntKind} (h : kindN j = kindN k) : j = k := by cases j <;> cases k <;> first | rfl | (exact absurd h (by decide))

theorem top_eq (k : IntKind) : topK (kindN k) = match k with | .i8 => 128 | .i16 => 32768 | .i32 => 2147483648 | .i64 => 9223372036854775808 | .u8 => 256 | .u16 => 65536 | .u32 => 4294967296 | .u64 => 18446744073709551616 := by cases k <;> rfl
theorem low_eq (k : IntKind) : lowK (kindN k) = match k with | .i8 => 128 | .i16 => 32768 | .i32 => 2147483648 | .i64 => 9223372036854775808 | _ => 0 := by cases k <;> rfl
theorem wrap_pos {k : IntKind} {m : Nat} (h : m < topK (kindN k)) : k.wrap (Int.ofNat m) = Int.ofNat m := by
  rw [top_eq] at h
  cases k <;> simp only at h <;> simp [IntKind.wrap, IntKind.bits, IntKind.signed] <;> (try split) <;> omega
theorem wrap_neg {k : IntKind} {m : Nat} (h : m < lowK (kindN k)) : k.wrap (Int.negSucc m) = Int.negSucc m := by
  rw [low_eq] at h
  cases k <;> simp only at h <;> first | (exact absurd h (Nat.not_lt_zero _)) | (simp only [IntKind.wrap, IntKind.bits, IntKind.signed]; simp; (try split) <;> omega)

theorem posK_some {c m : Nat} {k : KV} {r : Res} (e : posK c m k = some r) : m < topK c ∧ k (.i c m) = some r := by
  unfold posK at e
  cases hb : Nat.blt m (topK c) <;> rw [hb] at e
  · cases e
  · exact ⟨by simpa [Nat.blt_eq] using hb, by simpa using e⟩
theorem negK_some {c m : Nat} {k : KV} {r : Res} (e : negK c m k = some r) : m < lowK c ∧ k (.j c m) = some r := by
  unfold negK at e
  cases hb : Nat.blt m (lowK c) <;> rw [hb] at e
  · cases e
  · exact ⟨by simpa [Nat.blt_eq] using hb, by simpa using e⟩

/-- a number that a kind holds -/
def NumOK (c : Nat) (z : Int) (v : V) : Prop := ∀ k : IntKind, kindN k = c → k.wrap z = z ∧ ∀ σ, VR σ v (.int k z)
theorem posK_num {c m : Nat} {k : KV} {r : Res} (e : posK c m k = some r) : ∃ v, k v = some r ∧ NumOK c (Int.ofNat m) v := by
  obtain ⟨h1, h2⟩ := posK_some e
  exact ⟨_, h2, fun k hk => by subst hk; exact ⟨wrap_pos h1, fun σ => .i k m⟩⟩
theorem negK_num {c m : Nat} {k : KV} {r : Res} (e : negK c m k = some r) : ∃ v, k v = some r ∧ NumOK c (Int.negSucc m) v := by
  obtain ⟨h1, h2⟩ := negK_some e
  exact ⟨_, h2, fun k hk => by subst hk; exact ⟨wrap_neg h1, fun σ => .j k m⟩⟩
theorem subN_num {c m n : Nat} {k : KV} {r : Res} (e : subN c m n k = some r) : ∃ v, k v = some r ∧ NumOK c ((m : Int) - n) v := by
  unfold subN at e
  cases hb : Nat.ble n m <;> rw [hb] at e
  · have hlt : m < n := by
      rcases Nat.lt_or_ge m n with h | h
      · exact h
      · rw [Nat.ble_eq_true_of_le h] at hb; cases hb
    obtain ⟨v, h1, h2⟩ := negK_num (r := r) e
    refine ⟨v, h1, ?_⟩
    have : (m : Int) - n = Int.negSucc (Nat.pred (Nat.sub n m)) := by
      have : Nat.pred (Nat.sub n m) = n - m - 1 := rfl
      rw [this]; omega
    rw [this]; exact h2
  · have hle : n ≤ m := Nat.le_of_ble_eq_true hb
    obtain ⟨v, h1, h2⟩ := posK_num (r := r) e
    refine ⟨v, h1, ?_⟩
    have : (m : Int) - n = Int.ofNat (Nat.sub m n) := by
      show (m : Int) - n = ((m - n : Nat) : Int)
      omega
    rw [this]; exact h2

/-- what an operator's function tells is what the operator tells -/
def BinOK (P : Program) (t : TypeId) (op : BinOp) (f : BK) : Prop := ∀ a b k r, f a b k = some r → ∃ v, k v = some r ∧ ∀ σ x y, VR σ a x → VR σ b y →
  (∃ z, (∀ (w : World), (binOp op t x y).run P w = .ok z w) ∧ VR σ v z) ∧ (¬ ∃ c d, x = .agg c ∧ y = .agg d) ∧ ¬ (x = .nilIface ∧ y = .nilIface)

theorem beq_kind {j k : IntKind} {y : R} {r : Res} (e : bi (Nat.beq (kindN j) (kindN k)) y = some r) : j = k ∧ y = some r := by
  obtain ⟨h1, h2⟩ := bi_some.1 e
  exact ⟨kindN_inj (Nat.eq_of_beq_eq_true h1), h2⟩


theorem VR.int_i {σ : Sg} {c m : Nat} {x : Value} (h : VR σ (.i c m) x) : ∃ k, kindN k = c ∧ x = .int k (Int.ofNat m) := by cases h; exact ⟨_, rfl, rfl⟩
theorem VR.int_j {σ : Sg} {c m : Nat} {x : Value} (h : VR σ (.j c m) x) : ∃ k, kindN k = c ∧ x = .int k (Int.negSucc m) := by cases h; exact ⟨_, rfl, rfl⟩

abbrev BinGoal (P : Program) (t : TypeId) (op : BinOp) (v : V) (σ : Sg) (x y : Value) : Prop :=
  (∃ z, (∀ (w : World), (binOp op t x y).run P w = .ok z w) ∧ VR σ v z) ∧ (¬ ∃ c d, x = .agg c ∧ y = .agg d) ∧ ¬ (x = .nilIface ∧ y = .nilIface)

section
variable {P : Program} {t : TypeId}
theorem int_fin {op : BinOp} {v : V} {σ : Sg} {x y : Value} {c d : Nat} {za zb : Int} (hcd : Nat.beq c d = true) (hx : ∃ k, kindN k = c ∧ x = .int k za) (hy : ∃ k, kindN k = d ∧ y = .int k zb)
    (h : ∀ k : IntKind, kindN k = c → ∃ z, (∀ (w : World), (binOp op t (.int k za) (.int k zb)).run P w = .ok z w) ∧ VR σ v z) : BinGoal P t op v σ x y := by
  obtain ⟨k, hk, rfl⟩ := hx
  obtain ⟨k', hk', rfl⟩ := hy
  have : k' = k := kindN_inj (by rw [hk', hk]; exact (Nat.eq_of_beq_eq_true hcd).symm)
  subst this
  exact ⟨h _ hk, fun ⟨_, _, h, _⟩ => (by cases h), fun ⟨h, _⟩ => (by cases h)⟩

theorem arith_fin {op : BinOp} {f : Int → Int → Int} (hf : ∀ (P : Program) (t : TypeId) (k : IntKind) (a b : Int) (w : World), (binOp op t (.int k a) (.int k b)).run P w = .ok (.int k (k.wrap (f a b))) w)
    {v : V} {σ : Sg} {x y : Value} {c d : Nat} {za zb z : Int} (hz : z = f za zb) (hv : NumOK c z v) (hcd : Nat.beq c d = true) (hx : ∃ k, kindN k = c ∧ x = .int k za) (hy : ∃ k, kindN k = d ∧ y = .int k zb) : BinGoal P t op v σ x y :=
  int_fin hcd hx hy fun k hk => ⟨_, fun w => hf P t k za zb w, by rw [← hz, (hv k hk).1]; exact (hv k hk).2 σ⟩

theorem run_add (P : Program) (t : TypeId) (k : IntKind) (a b : Int) (w : World) : (binOp .add t (.int k a) (.int k b)).run P w = .ok (.int k (k.wrap (a + b))) w := by simp [binOp, Op.intArith]
theorem run_sub (P : Program) (t : TypeId) (k : IntKind) (a b : Int) (w : World) : (binOp .sub t (.int k a) (.int k b)).run P w = .ok (.int k (k.wrap (a - b))) w := by simp [binOp, Op.intArith]
theorem run_mul (P : Program) (t : TypeId) (k : IntKind) (a b : Int) (w : World) : (binOp .mul t (.int k a) (.int k b)).run P w = .ok (.int k (k.wrap (a * b))) w := by simp [binOp, Op.intArith]

theorem add_ok : BinOK P t .add addK := by
  intro a b k r e
  cases a <;> try (exact absurd e (by intro e; cases e))
  case i c m =>
    cases b <;> try (exact absurd e (by intro e; cases e))
    case i d n =>
      obtain ⟨h, e⟩ := bi_some.1 e
      obtain ⟨v, e, hv⟩ := posK_num e
      exact ⟨v, e, fun σ x y hx hy => arith_fin (f := (· + ·)) run_add (by rfl) hv h hx.int_i hy.int_i⟩
    case j d n =>
      obtain ⟨h, e⟩ := bi_some.1 e
      obtain ⟨v, e, hv⟩ := subN_num e
      exact ⟨v, e, fun σ x y hx hy => arith_fin (f := (· + ·)) run_add (by show (m : Int) - ((n + 1 : Nat) : Int) = (m : Int) + Int.negSucc n; omega) hv h hx.int_i hy.int_j⟩
  case j c m =>
    cases b <;> try (exact absurd e (by intro e; cases e))
    case i d n =>
      obtain ⟨h, e⟩ := bi_some.1 e
      obtain ⟨v, e, hv⟩ := subN_num e
      exact ⟨v, e, fun σ x y hx hy => arith_fin (f := (· + ·)) run_add (by show (n : Int) - ((m + 1 : Nat) : Int) = Int.negSucc m + (n : Int); omega) hv h hx.int_j hy.int_i⟩
    case j d n =>
      obtain ⟨h, e⟩ := bi_some.1 e
      obtain ⟨v, e, hv⟩ := negK_num e
      exact ⟨v, e, fun σ x y hx hy => arith_fin (f := (· + ·)) run_add (by show Int.negSucc (m + n + 1) = Int.negSucc m + Int.negSucc n; omega) hv h hx.int_j hy.int_j⟩
  case s n l =>
    cases b <;> try (exact absurd e (by intro e; cases e))
    case s m q =>
      have e' : (Nat.blt (Nat.add l q) 4294967296).rec (motive := fun _ => R) none (force (Nat.add n (Nat.mul m (Nat.pow 256 l))) fun n => force (Nat.add l q) fun l => k (.s n l)) = some r := e
      cases hb : Nat.blt (Nat.add l q) 4294967296 <;> rw [hb] at e'
      · cases e'
      · have hlt : l + q < 4294967296 := by have : Nat.add l q < 4294967296 := by simpa [Nat.blt_eq] using hb
                                            exact this
        refine ⟨_, by simpa using e', fun σ x y hx hy => ?_⟩
        cases hx with | s x => cases hy with | s y =>
          refine ⟨⟨.string (x ++ y), fun w => ?_, ?_⟩, fun ⟨_, _, h, _⟩ => (by cases h), fun ⟨h, _⟩ => (by cases h)⟩
          · have : ¬ (9223372036854775807 : Int) < (x.size : Int) + (y.size : Int) := by omega
            simp [binOp, Op.stringOp, IntKind.max, IntKind.bits, IntKind.signed, this]
          · have h1 := VR.s (σ := σ) (x ++ y)
            have e1 : (x ++ y).data.toList = x.data.toList ++ y.data.toList := by simp
            rw [e1, pk_append, ByteArray.size_append'] at h1
            have e2 : x.data.toList.length = x.size := Array.length_toList
            rw [e2] at h1
            exact h1

theorem sub_ok : BinOK P t .sub subK := by
  intro a b k r e
  cases a <;> try (exact absurd e (by intro e; cases e))
  case i c m =>
    cases b <;> try (exact absurd e (by intro e; cases e))
    case i d n =>
      obtain ⟨h, e⟩ := bi_some.1 e
      obtain ⟨v, e, hv⟩ := subN_num e
      exact ⟨v, e, fun σ x y hx hy => arith_fin (f := (· - ·)) run_sub (by rfl) hv h hx.int_i hy.int_i⟩
    case j d n =>
      obtain ⟨h, e⟩ := bi_some.1 e
      obtain ⟨v, e, hv⟩ := posK_num e
      exact ⟨v, e, fun σ x y hx hy => arith_fin (f := (· - ·)) run_sub (by show ((m + (n + 1) : Nat) : Int) = (m : Int) - Int.negSucc n; omega) hv h hx.int_i hy.int_j⟩
  case j c m =>
    cases b <;> try (exact absurd e (by intro e; cases e))
    case i d n =>
      obtain ⟨h, e⟩ := bi_some.1 e
      obtain ⟨v, e, hv⟩ := negK_num e
      exact ⟨v, e, fun σ x y hx hy => arith_fin (f := (· - ·)) run_sub (by show Int.negSucc (m + n) = Int.negSucc m - (n : Int); omega) hv h hx.int_j hy.int_i⟩
    case j d n =>
      obtain ⟨h, e⟩ := bi_some.1 e
      obtain ⟨v, e, hv⟩ := subN_num e
      exact ⟨v, e, fun σ x y hx hy => arith_fin (f := (· - ·)) run_sub (by show ((n + 1 : Nat) : Int) - ((m + 1 : Nat) : Int) = Int.negSucc m - Int.negSucc n; omega) hv h hx.int_j hy.int_j⟩


theorem cmp_fin {op : BinOp} {f : Int → Int → Bool} (hf : ∀ (P : Program) (t : TypeId) (k : IntKind) (a b : Int) (w : World), (binOp op t (.int k a) (.int k b)).run P w = .ok (.bool (f a b)) w)
    {q : Bool} {σ : Sg} {x y : Value} {c d : Nat} {za zb : Int} (hz : q = f za zb) (hcd : Nat.beq c d = true) (hx : ∃ k, kindN k = c ∧ x = .int k za) (hy : ∃ k, kindN k = d ∧ y = .int k zb) : BinGoal P t op (.b q) σ x y :=
  int_fin hcd hx hy fun k hk => ⟨_, fun w => hf P t k za zb w, by rw [← hz]; exact .b q⟩

theorem lt_gen {op : BinOp} {f : Int → Int → Bool} {g : Nat → Nat → Bool} {ij ji : Bool} (hf : ∀ (P : Program) (t : TypeId) (k : IntKind) (a b : Int) (w : World), (binOp op t (.int k a) (.int k b)).run P w = .ok (.bool (f a b)) w)
    (h1 : ∀ m n : Nat, g m n = f m n) (h2 : ∀ m n : Nat, ij = f m (Int.negSucc n)) (h3 : ∀ m n : Nat, ji = f (Int.negSucc m) n) (h4 : ∀ m n : Nat, g n m = f (Int.negSucc m) (Int.negSucc n)) : BinOK P t op (ltK g ij ji) := by
  intro a b k r e
  cases a <;> try (exact absurd e (by intro e; cases e))
  case i c m =>
    cases b <;> try (exact absurd e (by intro e; cases e))
    case i d n =>
      obtain ⟨h, e⟩ := bi_some.1 e
      exact ⟨_, e, fun σ x y hx hy => cmp_fin hf (h1 m n) h hx.int_i hy.int_i⟩
    case j d n =>
      obtain ⟨h, e⟩ := bi_some.1 e
      exact ⟨_, e, fun σ x y hx hy => cmp_fin hf (h2 m n) h hx.int_i hy.int_j⟩
  case j c m =>
    cases b <;> try (exact absurd e (by intro e; cases e))
    case i d n =>
      obtain ⟨h, e⟩ := bi_some.1 e
      exact ⟨_, e, fun σ x y hx hy => cmp_fin hf (h3 m n) h hx.int_j hy.int_i⟩
    case j d n =>
      obtain ⟨h, e⟩ := bi_some.1 e
      exact ⟨_, e, fun σ x y hx hy => cmp_fin hf (h4 m n) h hx.int_j hy.int_j⟩

theorem lss_ok : BinOK P t .lss (ltK Nat.blt false true) := lt_gen (f := fun a b => decide (a < b)) (fun P t k a b w => by simp [binOp, Op.intCmp])
  (fun m n => by rw [Bool.eq_iff_iff, Nat.blt_eq]; simp) (fun m n => by simp; omega) (fun m n => by simp; omega) (fun m n => by rw [Bool.eq_iff_iff, Nat.blt_eq]; simp; omega)
theorem leq_ok : BinOK P t .leq (ltK Nat.ble false true) := lt_gen (f := fun a b => decide (a ≤ b)) (fun P t k a b w => by simp [binOp, Op.intCmp])
  (fun m n => by rw [Bool.eq_iff_iff, Nat.ble_eq]; simp) (fun m n => by simp; omega) (fun m n => by simp; omega) (fun m n => by rw [Bool.eq_iff_iff, Nat.ble_eq]; simp; omega)
theorem gtr_ok : BinOK P t .gtr (ltK natGt true false) := lt_gen (f := fun a b => decide (a > b)) (fun P t k a b w => by simp [binOp, Op.intCmp])
  (fun m n => by unfold natGt; rw [Bool.eq_iff_iff, Nat.blt_eq]; simp) (fun m n => by simp; omega) (fun m n => by simp; omega) (fun m n => by unfold natGt; rw [Bool.eq_iff_iff, Nat.blt_eq]; simp; omega)
theorem geq_ok : BinOK P t .geq (ltK natGe true false) := lt_gen (f := fun a b => decide (a ≥ b)) (fun P t k a b w => by simp [binOp, Op.intCmp])
  (fun m n => by unfold natGe; rw [Bool.eq_iff_iff, Nat.ble_eq]; simp) (fun m n => by simp; omega) (fun m n => by simp; omega) (fun m n => by unfold natGe; rw [Bool.eq_iff_iff, Nat.ble_eq]; simp; omega)

theorem natK_some {g : Nat → Nat → Nat → KV → R} {a b : V} {k : KV} {r : Res} (e : natK g a b k = some r) : ∃ c m d n, a = .i c m ∧ b = .i d n ∧ Nat.beq c d = true ∧ g c m n k = some r := by
  cases a <;> try (exact absurd e (by intro e; cases e))
  cases b <;> try (exact absurd e (by intro e; cases e))
  obtain ⟨h, e⟩ := bi_some.1 e
  exact ⟨_, _, _, _, rfl, rfl, h, e⟩

theorem mul_ok : BinOK P t .mul (natK mulN) := by
  intro a b k r e
  obtain ⟨c, m, d, n, rfl, rfl, h, e⟩ := natK_some e
  obtain ⟨v, e, hv⟩ := posK_num e
  exact ⟨v, e, fun σ x y hx hy => arith_fin (f := (· * ·)) run_mul (by show ((m * n : Nat) : Int) = (m : Int) * n; simp) hv h hx.int_i hy.int_i⟩
theorem quo_ok : BinOK P t .quo (natK quoN) := by
  intro a b k r e
  obtain ⟨c, m, d, n, rfl, rfl, h, e⟩ := natK_some e
  cases n with
  | zero => cases e
  | succ j =>
    obtain ⟨v, e, hv⟩ := posK_num (r := r) e
    refine ⟨v, e, fun σ x y hx hy => int_fin h hx.int_i hy.int_i fun k hk => ⟨.int k (Int.ofNat (m / (j + 1))), fun w => ?_, ?_⟩⟩
    · have h0 : ¬ ((j : Int) + 1 = 0) := by omega
      have : (Int.ofNat m).tdiv (Int.ofNat (j + 1)) = Int.ofNat (m / (j + 1)) := rfl
      have h1 : ¬ (Int.ofNat (j + 1) = 0) := by intro h; cases h
      simp only [binOp, Op.intDiv, ne_eq, not_true_eq_false, if_false, h1, this]
      rw [Sem.run_pure]
      have := (hv k hk).1
      exact congrArg (fun z => Result.ok (Value.int k z) w) this
    · exact (hv k hk).2 σ
theorem rem_ok : BinOK P t .rem remK := by
  intro a b k r e
  cases b <;> try (exact absurd e (by intro e; cases e))
  case i d n =>
    cases a <;> try (exact absurd e (by intro e; cases e))
    case i c m =>
      obtain ⟨h, e⟩ := bi_some.1 e
      cases n with
      | zero => cases e
      | succ j =>
        have e' : force (Nat.mod m (Nat.succ j)) (fun q => k (.i c q)) = some r := e
        rw [force_eq] at e'
        refine ⟨.i c (m % (j + 1)), e', fun σ x y hx hy => int_fin h hx.int_i hy.int_i fun k hk => ⟨.int k (Int.ofNat (m % (j + 1))), fun w => ?_, ?_⟩⟩
        · have : (Int.ofNat m).tmod (Int.ofNat (j + 1)) = Int.ofNat (m % (j + 1)) := rfl
          have h1 : ¬ (Int.ofNat (j + 1) = 0) := by intro h; cases h
          simp only [binOp, Op.intDiv, ne_eq, not_true_eq_false, if_false, h1, this]
          rfl
        · subst hk; exact .i k _
    case r c m q =>
      obtain ⟨h, e⟩ := bi_some.1 e
      obtain ⟨h2, e2⟩ := bi_some.1 e
      obtain ⟨h3, e3⟩ := bi_some.1 e2
      have hmn : m = n := Nat.eq_of_beq_eq_true h2
      subst hmn
      have hpos : 0 < m := by simpa [Nat.blt_eq] using h3
      refine ⟨.i c q, e3, fun σ x y hx hy => ?_⟩
      cases hx with | r k m u hu =>
        refine int_fin h ⟨k, rfl, rfl⟩ hy.int_i fun k hk => ⟨.int k (Int.ofNat (u % m)), fun w => ?_, ?_⟩
        · have : (Int.ofNat u).tmod (Int.ofNat m) = Int.ofNat (u % m) := rfl
          have h1 : ¬ (Int.ofNat m = 0) := by intro h; cases h; omega
          simp only [binOp, Op.intDiv, ne_eq, not_true_eq_false, if_false, h1, this]
          rfl
        · rw [← hk]; exact .i k _

theorem smallK_some {c m n : Nat} {y : R} {r : Res} (e : smallK c m n y = some r) : m < 128 ∧ n < 128 ∧ y = some r := by
  obtain ⟨h1, e⟩ := bi_some.1 e
  obtain ⟨h2, e⟩ := bi_some.1 e
  exact ⟨by simpa [Nat.blt_eq] using h1, by simpa [Nat.blt_eq] using h2, e⟩


theorem land_lt {m n : Nat} (h : m < 128) : Nat.land m n < 128 := Nat.lt_of_le_of_lt (Nat.and_le_left (n := m) (m := n)) h
theorem bits_of {k : IntKind} {m : Nat} (h : m < 128) : (BitVec.ofInt k.bits (Int.ofNat m)).toNat = m := by
  have e : BitVec.ofInt k.bits (Int.ofNat m) = BitVec.ofNat k.bits m := by simp [BitVec.ofInt_natCast]
  rw [e, BitVec.toNat_ofNat]
  apply Nat.mod_eq_of_lt
  cases k <;> simp [IntKind.bits] <;> omega
theorem wrap_small (k : IntKind) {m : Nat} (h : m < 128) : k.wrap (m : Int) = (m : Int) := wrap_pos (by rw [top_eq]; cases k <;> simp <;> omega)

theorem or_ok : BinOK P t .or (natK orN) := by
  intro a b k r e
  obtain ⟨c, m, d, n, rfl, rfl, h, e⟩ := natK_some e
  obtain ⟨hm, hn, e⟩ := smallK_some e
  rw [force_eq] at e
  have hlt : Nat.lor m n < 128 := Nat.or_lt_two_pow (n := 7) hm hn
  refine ⟨_, e, fun σ x y hx hy => int_fin h hx.int_i hy.int_i fun k hk => ⟨.int k (Int.ofNat (Nat.lor m n)), fun w => ?_, by subst hk; exact .i k _⟩⟩
  have h1 : (BitVec.ofInt k.bits (Int.ofNat m) ||| BitVec.ofInt k.bits (Int.ofNat n)).toNat = Nat.lor m n := by
    rw [BitVec.toNat_or, bits_of hm, bits_of hn]; rfl
  simp only [binOp, Op.intBits, ne_eq, not_true_eq_false, if_false, h1]
  rw [Sem.run_pure, wrap_small k hlt]; rfl

theorem andJ_run {m n : Nat} (hm : m < 2) (hn : n < 2) (w : World) : (binOp .and t (.int .i64 (Int.ofNat m)) (.int .i64 (Int.negSucc n))).run P w = .ok (.int .i64 (Int.ofNat (m * (1 - n)))) w := by
  have : m = 0 ∨ m = 1 := by omega
  have : n = 0 ∨ n = 1 := by omega
  rcases ‹m = 0 ∨ m = 1› with rfl | rfl <;> rcases ‹n = 0 ∨ n = 1› with rfl | rfl <;> rfl
theorem andJ_run' {m n : Nat} (hm : m < 2) (hn : n < 2) (w : World) : (binOp .and t (.int .i64 (Int.negSucc n)) (.int .i64 (Int.ofNat m))).run P w = .ok (.int .i64 (Int.ofNat (m * (1 - n)))) w := by
  have : m = 0 ∨ m = 1 := by omega
  have : n = 0 ∨ n = 1 := by omega
  rcases ‹m = 0 ∨ m = 1› with rfl | rfl <;> rcases ‹n = 0 ∨ n = 1› with rfl | rfl <;> rfl

theorem andJ_some {c m n : Nat} {k : KV} {r : Res} (e : andJ c m n k = some r) : m < 2 ∧ n < 2 ∧ k (.i c (m * (1 - n))) = some r := by
  obtain ⟨h1, e⟩ := bi_some.1 e
  obtain ⟨h2, e⟩ := bi_some.1 e
  rw [force_eq] at e
  exact ⟨by simpa [Nat.blt_eq] using h1, by simpa [Nat.blt_eq] using h2, e⟩

theorem and_ok : BinOK P t .and andK := by
  intro a b k r e
  cases a <;> try (exact absurd e (by intro e; cases e))
  case i c m =>
    cases b <;> try (exact absurd e (by intro e; cases e))
    case i d n =>
      obtain ⟨h, e⟩ := bi_some.1 e
      obtain ⟨hm, hn, e⟩ := smallK_some e
      rw [force_eq] at e
      have hlt : Nat.land m n < 128 := land_lt hm
      refine ⟨_, e, fun σ x y hx hy => int_fin h hx.int_i hy.int_i fun k hk => ⟨.int k (Int.ofNat (Nat.land m n)), fun w => ?_, by subst hk; exact .i k _⟩⟩
      have h1 : (BitVec.ofInt k.bits (Int.ofNat m) &&& BitVec.ofInt k.bits (Int.ofNat n)).toNat = Nat.land m n := by
        rw [BitVec.toNat_and, bits_of hm, bits_of hn]; rfl
      simp only [binOp, Op.intBits, ne_eq, not_true_eq_false, if_false, h1]
      rw [Sem.run_pure, wrap_small k hlt]; rfl
    case j d n =>
      obtain ⟨h, e⟩ := bi_some.1 e
      obtain ⟨h3, e⟩ := bi_some.1 e
      obtain ⟨hm, hn, e⟩ := andJ_some e
      refine ⟨_, e, fun σ x y hx hy => int_fin h hx.int_i hy.int_j fun k hk => ?_⟩
      have : k = .i64 := kindN_inj (by rw [hk]; exact Nat.eq_of_beq_eq_true h3)
      subst this
      exact ⟨_, fun w => andJ_run hm hn w, by rw [← hk]; exact .i _ _⟩
  case j c m =>
    cases b <;> try (exact absurd e (by intro e; cases e))
    case i d n =>
      obtain ⟨h, e⟩ := bi_some.1 e
      obtain ⟨h3, e⟩ := bi_some.1 e
      obtain ⟨hm, hn, e⟩ := andJ_some e
      refine ⟨_, e, fun σ x y hx hy => int_fin h hx.int_j hy.int_i fun k hk => ?_⟩
      have : k = .i64 := kindN_inj (by rw [hk]; exact Nat.eq_of_beq_eq_true h3)
      subst this
      exact ⟨_, fun w => andJ_run' hm hn w, by rw [← hk]; exact .i _ _⟩

theorem shr_ok : BinOK P t .shr shrK := by
  intro a b k r e
  cases b <;> try (exact absurd e (by intro e; cases e))
  case i d n =>
    cases a <;> try (exact absurd e (by intro e; cases e))
    case i c m =>
      obtain ⟨h, e⟩ := bi_some.1 e
      have hn : n < 8 := by simpa [Nat.blt_eq] using h
      rw [force_eq] at e
      refine ⟨_, e, fun σ x y hx hy => ?_⟩
      obtain ⟨k, hk, rfl⟩ := hx.int_i
      obtain ⟨k', hk', rfl⟩ := hy.int_i
      refine ⟨⟨.int k (Int.ofNat (m / 2 ^ n)), fun w => ?_, by subst hk; exact .i k _⟩, fun ⟨_, _, h, _⟩ => (by cases h), fun ⟨h, _⟩ => (by cases h)⟩
      have h0 : ¬ (Int.ofNat n < 0) := Int.not_lt.2 (Int.natCast_nonneg n)
      have h1 : min (Int.ofNat n).toNat k.bits = n := by
        have : (Int.ofNat n).toNat = n := rfl
        rw [this]; apply Nat.min_eq_left; cases k <;> simp [IntKind.bits] <;> omega
      simp only [binOp, Op.shift, h0, if_false, h1]
      rw [Sem.run_pure]
      have h2 : (Int.ofNat m).fdiv (2 ^ n) = Int.ofNat (m / 2 ^ n) := by
        have : (2 ^ n : Int) = Int.ofNat (2 ^ n) := by simp
        rw [this]; exact (Int.ofNat_fdiv m (2 ^ n)).symm
      rw [h2]
theorem shl_ok : BinOK P t .shl shlK := by
  intro a b k r e
  cases b <;> try (exact absurd e (by intro e; cases e))
  case i d n =>
    cases a <;> try (exact absurd e (by intro e; cases e))
    case i c m =>
      obtain ⟨h, e⟩ := bi_some.1 e
      have hn : n < 8 := by simpa [Nat.blt_eq] using h
      obtain ⟨v, e, hv⟩ := posK_num e
      refine ⟨_, e, fun σ x y hx hy => ?_⟩
      obtain ⟨k, hk, rfl⟩ := hx.int_i
      obtain ⟨k', hk', rfl⟩ := hy.int_i
      refine ⟨⟨.int k (Int.ofNat (m * 2 ^ n)), fun w => ?_, (hv k hk).2 σ⟩, fun ⟨_, _, h, _⟩ => (by cases h), fun ⟨h, _⟩ => (by cases h)⟩
      have h0 : ¬ (Int.ofNat n < 0) := Int.not_lt.2 (Int.natCast_nonneg n)
      have h1 : min (Int.ofNat n).toNat k.bits = n := by
        have : (Int.ofNat n).toNat = n := rfl
        rw [this]; apply Nat.min_eq_left; cases k <;> simp [IntKind.bits] <;> omega
      simp only [binOp, Op.shift, h0, if_false, h1]
      rw [Sem.run_pure]
      have h2 : (Int.ofNat m * 2 ^ n : Int) = Int.ofNat (m * 2 ^ n) := by simp
      rw [h2]
      exact congrArg (fun z => Result.ok (Value.int k z) w) (hv k hk).1


/-- equal, or not, as the function tells -/
def EqGoal (P : Program) (t : TypeId) (q : Bool) (x y : Value) : Prop :=
  ((∀ w, (binOp .eql t x y).run P w = .ok (.bool q) w) ∧ (∀ w, (binOp .neq t x y).run P w = .ok (.bool (!q)) w)) ∧ (¬ ∃ c d, x = .agg c ∧ y = .agg d) ∧ ¬ (x = .nilIface ∧ y = .nilIface)

theorem eq_int {q : Bool} {σ : Sg} {x y : Value} {c d : Nat} {za zb : Int} (hz : q = (za == zb)) (hcd : Nat.beq c d = true) (hx : ∃ k, kindN k = c ∧ x = .int k za) (hy : ∃ k, kindN k = d ∧ y = .int k zb) : EqGoal P t q x y := by
  obtain ⟨k, hk, rfl⟩ := hx
  obtain ⟨k', hk', rfl⟩ := hy
  have : k' = k := kindN_inj (by rw [hk', hk]; exact (Nat.eq_of_beq_eq_true hcd).symm)
  subst this
  exact ⟨⟨fun w => by rw [hz]; simp [binOp, Op.intCmp], fun w => by rw [hz]; simp [binOp, Op.intCmp, bne]⟩, fun ⟨_, _, h, _⟩ => (by cases h), fun ⟨h, _⟩ => (by cases h)⟩

theorem eq_equal {q : Bool} {x y : Value} (h1 : ∀ d w, (Op.equalIn (d + 1) t x y).run P w = .ok q w)
    (h2 : binOp .eql t x y = (do pure (.bool (← Op.equal t x y)))) (h3 : binOp .neq t x y = (do pure (.bool (!(← Op.equal t x y)))))
    (h4 : ¬ ∃ c d, x = .agg c ∧ y = .agg d) (h5 : ¬ (x = .nilIface ∧ y = .nilIface)) : EqGoal P t q x y := by
  have h1' : ∀ w, (Op.equal t x y).run P w = .ok q w := h1 9999
  exact ⟨⟨fun w => by rw [h2, Sem.run_bind, h1']; rfl, fun w => by rw [h3, Sem.run_bind, h1']; rfl⟩, h4, h5⟩

theorem str_eq (a b : ByteArray) : (a.toList == b.toList) = ((Nat.beq a.size b.size).rec false (Nat.beq (pk a.data.toList) (pk b.data.toList)) : Bool) := by
  rw [ByteArray.toList_eq, ByteArray.toList_eq]
  have la : a.data.toList.length = a.size := Array.length_toList
  have lb : b.data.toList.length = b.size := Array.length_toList
  by_cases h : a.data.toList = b.data.toList
  · rw [h]
    have : a.size = b.size := by rw [← la, ← lb, h]
    rw [this]
    have e1 : Nat.beq b.size b.size = true := Nat.beq_refl _
    have e2 : Nat.beq (pk b.data.toList) (pk b.data.toList) = true := Nat.beq_refl _
    rw [e1, e2]; simp
  · have : (a.data.toList == b.data.toList) = false := by simpa using h
    rw [this]
    cases h1 : Nat.beq a.size b.size with
    | false => rfl
    | true =>
      cases h2 : Nat.beq (pk a.data.toList) (pk b.data.toList) with
      | false => rfl
      | true => exact absurd (pk_inj _ _ (by rw [la, lb]; exact Nat.eq_of_beq_eq_true h1) (Nat.eq_of_beq_eq_true h2)) h

theorem eqClass_spec {q : Nat} (h : eqClass P t = q) : (q = 0 → ∃ e, P.underlying t = some (.pointer e)) ∧ (q = 1 → ∃ e, P.underlying t = some (.slice e)) ∧ (q = 2 → ∃ k e, P.underlying t = some (.map k e)) ∧
    (q = 3 → ∃ a b c, P.underlying t = some (.func a b c)) ∧ (q = 5 → P.underlying t = some .bool) := by
  unfold eqClass at h
  split at h <;> subst h <;> simp_all

/-- nil, or not: whatever the program is -/
theorem eqz_some {tag q : Nat} {k : Bool → R} {a : V} {r : Res} (e : bi (Nat.beq tag q) (bi (Nat.blt tag 4) (nilEq tag k a)) = some r) :
    ∃ z, k z = some r ∧ ∀ P t, (q = 9 ∨ eqClass P t = q) → ∀ σ x y, VR σ a x → VR σ (.z tag) y → EqGoal P t z x y := by
  obtain ⟨h1, e1⟩ := bi_some.1 e
  obtain ⟨h2, e2⟩ := bi_some.1 e1
  have h1 : tag = q := Nat.eq_of_beq_eq_true h1
  have h2 : tag < 4 := by simpa [Nat.blt_eq] using h2
  subst h1
  clear e e1
  cases a <;> try (exact absurd e2 (by intro e; cases e))
  case z t2 =>
    obtain ⟨h, e⟩ := bi_some.1 e2
    refine ⟨true, e, fun P t hq σ x y hx hy => ?_⟩
    obtain ⟨c0, c1, c2, c3, _⟩ := eqClass_spec (hq.resolve_left (by omega))
    have ht : t2 = tag := Nat.eq_of_beq_eq_true h
    rw [ht] at hx
    cases hx with
    | z0 => cases hy; obtain ⟨e, he⟩ := c0 rfl; exact eq_equal (fun d w => by simp [Op.equalIn, underlying, he]) rfl rfl (fun ⟨_, _, h, _⟩ => (by cases h)) fun ⟨h, _⟩ => (by cases h)
    | z1 => cases hy; obtain ⟨e, he⟩ := c1 rfl; exact eq_equal (fun d w => by simp [Op.equalIn, underlying, he]) rfl rfl (fun ⟨_, _, h, _⟩ => (by cases h)) fun ⟨h, _⟩ => (by cases h)
    | z2 => cases hy; obtain ⟨k, e, he⟩ := c2 rfl; exact eq_equal (fun d w => by simp [Op.equalIn, underlying, he]) rfl rfl (fun ⟨_, _, h, _⟩ => (by cases h)) fun ⟨h, _⟩ => (by cases h)
    | z3 => cases hy; obtain ⟨k, e, f, he⟩ := c3 rfl; exact eq_equal (fun d w => by simp [Op.equalIn, underlying, he]) rfl rfl (fun ⟨_, _, h, _⟩ => (by cases h)) fun ⟨h, _⟩ => (by cases h)
    | z4 => omega
  case p id off =>
    obtain ⟨h, e⟩ := bi_some.1 e2
    refine ⟨false, e, fun P t hq σ x y hx hy => ?_⟩
    obtain ⟨c0, c1, c2, c3, _⟩ := eqClass_spec (hq.resolve_left (by omega))
    have ht : tag = 0 := Nat.eq_of_beq_eq_true h
    subst ht
    obtain ⟨el, he⟩ := c0 rfl
    cases hx; cases hy
    exact eq_equal (fun d w => by simp [Op.equalIn, underlying, he]) rfl rfl (fun ⟨_, _, h, _⟩ => (by cases h)) fun ⟨h, _⟩ => (by cases h)
  case l id off len es =>
    obtain ⟨h, e⟩ := bi_some.1 e2
    refine ⟨false, e, fun P t hq σ x y hx hy => ?_⟩
    obtain ⟨c0, c1, c2, c3, _⟩ := eqClass_spec (hq.resolve_left (by omega))
    have ht : tag = 1 := Nat.eq_of_beq_eq_true h
    subst ht
    obtain ⟨el, he⟩ := c1 rfl
    cases hx <;> cases hy <;>
    exact eq_equal (fun d w => by simp [Op.equalIn, underlying, he]) rfl rfl (fun ⟨_, _, h, _⟩ => (by cases h)) fun ⟨h, _⟩ => (by cases h)
  case m id =>
    obtain ⟨h, e⟩ := bi_some.1 e2
    refine ⟨false, e, fun P t hq σ x y hx hy => ?_⟩
    obtain ⟨c0, c1, c2, c3, _⟩ := eqClass_spec (hq.resolve_left (by omega))
    have ht : tag = 2 := Nat.eq_of_beq_eq_true h
    subst ht
    obtain ⟨kk, el, he⟩ := c2 rfl
    cases hx; cases hy
    exact eq_equal (fun d w => by simp [Op.equalIn, underlying, he]) rfl rfl (fun ⟨_, _, h, _⟩ => (by cases h)) fun ⟨h, _⟩ => (by cases h)
  case f fn a b =>
    obtain ⟨h, e⟩ := bi_some.1 e2
    refine ⟨false, e, fun P t hq σ x y hx hy => ?_⟩
    obtain ⟨c0, c1, c2, c3, _⟩ := eqClass_spec (hq.resolve_left (by omega))
    have ht : tag = 3 := Nat.eq_of_beq_eq_true h
    subst ht
    obtain ⟨k1, k2, k3, he⟩ := c3 rfl
    cases hx; cases hy
    exact eq_equal (fun d w => by simp [Op.equalIn, underlying, he]) rfl rfl (fun ⟨_, _, h, _⟩ => (by cases h)) fun ⟨h, _⟩ => (by cases h)

theorem eqK_some {q : Nat} {a b : V} {k : Bool → R} {r : Res} (e : eqK q a b k = some r) : ∃ z, k z = some r ∧ ∀ P t, (q = 9 ∨ eqClass P t = q) → ∀ σ x y, VR σ a x → VR σ b y → EqGoal P t z x y := by
  cases a
  case i c m =>
    cases b <;> try (exact absurd e (by intro e; cases e))
    case i d n =>
      obtain ⟨h, e1⟩ := bi_some.1 e
      exact ⟨_, e1, fun P t _ σ x y hx hy => eq_int (σ := σ) (by rw [Bool.eq_iff_iff, Nat.beq_eq]; simp; omega) h hx.int_i hy.int_i⟩
    case j d n =>
      obtain ⟨h, e1⟩ := bi_some.1 e
      exact ⟨_, e1, fun P t _ σ x y hx hy => eq_int (σ := σ) (by simp) h hx.int_i hy.int_j⟩
  case j c m =>
    cases b <;> try (exact absurd e (by intro e; cases e))
    case i d n =>
      obtain ⟨h, e1⟩ := bi_some.1 e
      exact ⟨_, e1, fun P t _ σ x y hx hy => eq_int (σ := σ) (by simp) h hx.int_j hy.int_i⟩
    case j d n =>
      obtain ⟨h, e1⟩ := bi_some.1 e
      exact ⟨_, e1, fun P t _ σ x y hx hy => eq_int (σ := σ) (by rw [Bool.eq_iff_iff, Nat.beq_eq]; simp) h hx.int_j hy.int_j⟩
  case s n l =>
    cases b <;> try (exact absurd e (by intro e; cases e))
    case s m p =>
      have e' : k ((Nat.beq l p).rec false (Nat.beq n m)) = some r := by
        have e0 : (Nat.beq l p).rec (motive := fun _ => R) (k false) (k (Nat.beq n m)) = some r := e
        cases hb : Nat.beq l p <;> rw [hb] at e0 <;> exact e0
      refine ⟨_, e', fun P t _ σ x y hx hy => ?_⟩
      cases hx with | s x => cases hy with | s y =>
        rw [← str_eq]
        exact ⟨⟨fun w => by simp [binOp, Op.stringOp], fun w => by simp [binOp, Op.stringOp]⟩, fun ⟨_, _, h, _⟩ => (by cases h), fun ⟨h, _⟩ => (by cases h)⟩
  case b x0 =>
    cases b <;> try (exact absurd e (by intro e; cases e))
    case b y0 =>
      obtain ⟨h, e1⟩ := bi_some.1 e
      have h5 : q = 5 := Nat.eq_of_beq_eq_true h
      have e' : k (x0 == y0) = some r := by
        have e0 : x0.rec (motive := fun _ => R) (k (inot y0)) (k y0) = some r := e1
        cases x0 <;> cases y0 <;> exact e0
      refine ⟨_, e', fun P t hq σ x y hx hy => ?_⟩
      have hu := (eqClass_spec (hq.resolve_left (by omega))).2.2.2.2 h5
      cases hx; cases hy
      exact eq_equal (fun d w => by simp [Op.equalIn, underlying, hu]) rfl rfl (fun ⟨_, _, h, _⟩ => (by cases h)) fun ⟨h, _⟩ => (by cases h)
  all_goals (cases b <;> first | exact absurd e (by intro e; cases e) | exact eqz_some e)

theorem eq_ok : BinOK P t .eql (eqB (eqClass P t)) := by
  intro a b k r e
  obtain ⟨z, e, hz⟩ := eqK_some e
  exact ⟨_, e, fun σ x y hx hy => let ⟨h, g⟩ := hz P t (.inr rfl) σ x y hx hy; ⟨⟨_, h.1, .b z⟩, g⟩⟩
theorem ne_ok : BinOK P t .neq (neB (eqClass P t)) := by
  intro a b k r e
  obtain ⟨z, e, hz⟩ := eqK_some e
  exact ⟨_, e, fun σ x y hx hy => let ⟨h, g⟩ := hz P t (.inr rfl) σ x y hx hy; ⟨⟨_, h.2, by cases z <;> exact .b _⟩, g⟩⟩

theorem no_ok (op : BinOp) : BinOK P t op noB := fun a b k r e => by cases e
theorem binF_ok (op : BinOp) {f : BK} (h : binF P t op = .mk f) : BinOK P t op f := by
  cases op <;> simp only [binF, forceO_eq, Bf.mk.injEq] at h <;> subst h <;>
    first | exact add_ok | exact sub_ok | exact mul_ok | exact quo_ok | exact rem_ok | exact and_ok | exact or_ok | exact no_ok _ | exact shl_ok | exact shr_ok | exact eq_ok | exact ne_ok | exact lss_ok | exact leq_ok | exact gtr_ok | exact geq_ok
end
end Go.Ev
namespace Go.Ev

/-- package-level variables have their numbers -/
def Ctx (P : Program) (σ : Sg) : Prop := ∀ g, g < P.globals.size → ∃ sz, σ g = some (g, sz)
theorem Ctx.mono {P : Program} {σ τ : Sg} (h : Up σ τ) (c : Ctx P σ) : Ctx P τ := fun g hg => let ⟨sz, e⟩ := c g hg; ⟨sz, h _ _ e⟩

theorem selV_eq (d : D16) : selV d = .mk (N.get d) (N.set d) := by cases d <;> rfl
theorem selN_eq (d : D16) : selN d = .mk (N.get d) (N.set d) := by cases d <;> rfl

def Dead (f : F) : Prop := ∀ ih t h k, f ih t h k = none
theorem dead_of {f : F} (e : failC = .mk f) : Dead f := by cases e; exact fun _ _ _ _ => rfl
theorem bcl_inv {x : Bool} {c : Cl} {f : F} (e : bcl x c = .mk f) : Dead f ∨ x = true ∧ c = .mk f := by
  cases x
  · exact .inl (dead_of e)
  · exact .inr ⟨rfl, e⟩
theorem ocl_inv {α : Type} {x : Option α} {k : α → Cl} {f : F} (e : ocl x k = .mk f) : Dead f ∨ ∃ a, x = some a ∧ k a = .mk f := by
  cases x
  · exact .inl (dead_of e)
  · exact .inr ⟨_, rfl, e⟩

theorem cG_inv {nt n : Nat} {k : G → Cl} {f : F} (e : cG nt n k = .mk f) : Dead f ∨ n < nt ∧ k (fun t => getT t n) = .mk f := by
  rcases bcl_inv e with h | ⟨h1, h2⟩
  · exact .inl h
  · refine .inr ⟨by simpa [Nat.blt_eq] using h1, ?_⟩
    rw [selV_eq] at h2
    simp only at h2
    rw [selN_eq] at h2
    exact h2
theorem cS_inv {nt n : Nat} {k : S → Cl} {f : F} (e : cS nt n k = .mk f) : Dead f ∨ n < nt ∧ k (fun v t => setT t n v) = .mk f := by
  rcases bcl_inv e with h | ⟨h1, h2⟩
  · exact .inl h
  · refine .inr ⟨by simpa [Nat.blt_eq] using h1, ?_⟩
    rw [selV_eq] at h2
    simp only at h2
    rw [selN_eq] at h2
    exact h2

/-- what an operation's result does to the temporaries -/
def putT (t : T) (d : Option Tmp) (v : V) : T := match d with | none => t | some n => setT t n v
structure SOK (nt : Nat) (d : Option Tmp) (s : S) : Prop where
  eq : ∀ v t, s v t = putT t d v
  lt : ∀ n, d = some n → n < nt
theorem cD_inv {nt : Nat} {d : Option Tmp} {k : S → Cl} {f : F} (e : cD nt d k = .mk f) : Dead f ∨ ∃ s, SOK nt d s ∧ k s = .mk f := by
  cases d with
  | none => exact .inr ⟨_, ⟨fun v t => rfl, fun n h => by cases h⟩, e⟩
  | some n =>
    rcases cS_inv e with h | ⟨h1, h2⟩
    · exact .inl h
    · exact .inr ⟨_, ⟨fun v t => rfl, fun m h => by cases h; exact h1⟩, h2⟩

theorem TR.put {σ : Sg} {nt : Nat} {t : T} {a : Act} (h : TR σ nt t a.tmps) {d : Option Tmp} {v : V} {x : Value} (hd : ∀ n, d = some n → n < nt) (hv : VR σ v x) : TR σ nt (putT t d v) (a.put d x).tmps := by
  cases d with
  | none => exact h
  | some n =>
    have hn := hd n rfl
    refine ⟨?_, h.few, fun m hm => ?_⟩
    · show (a.tmps.setIfInBounds n x).size = nt; rw [Array.size_setIfInBounds]; exact h.size
    · show VR σ (getT (setT t n v) m) ((a.tmps.setIfInBounds n x).getD m undef)
      rw [getT_setT _ _ _ _ (Nat.lt_of_lt_of_le hn h.few) (Nat.lt_of_lt_of_le hm h.few)]
      by_cases e : m = n
      · subst e
        have hs : m < a.tmps.size := by rw [h.size]; exact hm
        simp [hs, hv]
      · rw [if_neg e]
        have : (a.tmps.setIfInBounds n x).getD m undef = a.tmps.getD m undef := by
          simp only [Array.getD_eq_getD_getElem?]
          rw [Array.getElem?_setIfInBounds_ne (Ne.symm e)]
        rw [this]
        exact h.at_ m hm

/-! ### constants -/
theorem mkI_ok {k : IntKind} {n : Int} {v : V} (e : mkI k n = some v) (σ : Sg) : VR σ v (.int k n) := by
  unfold mkI at e
  rw [forceO_eq] at e
  cases n <;> simp only [forceO_eq] at e <;> cases e
  · exact .i k _
  · exact .j k _
theorem mkS_ok {b : ByteArray} {v : V} (e : mkS (pk b.data.toList) (lenL b.data.toList) = some v) (σ : Sg) : VR σ v (.string b) := by
  unfold mkS at e
  rw [forceO_eq, forceO_eq, lenL_eq] at e
  have : b.data.toList.length = b.size := Array.length_toList
  rw [this] at e
  cases e
  exact .s b
theorem ofScalar_ok {x : Value} {v : V} (e : ofScalar x = some v) (σ : Sg) : VR σ v x := by
  unfold ofScalar at e
  split at e <;> first
    | (cases e; done)
    | exact mkI_ok e σ
    | exact mkS_ok e σ
    | (cases e; constructor)
theorem ofScalars_ok {l : List Value} {v : V} (e : ofScalars l = some v) (σ : Sg) : VRs σ v l := by
  induction l generalizing v with
  | nil => cases e; exact .nil
  | cons x l ih =>
    obtain ⟨a, h1, h2⟩ := ob_some.1 e
    obtain ⟨b, h3, h4⟩ := ob_some.1 h2
    cases h4
    exact .cons (ofScalar_ok h1 σ) (ih h3)
theorem ofValue_ok {x : Value} {v : V} (e : ofValue x = some v) (σ : Sg) : VR σ v x := by
  unfold ofValue at e
  split at e
  · obtain ⟨a, h1, h2⟩ := ob_some.1 e
    rw [forceO_eq, lenL_eq] at h2
    cases h2
    rw [show ∀ a : Array Value, a.toList.length = a.size from fun _ => Array.length_toList]
    exact .a (ofScalars_ok h1 σ)
  · split at e
    · rename_i h
      cases e
      have := Array.toList_eq_nil_iff.1 h
      rw [this]
      exact VR.undef σ
    · cases e
  · exact ofScalar_ok e σ

/-! ### operands -/
def GOK (P : Program) (nt : Nat) (x : Operand) (g : G) : Prop := ∀ (σ : Sg) (t : T) (a : Act), Ctx P σ → TR σ nt t a.tmps → VR σ (g t) (a.eval x)
theorem cO_inv {P : Program} {nt : Nat} {x : Operand} {k : G → Cl} {f : F} (e : cO P nt x k = .mk f) : Dead f ∨ ∃ g, GOK P nt x g ∧ k g = .mk f := by
  cases x with
  | tmp n =>
    rcases cG_inv e with h | ⟨h1, h2⟩
    · exact .inl h
    · exact .inr ⟨_, fun σ t a _ h => h.at_ n h1, h2⟩
  | const v =>
    rcases ocl_inv e with h | ⟨x, h1, h2⟩
    · exact .inl h
    · exact .inr ⟨_, fun σ t a _ _ => ofValue_ok h1 σ, h2⟩
  | global g =>
    rcases bcl_inv e with h | ⟨h1, h2⟩
    · exact .inl h
    · rcases bcl_inv h2 with h | ⟨h3, h4⟩
      · exact .inl h
      · refine .inr ⟨_, fun σ t a c _ => ?_, h4⟩
        obtain ⟨sz, hs⟩ := c g (by simpa [Nat.blt_eq] using h1)
        exact .p hs (by simpa [Nat.blt_eq] using h3)
  | func g => exact .inr ⟨_, fun σ t a _ _ => .f .nil .nil, e⟩

def GsOK (P : Program) (nt : Nat) (l : List Operand) (g : G) : Prop := ∀ (σ : Sg) (t : T) (a : Act), Ctx P σ → TR σ nt t a.tmps → VRs σ (g t) (l.map a.eval)
theorem cOs_inv {P : Program} {nt : Nat} {l : List Operand} {k : G → Cl} {f : F} (e : cOs P nt l k = .mk f) : Dead f ∨ ∃ g, GsOK P nt l g ∧ k g = .mk f := by
  induction l generalizing k with
  | nil => exact .inr ⟨_, fun σ t a _ _ => .nil, e⟩
  | cons x l ih =>
    rcases cO_inv e with h | ⟨g, hg, e1⟩
    · exact .inl h
    · rcases ih e1 with h | ⟨r, hr, e2⟩
      · exact .inl h
      · exact .inr ⟨_, fun σ t a c h => .cons (hg σ t a c h) (hr σ t a c h), e2⟩

/-! ### operations that need no heap -/
/-- what such an operation's closure tells -/
def PureF (P : Program) (nt : Nat) (op : Op) (s : S) (f : F) : Prop := ∀ ih t h k r, f ih t h k = some r → ∃ v, k (s v t) h = some r ∧
  ∀ (σ : Sg) (a : Act), Ctx P σ → TR σ nt t a.tmps → ∀ (dst : Option Tmp) (ty : TypeId) (pos : String) (after : Array Edge) (gd : Option (Nat × Bool)), ∃ v', (∀ w, (execOp a.eval ⟨dst, op, ty, pos, after, gd⟩).run P w = .ok (.value v') w) ∧ VR σ v v'
theorem PureF.dead {P : Program} {nt : Nat} {op : Op} {s : S} {f : F} (h : Dead f) : PureF P nt op s f := fun ih t hh k r e => by rw [h] at e; cases e

section
variable {P : Program} {nt : Nat} {s : S} {f : F}

theorem oMove_ok {x : Operand} {op : Op} (hop : op = .move x ∨ op = .assign x) (e : oMove x P nt s = .mk f) : PureF P nt op s f := by
  rcases cO_inv e with h | ⟨g, hg, e1⟩
  · exact PureF.dead h
  · cases e1
    intro ih t h k r er
    refine ⟨_, er, fun σ a c ht dst ty pos after gd => ⟨a.eval x, fun w => ?_, hg σ t a c ht⟩⟩
    rcases hop with rfl | rfl <;> rfl

theorem boolK_some {v : V} {k : Bool → R} {r : Res} (e : boolK v k = some r) : ∃ x, v = .b x ∧ k x = some r := by
  cases v <;> try (exact absurd e (by intro e; cases e))
  exact ⟨_, rfl, e⟩
theorem numK_some {v : V} {k : Nat → R} {r : Res} (e : numK v k = some r) : ∃ c n, v = .i c n ∧ k n = some r := by
  cases v <;> try (exact absurd e (by intro e; cases e))
  exact ⟨_, _, rfl, e⟩
theorem tupK_some {v : V} {k : KV} {r : Res} (e : tupK v k = some r) : ∃ l, v = .t l ∧ k l = some r := by
  cases v <;> try (exact absurd e (by intro e; cases e))
  exact ⟨_, rfl, e⟩
theorem ptrK_some {v : V} {k : Nat → Nat → R} {r : Res} (e : ptrK v k = some r) : ∃ id off, v = .p id off ∧ k id off = some r := by
  cases v <;> try (exact absurd e (by intro e; cases e))
  exact ⟨_, _, rfl, e⟩
theorem strK_some {v : V} {k : Nat → Nat → R} {r : Res} (e : strK v k = some r) : ∃ n l, v = .s n l ∧ k n l = some r := by
  cases v <;> try (exact absurd e (by intro e; cases e))
  exact ⟨_, _, rfl, e⟩
theorem mapidK_some {v : V} {k : Nat → R} {r : Res} (e : mapidK v k = some r) : ∃ id, v = .m id ∧ k id = some r := by
  cases v <;> try (exact absurd e (by intro e; cases e))
  exact ⟨_, rfl, e⟩

theorem oPick_ok {x y z : Operand} (e : oPick x y z P nt s = .mk f) : PureF P nt (.pick x y z) s f := by
  rcases cO_inv e with h | ⟨gx, hx, e1⟩
  · exact PureF.dead h
  rcases cO_inv e1 with h | ⟨gy, hy, e2⟩
  · exact PureF.dead h
  rcases cO_inv e2 with h | ⟨gz, hz, e3⟩
  · exact PureF.dead h
  cases e3
  intro ih t h k r er
  obtain ⟨b, hb, e4⟩ := boolK_some er
  cases b with
  | true =>
    refine ⟨_, e4, fun σ a c ht dst ty pos after gd => ⟨a.eval y, fun w => ?_, hy σ t a c ht⟩⟩
    have h1 := hx σ t a c ht
    rw [hb] at h1
    cases hv : a.eval x <;> rw [hv] at h1 <;> cases h1
    simp [execOp, hv, asBool]
  | false =>
    refine ⟨_, e4, fun σ a c ht dst ty pos after gd => ⟨a.eval z, fun w => ?_, hz σ t a c ht⟩⟩
    have h1 := hx σ t a c ht
    rw [hb] at h1
    cases hv : a.eval x <;> rw [hv] at h1 <;> cases h1
    simp [execOp, hv, asBool]

theorem eqGuard_run {op : BinOp} {t : TypeId} {x y : Operand} {a b : Value} (h1 : ¬ ∃ c d, a = .agg c ∧ b = .agg d) (h2 : ¬ (a = .nilIface ∧ b = .nilIface)) (w : World) :
    (eqGuard op t x y a b).run P w = .ok () w := by
  unfold eqGuard
  repeat' split
  all_goals first
    | rfl
    | (exact absurd ⟨rfl, rfl⟩ h2)
    | (exact absurd ⟨_, _, rfl, rfl⟩ h1)
    | (simp_all; done)

theorem oBin_ok {op : BinOp} {xt yt : TypeId} {x y : Operand} (e : oBin op xt x y yt P nt s = .mk f) : PureF P nt (.binOp op xt x y yt) s f := by
  rcases cO_inv e with h | ⟨gx, hx, e1⟩
  · exact PureF.dead h
  rcases cO_inv e1 with h | ⟨gy, hy, e2⟩
  · exact PureF.dead h
  cases hf : binF P xt op with
  | mk bf =>
    rw [hf] at e2
    cases e2
    intro ih t h k r er
    obtain ⟨v, e3, hv⟩ := binF_ok op hf _ _ _ _ er
    refine ⟨v, e3, fun σ a c ht dst ty pos after gd => ?_⟩
    obtain ⟨⟨z, hz, hvz⟩, g1, g2⟩ := hv σ _ _ (hx σ t a c ht) (hy σ t a c ht)
    refine ⟨z, fun w => ?_, hvz⟩
    simp only [execOp, Sem.run_bind, eqGuard_run g1 g2, hz, Result.andThen_ok, Sem.run_pure]

end
end Go.Ev
namespace Go.Ev
section
variable {P : Program} {nt : Nat} {s : S} {f : F}

theorem sizeT_run {t : TypeId} {n : Nat} (h : sizeT P t = some n) (w : World) : (sizeOf t).run P w = .ok n w := by
  unfold sizeT at h
  cases hi : P.info? t with
  | none => rw [hi] at h; cases h
  | some i => rw [hi] at h; cases h; simp [sizeOf, typeInfo, hi]
theorem aggT_run {t : TypeId} {b : Bool} (h : aggT P t = some b) (w : World) : (isAgg t).run P w = .ok b w := by
  unfold aggT at h
  cases hu : P.underlying t with
  | none => rw [hu] at h; cases h
  | some d => rw [hu] at h; cases d <;> cases h <;> simp [isAgg, underlying, hu]
theorem shape_spec {t : TypeId} {n : Nat} {b : Bool} (h : shape P t = some (.mk n b)) : sizeT P t = some n ∧ aggT P t = some b := by
  obtain ⟨b', h1, h2⟩ := ob_some.1 h
  obtain ⟨n', h3, h4⟩ := ob_some.1 h2
  rw [forceO_eq] at h4
  cases b' <;> cases h4 <;> exact ⟨h3, h1⟩

theorem part_run {σ : Sg} {t : TypeId} {cs : Array Value} {off n : Nat} {agg : Bool} {x : V} (hs : shape P t = some (.mk n agg)) (h : PartOK σ cs.toList off n agg x) :
    ∃ y, (∀ w, (part t cs off).run P w = .ok y w) ∧ VR σ x y := by
  obtain ⟨h1, h2⟩ := shape_spec hs
  cases agg with
  | true =>
    obtain ⟨g1, g2⟩ := h.1 rfl
    refine ⟨_, fun w => ?_, g2⟩
    unfold part
    simp only [Sem.run_bind, aggT_run h2, Result.andThen_ok, if_true, sizeT_run h1, Sem.run_pure]
    congr 2
    apply Array.toList_inj.1
    rw [Array.toList_extract]
    simp
  | false =>
    obtain ⟨y, g1, g2⟩ := h.2 rfl
    refine ⟨y, fun w => ?_, g2⟩
    rw [Array.getElem?_toList] at g1
    unfold part
    simp [aggT_run h2, g1]

theorem fieldT_spec {xt : TypeId} {k off n : Nat} {b : Bool} (h : fieldT P xt k = some (.mk off n b)) :
    ∃ fs fd, P.underlying xt = some (.struct fs) ∧ fs[k]? = some fd ∧ fd.offset = off ∧ shape P fd.type = some (.mk n b) := by
  unfold fieldT at h
  split at h
  · rename_i fs hu
    obtain ⟨fd, h1, h2⟩ := ob_some.1 h
    obtain ⟨sh, h3, h4⟩ := ob_some.1 h2
    cases sh with | mk m c =>
    have h5 : some (Ar.mk fd.offset m c) = some (.mk off n b) := by simpa using h4
    cases h5
    exact ⟨_, fd, hu, h1, rfl, h3⟩
  · cases h
theorem arrT_spec {xt : TypeId} {n es : Nat} {b : Bool} (h : arrT P xt = some (.mk n es b)) : ∃ e, P.underlying xt = some (.array n e) ∧ shape P e = some (.mk es b) := by
  unfold arrT at h
  split at h
  · rename_i m e hu
    obtain ⟨sh, h3, h4⟩ := ob_some.1 h
    cases sh with | mk q c =>
    have h5 : some (Ar.mk m q c) = some (.mk n es b) := by simpa using h4
    cases h5
    exact ⟨e, hu, h3⟩
  · cases h
theorem elemT_spec {xt : TypeId} {es : Nat} (h : elemT P xt = some es) : ∃ e, P.underlying xt = some (.slice e) ∧ sizeT P e = some es := by
  obtain ⟨e, h1, h2⟩ := ob_some.1 h
  obtain ⟨n, h3, h4⟩ := ob_some.1 h2
  rw [forceO_eq] at h4
  cases h4
  unfold elemI at h1
  split at h1 <;> cases h1
  rename_i hu
  exact ⟨_, hu, h3⟩
theorem strT_spec {t : TypeId} (h : strT P t = true) : P.underlying t = some .string := by
  unfold strT at h
  split at h
  · assumption
  · cases h

/-- what a function of one value does -/
def UnOK (f : V → KV → R) (g : Sg → Value → V → Prop) : Prop := ∀ v k r, f v k = some r → ∃ u, k u = some r ∧ ∀ σ x, VR σ v x → g σ x u

theorem unary_fin {op : UnOp} {x : Operand} {xt : TypeId} {a : Act} {y : Value} (h : ∀ w, (Op.unary op (a.eval x)).run P w = .ok y w) (dst : Option Tmp) (ty : TypeId) (pos : String) (after : Array Edge) (gd : Option (Nat × Bool)) (w : World) :
    (execOp a.eval ⟨dst, .unOp op xt x, ty, pos, after, gd⟩).run P w = .ok (.value y) w := by
  simp only [execOp, Sem.run_bind, h, Result.andThen_ok, Sem.run_pure]

theorem oUn_ok {op : UnOp} {xt : TypeId} {x : Operand} (e : oUn op xt x P nt s = .mk f) : PureF P nt (.unOp op xt x) s f := by
  rcases cO_inv e with h | ⟨g, hg, e1⟩
  · exact PureF.dead h
  have fin : ∀ {uf : V → KV → R}, (∀ v k r, uf v k = some r → ∃ u, k u = some r ∧ ∀ σ z, VR σ v z → ∃ y, (∀ w, (Op.unary op z).run P w = .ok y w) ∧ VR σ u y) → PureF P nt (.unOp op xt x) s fun _ t h k => uf (g t) fun v => k (s v t) h := by
    intro uf H ih t h k r er
    obtain ⟨u, e2, hu⟩ := H _ _ _ er
    refine ⟨u, e2, fun σ a c ht dst ty pos after gd => ?_⟩
    obtain ⟨y, h1, h2⟩ := hu σ _ (hg σ t a c ht)
    exact ⟨y, unary_fin h1 dst ty pos after gd, h2⟩
  cases op with
  | neg =>
    cases e1
    refine fin fun v k r er => ?_
    cases v <;> try (exact absurd er (by intro e; cases e))
    case i c n =>
      obtain ⟨u, h1, h2⟩ := subN_num er
      refine ⟨u, h1, fun σ z hz => ?_⟩
      obtain ⟨kk, hk, rfl⟩ := hz.int_i
      refine ⟨.int kk (0 - (n : Int)), fun w => ?_, (h2 kk hk).2 σ⟩
      have := (h2 kk hk).1
      simp only [Op.unary, Op.intArith, Sem.run_pure]
      exact congrArg (fun q => Result.ok (Value.int kk q) w) this
    case j c n =>
      obtain ⟨u, h1, h2⟩ := posK_num er
      refine ⟨u, h1, fun σ z hz => ?_⟩
      obtain ⟨kk, hk, rfl⟩ := hz.int_j
      refine ⟨.int kk (Int.ofNat (n + 1)), fun w => ?_, (h2 kk hk).2 σ⟩
      have := (h2 kk hk).1
      simp only [Op.unary, Op.intArith, Sem.run_pure]
      have e0 : (0 - Int.negSucc n : Int) = Int.ofNat (n + 1) := by show (0 - Int.negSucc n : Int) = ((n + 1 : Nat) : Int); omega
      rw [e0]
      exact congrArg (fun q => Result.ok (Value.int kk q) w) this
  | xor =>
    cases e1
    refine fin fun v k r er => ?_
    cases v <;> try (exact absurd er (by intro e; cases e))
    case i c n =>
      obtain ⟨h1, er⟩ := bi_some.1 er
      obtain ⟨h2, er⟩ := bi_some.1 er
      have hc : c = 3 := Nat.eq_of_beq_eq_true h1
      have hn : n < 2 := by simpa [Nat.blt_eq] using h2
      refine ⟨_, er, fun σ z hz => ?_⟩
      obtain ⟨kk, hk, rfl⟩ := hz.int_i
      have : kk = .i64 := kindN_inj (by rw [hk, hc]; rfl)
      subst this
      refine ⟨.int .i64 (Int.negSucc n), fun w => ?_, .j .i64 n⟩
      have : n = 0 ∨ n = 1 := by omega
      rcases this with rfl | rfl <;> rfl
  | not =>
    cases e1
    refine fin fun v k r er => ?_
    obtain ⟨b, hb, er⟩ := boolK_some er
    subst hb
    refine ⟨_, er, fun σ z hz => ?_⟩
    cases hz
    exact ⟨.bool (!b), fun w => rfl, by cases b <;> exact .b _⟩
  | plus => cases e1; exact PureF.dead fun _ _ _ _ => rfl

theorem oConv_ok {src dst : TypeId} {x : Operand} (e : oConv src dst x P nt s = .mk f) : PureF P nt (.convert src dst x) s f := by
  rcases cO_inv e with h | ⟨g, hg, e1⟩
  · exact PureF.dead h
  rcases ocl_inv e1 with h | ⟨uf, hu, e2⟩
  · exact PureF.dead h
  cases uf with | mk uf =>
  cases e2
  intro ih t h k r er
  obtain ⟨d0, hs, hu⟩ := ob_some.1 hu
  split at hu
  · rename_i c hd
    rw [forceO_eq] at hu
    cases hu
    have er : convI (kindN c) (g t) (fun v => k (s v t) h) = some r := er
    have fin : ∀ {kk : IntKind} {z : Int} {σ : Sg} {a : Act}, c.wrap z = z → a.eval x = .int kk z → ∀ (dt : Option Tmp) (ty : TypeId) (pos : String) (after : Array Edge) (gd : Option (Nat × Bool)) (w : World),
        (execOp a.eval ⟨dt, .convert src dst x, ty, pos, after, gd⟩).run P w = .ok (.value (.int c z)) w := by
      intro kk z σ a hz hx dt ty pos after gd w
      cases d0 <;> simp [execOp, convert, underlying, hs, hd, hx, Conv.intToInt, hz]
    cases hv : g t <;> rw [hv] at er <;> try (exact absurd er (by intro e; cases e))
    case i c' n =>
      have er : posK (kindN c) n (fun v => k (s v t) h) = some r := er
      obtain ⟨v, e3, hn⟩ := posK_num er
      refine ⟨v, e3, fun σ a cx ht dt ty pos after gd => ?_⟩
      have h1 := hg σ t a cx ht
      rw [hv] at h1
      obtain ⟨kk, hk, hx⟩ := h1.int_i
      exact ⟨_, fin (σ := σ) (hn c rfl).1 hx dt ty pos after gd, (hn c rfl).2 σ⟩
    case j c' n =>
      have er : negK (kindN c) n (fun v => k (s v t) h) = some r := er
      obtain ⟨v, e3, hn⟩ := negK_num er
      refine ⟨v, e3, fun σ a cx ht dt ty pos after gd => ?_⟩
      have h1 := hg σ t a cx ht
      rw [hv] at h1
      obtain ⟨kk, hk, hx⟩ := h1.int_j
      exact ⟨_, fin (σ := σ) (hn c rfl).1 hx dt ty pos after gd, (hn c rfl).2 σ⟩
    case r c' m q =>
      obtain ⟨h1, e3⟩ := bi_some.1 er
      have hle : 256 ≤ topK (kindN c) := Nat.le_of_ble_eq_true h1
      refine ⟨_, e3, fun σ a cx ht dt ty pos after gd => ?_⟩
      have h1 := hg σ t a cx ht
      rw [hv] at h1
      generalize hx : a.eval x = y at h1
      cases h1 with | r kk m n hn =>
        exact ⟨_, fin (σ := σ) (wrap_pos (by omega)) hx dt ty pos after gd, .r c m n hn⟩
  · rename_i hd
    cases hu
    have er : convS (g t) (fun v => k (s v t) h) = some r := er
    cases hv : g t <;> rw [hv] at er <;> try (exact absurd er (by intro e; cases e))
    case s n l =>
      refine ⟨_, er, fun σ a cx ht dt ty pos after gd => ⟨a.eval x, fun w => ?_, ?_⟩⟩
      · have h1 := hg σ t a cx ht
        rw [hv] at h1
        cases hx : a.eval x <;> rw [hx] at h1 <;> cases h1
        cases d0 <;> simp [execOp, convert, underlying, hs, hd, hx]
      · have h1 := hg σ t a cx ht
        rw [hv] at h1; exact h1
  · cases hu

theorem oFunc_ok {fn : Fn} {x y : Array Operand} (e : oFunc fn x y P nt s = .mk f) : PureF P nt (.makeFunc fn x y) s f := by
  unfold oFunc at e
  split at e
  · rcases cOs_inv e with h | ⟨g, hg, e1⟩
    · exact PureF.dead h
    rcases cOs_inv e1 with h | ⟨g2, hg2, e2⟩
    · exact PureF.dead h
    cases e2
    intro ih t h k r er
    refine ⟨_, er, fun σ a c ht dst ty pos after gd => ⟨_, fun w => rfl, .f ?_ ?_⟩⟩
    · have := hg σ t a c ht; simpa using this
    · have := hg2 σ t a c ht; simpa using this
  · exact PureF.dead (dead_of e)

theorem oField_ok {xt : TypeId} {x : Operand} {fd : Nat} (e : oField xt x fd P nt s = .mk f) : PureF P nt (.field xt x fd) s f := by
  rcases cO_inv e with h | ⟨g, hg, e1⟩
  · exact PureF.dead h
  rcases ocl_inv e1 with h | ⟨q, hq, e2⟩
  · exact PureF.dead h
  cases q with | mk off n agg =>
  cases e2
  intro ih t h k r er
  obtain ⟨m, l, e3, hl⟩ := aggK_some er
  obtain ⟨v, e4, hv⟩ := partK_some e3
  refine ⟨v, e4, fun σ a c ht dst ty pos after gd => ?_⟩
  obtain ⟨C, hx, hm, hC⟩ := hl σ _ (hg σ t a c ht)
  obtain ⟨fs, fdd, hu, hf, rfl, hsh⟩ := fieldT_spec hq
  obtain ⟨y, h1, h2⟩ := part_run (cs := C) hsh (hv σ _ hC (by rw [← hm]; exact Array.length_toList))
  refine ⟨y, fun w => ?_, h2⟩
  simp [execOp, Instr.field, underlying, hu, hf, hx, asAgg, h1]

end
end Go.Ev
namespace Go.Ev
section
variable {P : Program} {nt : Nat} {s : S} {f : F}

theorem oExtract_ok {x : Operand} {n : Nat} (e : oExtract x n P nt s = .mk f) : PureF P nt (.extract x n) s f := by
  rcases cO_inv e with h | ⟨g, hg, e1⟩
  · exact PureF.dead h
  cases e1
  intro ih t h k r er
  obtain ⟨l, hl, e2⟩ := tupK_some er
  obtain ⟨v, e3, hv⟩ := nthK_some e2
  refine ⟨v, e3, fun σ a c ht dst ty pos after gd => ?_⟩
  have h1 := hg σ t a c ht
  rw [hl] at h1
  generalize hx : a.eval x = y at h1
  cases h1 with | @t _ c0 h1 =>
  obtain ⟨y, hy, hvy⟩ := hv σ _ h1
  rw [Array.getElem?_toList] at hy
  exact ⟨y, fun w => by simp [execOp, Instr.extract, hx, hy], hvy⟩

theorem indexS_ok {i : Nat} {k : KV} {n l : Nat} {r : Res} (e : indexS i k n l = some r) : ∃ v, k v = some r ∧ ∀ σ b, VR σ (.s n l) (.string b) → ∃ h : i < b.size, VR σ v (.int .u8 (b[i].toNat : Nat)) := by
  obtain ⟨h1, e⟩ := bi_some.1 e
  rw [force_eq] at e
  refine ⟨_, e, fun σ b hb => ?_⟩
  cases hb
  have hi : i < b.size := by simpa [Nat.blt_eq] using h1
  refine ⟨hi, ?_⟩
  have hi2 : i < b.data.toList.length := by rw [Array.length_toList]; exact hi
  have := pk_get i b.data.toList hi2
  have e2 : b[i] = b.data.toList[i] := by simp [ByteArray.getElem_eq_getElem_data]
  rw [e2, this]
  exact .i .u8 _

theorem oIndex_ok {xt : TypeId} {x ix : Operand} (e : oIndex xt x ix P nt s = .mk f) : PureF P nt (.index xt x ix) s f := by
  rcases cO_inv e with h | ⟨g, hg, e1⟩
  · exact PureF.dead h
  rcases cO_inv e1 with h | ⟨gi, hgi, e2⟩
  · exact PureF.dead h
  cases e2
  intro ih t h k r er
  obtain ⟨c, n, hi, e3⟩ := numK_some er
  have e3 : indexK (arrT P xt) (strT P xt) n (fun v => k (s v t) h) (g t) = some r := e3
  cases hv : g t <;> rw [hv] at e3 <;> try (exact absurd e3 (by intro e; cases e))
  case s p l =>
    obtain ⟨hst, e4⟩ := bi_some.1 e3
    obtain ⟨v, e5, hvv⟩ := indexS_ok e4
    refine ⟨v, e5, fun σ a cx ht dst ty pos after gd => ?_⟩
    have h1 := hg σ t a cx ht
    rw [hv] at h1
    have h2 := hgi σ t a cx ht
    rw [hi] at h2
    obtain ⟨kk, hk, h2⟩ := h2.int_i
    generalize hx : a.eval x = y at h1
    have h1' := h1
    cases h1 with | s b =>
    obtain ⟨hlt, h3⟩ := hvv σ b h1'
    refine ⟨_, fun w => ?_, h3⟩
    have hu := strT_spec hst
    have hb : b[n]? = some b[n] := by simp [hlt]
    simp [execOp, Instr.index, asIntOf, underlying, hu, hx, h2, hb]
  case a m l =>
    cases ha : arrT P xt with
    | none => rw [ha] at e3; cases e3
    | some q =>
      rw [ha] at e3
      cases q with | mk len es agg =>
      obtain ⟨hlt, e4⟩ := bi_some.1 e3
      obtain ⟨v, e5, hpv⟩ := partK_some e4
      refine ⟨v, e5, fun σ a cx ht dst ty pos after gd => ?_⟩
      have h1 := hg σ t a cx ht
      rw [hv] at h1
      have h2 := hgi σ t a cx ht
      rw [hi] at h2
      obtain ⟨kk, hk, h2⟩ := h2.int_i
      obtain ⟨el, hu, hsh⟩ := arrT_spec ha
      generalize hx : a.eval x = y at h1
      cases h1 with | @a _ C hC =>
      obtain ⟨z, h3, h4⟩ := part_run (cs := C) hsh (hpv σ _ hC Array.length_toList)
      refine ⟨z, fun w => ?_, h4⟩
      have hlt : n < len := by simpa [Nat.blt_eq] using hlt
      have hsz := sizeT_run (shape_spec hsh).1 w
      have h3 : (part el C (n * es)).run P w = .ok z w := h3 w
      simp only [execOp, Instr.index, asIntOf, Sem.run_bind, h2, Sem.run_pure, Result.andThen_ok, underlying, run_program, hu, hx]
      have c1 : (0 : Int) ≤ Int.ofNat n ∧ Int.ofNat n < (len : Int) := ⟨Int.natCast_nonneg n, by show (n : Int) < len; omega⟩
      rw [if_pos c1]
      simp only [Sem.run_bind, hsz, Result.andThen_ok]
      have : (Int.ofNat n).toNat = n := rfl
      rw [this, h3]; rfl

/-- a bound -/
def BOKb (P : Program) (nt : Nat) (x : Option Operand) (g : Bo) : Prop := ∀ d t q r, g d t q = some r → ∃ n, q n = some r ∧
  ∀ (σ : Sg) (a : Act), Ctx P σ → TR σ nt t a.tmps → match x with
    | none => n = d
    | some x => ∃ k, a.eval x = .int k (Int.ofNat n)
theorem cB_inv {x : Option Operand} {k : Bo → Cl} {f : F} (e : cB P nt x k = .mk f) : Dead f ∨ ∃ g, BOKb P nt x g ∧ k g = .mk f := by
  cases x with
  | none => exact .inr ⟨_, fun d t q r e => ⟨d, e, fun _ _ _ _ => rfl⟩, e⟩
  | some x =>
    rcases cO_inv e with h | ⟨g, hg, e1⟩
    · exact .inl h
    · refine .inr ⟨_, fun d t q r e => ?_, e1⟩
      obtain ⟨c, n, hv, e2⟩ := numK_some e
      refine ⟨n, e2, fun σ a cx ht => ?_⟩
      have h1 := hg σ t a cx ht
      rw [hv] at h1
      obtain ⟨kk, _, h⟩ := h1.int_i
      exact ⟨kk, h⟩

theorem sliceBound_run {k : IntKind} {n y : Nat} {c : BoundsCode} (h : n ≤ y) (w : World) : (Instr.sliceBound (.int k (Int.ofNat n)) y c).run P w = .ok n w := by
  have h1 : (0 : Int) ≤ Int.ofNat n ∧ Int.ofNat n ≤ (y : Int) := ⟨Int.natCast_nonneg n, by show (n : Int) ≤ y; omega⟩
  simp only [Instr.sliceBound, asIntOf, Sem.run_bind, Sem.run_pure, Result.andThen_ok]
  rw [if_pos h1]; rfl

/-- the bounds of a cut -/
theorem bounds_run {nt : Nat} {lo hi : Option Operand} {gl gh : Bo} {a : Act} {isS : Bool} {len cap x y : Nat}
    (h1 : match lo with | none => x = 0 | some o => ∃ k, a.eval o = .int k (Int.ofNat x)) (h2 : match hi with | none => y = len | some o => ∃ k, a.eval o = .int k (Int.ofNat y))
    (hxy : x ≤ y) (hy : y ≤ cap) (w : World) : (Instr.sliceBounds isS len cap (lo.map a.eval) (hi.map a.eval) none).run P w = .ok (x, y, cap) w := by
  cases lo with
  | none =>
    subst h1
    cases hi with
    | none => subst h2; simp [Instr.sliceBounds]
    | some o => obtain ⟨k, hk⟩ := h2; simp only [Instr.sliceBounds, Option.map_some, Option.map_none, hk, Sem.run_bind, Sem.run_pure, Result.andThen_ok, sliceBound_run hy]
  | some p =>
    obtain ⟨kp, hkp⟩ := h1
    cases hi with
    | none => subst h2; simp only [Instr.sliceBounds, Option.map_some, Option.map_none, hkp, Sem.run_bind, Sem.run_pure, Result.andThen_ok, sliceBound_run hxy]
    | some o => obtain ⟨k, hk⟩ := h2; simp only [Instr.sliceBounds, Option.map_some, Option.map_none, hk, hkp, Sem.run_bind, Sem.run_pure, Result.andThen_ok, sliceBound_run hy, sliceBound_run hxy]

theorem oSlice_ok {ty : TypeId} {x : Operand} {lo hi mx : Option Operand} (e : oSlice ty x lo hi mx P nt s = .mk f) : PureF P nt (.slice ty x lo hi mx) s f := by
  cases mx with
  | some m => exact PureF.dead (dead_of e)
  | none =>
    rcases cO_inv e with h | ⟨g, hg, e1⟩
    · exact PureF.dead h
    rcases cB_inv e1 with h | ⟨gl, hgl, e2⟩
    · exact PureF.dead h
    rcases cB_inv e2 with h | ⟨gh, hgh, e3⟩
    · exact PureF.dead h
    cases e3
    intro ih t h k r er
    obtain ⟨p, e4, hp⟩ := hgl _ _ _ _ er
    have e4 : sliceK (strT P ty) (elemT P ty) (fun d => gh d t) p (fun v => k (s v t) h) (g t) = some r := e4
    cases hv : g t <;> rw [hv] at e4 <;> try (exact absurd e4 (by intro e; cases e))
    case s n l =>
      obtain ⟨hst, e5⟩ := bi_some.1 e4
      obtain ⟨q, e6, hq⟩ := hgh _ _ _ _ e5
      obtain ⟨c1, e7⟩ := bi_some.1 e6
      obtain ⟨c2, e8⟩ := bi_some.1 e7
      rw [force_eq, force_eq] at e8
      have c1 : p ≤ q := Nat.le_of_ble_eq_true c1
      have c2 : q ≤ l := Nat.le_of_ble_eq_true c2
      refine ⟨_, e8, fun σ a cx ht dst ty' pos after gd => ?_⟩
      have h1 := hg σ t a cx ht
      rw [hv] at h1
      generalize hx : a.eval x = y at h1
      cases h1 with | s b =>
      have hb := bounds_run (P := P) (isS := false) (gl := gl) (gh := gh) (nt := nt) (hp σ a cx ht) (hq σ a cx ht) c1 c2
      have hu := strT_spec hst
      refine ⟨.string (b.extract p q), fun w => ?_, ?_⟩
      · simp [execOp, Instr.sliceAt, Instr.slice, underlying, hu, hx, hb w]
      · have h3 := VR.s (σ := σ) (b.extract p q)
        have e1 : (b.extract p q).data.toList = (b.data.toList.drop p).take (q - p) := by
          rw [ByteArray.data_extract, Array.toList_extract]
        have e2 : (b.extract p q).size = q - p := by rw [ByteArray.size_extract]; omega
        rw [e1, e2, pk_take, pk_drop] at h3
        exact h3
    case l id off n es =>
      cases hel : elemT P ty with
      | none => rw [hel] at e4; cases e4
      | some ee =>
        rw [hel] at e4
        obtain ⟨hee, e5⟩ := bi_some.1 e4
        have hee : ee = es := Nat.eq_of_beq_eq_true hee
        subst hee
        obtain ⟨q, e6, hq⟩ := hgh _ _ _ _ e5
        obtain ⟨c1, e7⟩ := bi_some.1 e6
        obtain ⟨c2, e8⟩ := bi_some.1 e7
        rw [force_eq, force_eq] at e8
        have c1 : p ≤ q := Nat.le_of_ble_eq_true c1
        have c2 : q ≤ n := Nat.le_of_ble_eq_true c2
        obtain ⟨el, hu, hsz⟩ := elemT_spec hel
        have hsz := sizeT_run hsz
        refine ⟨_, e8, fun σ a cx ht dst ty' pos after gd => ?_⟩
        have h1 := hg σ t a cx ht
        rw [hv] at h1
        generalize hx : a.eval x = y at h1
        cases h1 with
        | @l _ _ _ _ b sz cap hs hi2 hc hfit =>
          have hb := bounds_run (P := P) (isS := true) (gl := gl) (gh := gh) (nt := nt) (cap := cap) (hp σ a cx ht) (hq σ a cx ht) c1 (by omega)
          by_cases hm : cap = p
          · have hq0 : q = p := by omega
            subst hq0
            subst hm
            refine ⟨.slice (some ⟨b, off, none⟩) (cap - cap) (cap - cap), fun w => ?_, ?_⟩
            · simp [execOp, Instr.sliceAt, Instr.slice, underlying, hu, hx, hb w, hsz w]
            · simp only [Nat.sub_self]
              have : Nat.sub cap cap = 0 := Nat.sub_self cap
              rw [this]
              exact .l0 hs hi2
          · refine ⟨.slice (some ⟨b, off + p * ee, none⟩) (q - p) (cap - p), fun w => ?_, ?_⟩
            · simp only [execOp, Instr.sliceAt, Instr.slice, underlying, Sem.run_bind, run_program, Result.andThen_ok, hu, hx, Sem.run_pure, Option.map_none, hb w, hsz w, hm, if_false, Option.map_some, Addr.add]
              by_cases h0 : p * ee = 0 <;> simp [h0]
            · refine .l hs hi2 (show q - p ≤ cap - p by omega) ?_
              have : p * ee + (cap - p) * ee = cap * ee := by rw [← Nat.add_mul]; congr 1; omega
              show off + p * ee + (cap - p) * ee ≤ sz
              rw [Nat.add_assoc, this]; exact hfit
        | @l0 _ _ _ b sz o hs hi2 =>
          have hp0 : p = 0 := by omega
          have hq0 : q = 0 := by omega
          subst hp0; subst hq0
          have hb := bounds_run (P := P) (isS := true) (gl := gl) (gh := gh) (nt := nt) (cap := 0) (hp σ a cx ht) (hq σ a cx ht) c1 (by omega)
          exact ⟨.slice (some ⟨b, o, none⟩) 0 0, fun w => by simp [execOp, Instr.sliceAt, Instr.slice, underlying, hu, hx, hb w, hsz w], .l0 hs hi2⟩
    case z tag =>
      cases hel : elemT P ty with
      | none => rw [hel] at e4; cases e4
      | some ee =>
        rw [hel] at e4
        obtain ⟨q, e6, hq⟩ := hgh _ _ _ _ e4
        obtain ⟨c0, e6⟩ := bi_some.1 e6
        obtain ⟨c1, e7⟩ := bi_some.1 e6
        obtain ⟨c2, e8⟩ := bi_some.1 e7
        have c0 : tag = 1 := Nat.eq_of_beq_eq_true c0
        have c1 : q = 0 := Nat.eq_of_beq_eq_true c1
        have c2 : p = 0 := Nat.eq_of_beq_eq_true c2
        subst c0; subst c1; subst c2
        obtain ⟨el, hu, hsz⟩ := elemT_spec hel
        have hsz := sizeT_run hsz
        refine ⟨_, e8, fun σ a cx ht dst ty' pos after gd => ?_⟩
        have h1 := hg σ t a cx ht
        rw [hv] at h1
        generalize hx : a.eval x = y at h1
        cases h1
        have hb := bounds_run (P := P) (isS := true) (gl := gl) (gh := gh) (nt := nt) (cap := 0) (hp σ a cx ht) (hq σ a cx ht) (Nat.le_refl 0) (by omega)
        exact ⟨.slice none 0 0, fun w => by simp [execOp, Instr.sliceAt, Instr.slice, underlying, hu, hx, hb w, hsz w], .z1⟩

theorem oFieldAddr_ok {st : TypeId} {x : Operand} {fd : Nat} (e : oFieldAddr st x fd P nt s = .mk f) : PureF P nt (.fieldAddr st x fd) s f := by
  rcases cO_inv e with h | ⟨g, hg, e1⟩
  · exact PureF.dead h
  rcases ocl_inv e1 with h | ⟨q, hq, e2⟩
  · exact PureF.dead h
  cases q with | mk off n agg =>
  cases n with
  | zero => exact PureF.dead (dead_of e2)
  | succ n =>
    cases e2
    intro ih t h k r er
    obtain ⟨id, o, hv, e3⟩ := ptrK_some er
    rw [force_eq] at e3
    obtain ⟨fs, fdd, hu, hf, rfl, hsh⟩ := fieldT_spec hq
    have hsz := sizeT_run (shape_spec hsh).1
    refine ⟨_, e3, fun σ a cx ht dst ty pos after gd => ?_⟩
    have h1 := hg σ t a cx ht
    rw [hv] at h1
    generalize hx : a.eval x = y at h1
    cases h1 with | @p _ _ b sz hs hi =>
    refine ⟨.pointer (some ⟨b, o + fdd.offset, none⟩), fun w => ?_, .p hs hi⟩
    simp only [execOp, Instr.fieldAt, underlying, Sem.run_bind, run_program, Result.andThen_ok, hu, Sem.run_pure, hf, hx, Instr.sureAddr, fieldPlace, hsz w, Addr.add]
    by_cases h0 : fdd.offset = 0 <;> simp [h0]

theorem oIndexAddr_ok {ty : TypeId} {x ix : Operand} (e : oIndexAddr ty x ix P nt s = .mk f) : PureF P nt (.indexAddr ty x ix) s f := by
  rcases cO_inv e with h | ⟨g, hg, e1⟩
  · exact PureF.dead h
  rcases cO_inv e1 with h | ⟨gi, hgi, e2⟩
  · exact PureF.dead h
  cases e2
  intro ih t h k r er
  obtain ⟨c, n, hi, e3⟩ := numK_some er
  have e3 : indexA (arrT P ty) (elemT P ty) n (fun v => k (s v t) h) (g t) = some r := e3
  cases hv : g t <;> rw [hv] at e3 <;> try (exact absurd e3 (by intro e; cases e))
  case l id off m es =>
    cases hel : elemT P ty with
    | none => rw [hel] at e3; cases e3
    | some ee =>
      rw [hel] at e3
      obtain ⟨hee, e4⟩ := bi_some.1 e3
      have hee : ee = es := Nat.eq_of_beq_eq_true hee
      subst hee
      obtain ⟨hlt, e5⟩ := bi_some.1 e4
      have hlt : n < m := by simpa [Nat.blt_eq] using hlt
      rw [force_eq] at e5
      obtain ⟨el, hu, hsz⟩ := elemT_spec hel
      have hsz := sizeT_run hsz
      refine ⟨_, e5, fun σ a cx ht dst ty' pos after gd => ?_⟩
      have h1 := hg σ t a cx ht
      rw [hv] at h1
      have h2 := hgi σ t a cx ht
      rw [hi] at h2
      obtain ⟨kk, hk, h2⟩ := h2.int_i
      generalize hx : a.eval x = y at h1
      cases h1 with
      | l0 => omega
      | @l _ _ _ _ b sz cap hs hi2 hc hfit =>
        refine ⟨.pointer (some ⟨b, off + n * ee, none⟩), fun w => ?_, .p hs hi2⟩
        have c1 : (0 : Int) ≤ Int.ofNat n ∧ Int.ofNat n < (m : Int) := ⟨Int.natCast_nonneg n, by show (n : Int) < m; omega⟩
        simp only [execOp, Instr.indexAt, asIntOf, underlying, Sem.run_bind, run_program, Result.andThen_ok, hu, Sem.run_pure, hx, h2, Sem.run_ite, if_pos c1, hsz w, Addr.add]
        have : (Int.ofNat n).toNat = n := rfl
        rw [this]
        by_cases h0 : n * ee = 0 <;> simp [h0]
  case p id off =>
    cases ha : arrT P ty with
    | none => rw [ha] at e3; cases e3
    | some q =>
      rw [ha] at e3
      cases q with | mk len es agg =>
      obtain ⟨hl1, e4⟩ := bi_some.1 e3
      obtain ⟨hlt, e5⟩ := bi_some.1 e4
      have hlt : n < len := by simpa [Nat.blt_eq] using hlt
      rw [force_eq] at e5
      obtain ⟨el, hu, hsh⟩ := arrT_spec ha
      have hsz := sizeT_run (shape_spec hsh).1
      refine ⟨_, e5, fun σ a cx ht dst ty' pos after gd => ?_⟩
      have h1 := hg σ t a cx ht
      rw [hv] at h1
      have h2 := hgi σ t a cx ht
      rw [hi] at h2
      obtain ⟨kk, hk, h2⟩ := h2.int_i
      generalize hx : a.eval x = y at h1
      cases h1 with | @p _ _ b sz hs hi2 =>
        refine ⟨.pointer (some ⟨b, off + n * es, none⟩), fun w => ?_, .p hs hi2⟩
        have c1 : (0 : Int) ≤ Int.ofNat n ∧ Int.ofNat n < (len : Int) := ⟨Int.natCast_nonneg n, by show (n : Int) < len; omega⟩
        simp only [execOp, Instr.indexAt, asIntOf, underlying, Sem.run_bind, run_program, Result.andThen_ok, hu, Sem.run_pure, hx, h2, Instr.sureAddr, Sem.run_ite, if_pos c1, hsz w, Addr.add]
        have : (Int.ofNat n).toNat = n := rfl
        rw [this]
        by_cases h0 : n * es = 0 <;> simp [h0]

theorem oNil_ok {x : Operand} (e : oNil x P nt s = .mk f) : PureF P nt (.nilCheck x) s f := by
  rcases cO_inv e with h | ⟨g, hg, e1⟩
  · exact PureF.dead h
  cases e1
  intro ih t h k r er
  have er : nilC (g t) (fun v => k (s v t) h) = some r := er
  cases hv : g t <;> rw [hv] at er <;> try (exact absurd er (by intro e; cases e))
  refine ⟨_, er, fun σ a cx ht dst ty' pos after gd => ?_⟩
  have h1 := hg σ t a cx ht
  rw [hv] at h1
  refine ⟨a.eval x, fun w => ?_, h1⟩
  generalize hx : a.eval x = y at h1
  cases h1
  simp [execOp, hx]

end
end Go.Ev
namespace Go.Ev
section
variable {P : Program} {nt : Nat} {s : S} {f : F}

theorem zipIdx_fold (vs : List Value) (off : Nat) (k : Nat) (cells : List Value) (h : off + k + vs.length ≤ cells.length) :
    ((vs.zipIdx k).foldl (fun (cs : List Value) (q : Value × Nat) => cs.set (off + q.2) q.1) cells) = cells.take (off + k) ++ (vs ++ cells.drop (off + k + vs.length)) := by
  induction vs generalizing k cells with
  | nil => simp
  | cons v vs ih =>
    simp only [List.length_cons] at h
    rw [List.zipIdx_cons, List.foldl_cons, ih (k + 1) _ (by rw [List.length_set]; omega)]
    have h1 : off + k < cells.length := by omega
    rw [show off + (k + 1) = off + k + 1 from by omega]
    have e1 : (cells.set (off + k) v).take (off + k + 1) = cells.take (off + k) ++ [v] := by
      rw [List.take_add_one, List.take_set_of_le (Nat.le_refl _)]
      simp [h1]
    have e2 : (cells.set (off + k) v).drop (off + k + 1 + vs.length) = cells.drop (off + k + (vs.length + 1)) := by
      rw [List.drop_set_of_lt (by omega)]; congr 1; omega
    rw [e1, e2]; simp

theorem fold_toList (v : Array Value) (off : Nat) (cells : Array Value) :
    (v.zipIdx.foldl (fun (cs : Array Value) (q : Value × Nat) => cs.setIfInBounds (off + q.2) q.1) cells).toList = (v.toList.zipIdx.foldl (fun (cs : List Value) (q : Value × Nat) => cs.set (off + q.2) q.1) cells.toList) := by
  rw [← Array.foldl_toList, Array.toList_zipIdx]
  generalize v.toList.zipIdx = l
  induction l generalizing cells with
  | nil => rfl
  | cons q l ih => rw [List.foldl_cons, List.foldl_cons, ih, Array.toList_setIfInBounds]

/-- what a row of parts does to a row of cells -/
def FillOK (P : Program) (nt : Nat) (ty : TypeId) (ps : List (Nat × Operand)) (g : Fill) : Prop := ∀ t cs q r, g t cs q = some r → ∃ x, q x = some r ∧
  ∀ (σ : Sg) (a : Act) (C : Array Value) (pl : Nat → Option (Nat × Nat)), Ctx P σ → TR σ nt t a.tmps → VRs σ cs C.toList → (∀ i off n, placeT P ty i = some (.mk off n) → pl i = some (off, n)) →
    ∃ D : Array Value, Instr.fill pl C (ps.map fun p => (p.1, a.eval p.2)) = some D ∧ VRs σ x D.toList ∧ D.size = C.size

theorem cFill_inv {ty : TypeId} {ps : List (Nat × Operand)} {k : Fill → Cl} (e : cFill P nt ty ps k = .mk f) : Dead f ∨ ∃ g, FillOK P nt ty ps g ∧ k g = .mk f := by
  induction ps generalizing k with
  | nil => exact .inr ⟨_, fun t cs q r e => ⟨cs, e, fun σ a C pl _ _ h _ => ⟨C, rfl, h, rfl⟩⟩, e⟩
  | cons p ps ih =>
    obtain ⟨i, x⟩ := p
    rcases ocl_inv e with h | ⟨sh, hsh, e1⟩
    · exact .inl h
    cases sh with | mk off n =>
    rcases cO_inv e1 with h | ⟨g, hg, e2⟩
    · exact .inl h
    rcases ih e2 with h | ⟨fl, hfl, e3⟩
    · exact .inl h
    refine .inr ⟨_, fun t cs q r er => ?_, e3⟩
    obtain ⟨m, ys, e4, hm⟩ := cellsK_some er
    obtain ⟨hmn, e5⟩ := bi_some.1 e4
    have hmn : m = n := Nat.eq_of_beq_eq_true hmn
    subst hmn
    obtain ⟨z, e6, hz⟩ := overK_some e5
    obtain ⟨w, e7, hw⟩ := hfl _ _ _ _ e6
    refine ⟨w, e7, fun σ a C pl cx ht hC hpl => ?_⟩
    obtain ⟨h1, h2, _⟩ := hm σ _ (hg σ t a cx ht)
    obtain ⟨h3, h4⟩ := hz σ _ _ h2 hC
    have hp : pl i = some (off, m) := hpl i _ _ hsh
    have hlen : (a.eval x).cells.toList.length = m := by rw [Array.length_toList]; exact h1
    rw [hlen] at h3 h4
    have hfold := fold_toList (a.eval x).cells off C
    have hz0 := zipIdx_fold (a.eval x).cells.toList off 0 C.toList (by rw [hlen]; omega)
    rw [hlen] at hz0
    simp only [Nat.add_zero] at hz0
    rw [hz0] at hfold
    obtain ⟨D, g1, g2, g3⟩ := hw σ a _ pl cx ht (by rw [hfold]; exact h4) hpl
    refine ⟨D, ?_, g2, ?_⟩
    · simp only [List.map_cons, Instr.fill, hp]
      have hl : C.toList.length = C.size := Array.length_toList
      have : ¬ (decide ((a.eval x).cells.size ≠ m) || decide (off + (a.eval x).cells.size > C.size)) = true := by
        rw [h1]; simp; omega
      rw [if_neg this]
      exact g1
    · rw [g3]
      have := congrArg List.length hfold
      rw [Array.length_toList] at this
      rw [this]
      have : C.toList.length = C.size := Array.length_toList
      simp only [List.length_append, List.length_take, List.length_drop, hlen]
      omega

theorem fields_run {ty : TypeId} (h : fieldsOk P ty = true) : ∃ fs, P.underlying ty = some (.struct fs) ∧ ∃ pl : Array (Nat × Nat), (∀ w, (fs.mapM (m := Sem) fun f => do pure (f.offset, ← sizeOf f.type)).run P w = .ok pl w) ∧
    ∀ i off n b, fieldT P ty i = some (.mk off n b) → pl[i]? = some (off, n) := by
  unfold fieldsOk at h
  split at h
  · rename_i fs hu
    refine ⟨fs, hu, fs.map (fun f => (f.offset, P.cellsOf f.type)), fun w => ?_, fun i off n b hf => ?_⟩
    · rw [Array.mapM_eq_mapM_toList]
      have : ∀ (l : List Field), (l.all fun f => (P.info? f.type).isSome) = true → (l.mapM (m := Sem) fun f => do pure (f.offset, ← sizeOf f.type)).run P w = .ok (l.map fun f => (f.offset, P.cellsOf f.type)) w := by
        intro l
        induction l with
        | nil => intro _; rfl
        | cons q l ih =>
          intro hl
          simp only [List.all_cons, Bool.and_eq_true] at hl
          obtain ⟨i, hi⟩ := Option.isSome_iff_exists.1 hl.1
          rw [List.mapM_cons]
          have hs := sizeT_run (P := P) (t := q.type) (n := P.cellsOf q.type) (by simp [sizeT, Program.cellsOf, hi]) w
          simp only [Sem.run_bind, hs, Result.andThen_ok, Sem.run_pure, ih hl.2, List.map_cons]
      rw [Sem.run_map, this _ h]
      simp only [Result.andThen_ok]
      congr 1
      apply Array.toList_inj.1
      rw [Array.toList_map]
    · obtain ⟨fs', fd, hu', hfd, rfl, hsh⟩ := fieldT_spec hf
      rw [hu] at hu'
      cases hu'
      rw [Array.getElem?_map, hfd]
      have hs := (shape_spec hsh).1
      unfold sizeT at hs
      simp [Program.cellsOf, hs]
  · cases h

theorem zeroT_run {t : TypeId} {v : V} (h : zeroT P t = some v) : ∃ z, (∀ w, (zeroValue t).run P w = .ok z w) ∧ ∀ σ, VR σ v z := by
  obtain ⟨i, h1, h2⟩ := ob_some.1 h
  obtain ⟨z, h3, h4⟩ := ob_some.1 h2
  exact ⟨z, fun w => by simp [zeroValue, typeInfo, h1, h3], fun σ => ofValue_ok h4 σ⟩

theorem unA_inv {v : V} {k : Nat → V → Cl} (e : unA v k = .mk f) : Dead f ∨ ∃ n l, v = .a n l ∧ k n l = .mk f := by
  cases v <;> first | exact .inr ⟨_, _, rfl, e⟩ | exact .inl (dead_of e)

theorem oBuild_ok {ty : TypeId} {ps : Array (Nat × Operand)} (e : oBuild ty ps P nt s = .mk f) : PureF P nt (.build ty ps) s f := by
  rcases bcl_inv e with h | ⟨hfs, e1⟩
  · exact PureF.dead h
  rcases ocl_inv e1 with h | ⟨z, hz, e2⟩
  · exact PureF.dead h
  rcases unA_inv e2 with h | ⟨n, zc, rfl, e3⟩
  · exact PureF.dead h
  rcases cFill_inv e3 with h | ⟨fl, hfl, e4⟩
  · exact PureF.dead h
  cases e4
  intro ih t h k r er
  obtain ⟨x, e5, hx⟩ := hfl _ _ _ _ er
  refine ⟨_, e5, fun σ a cx ht dst ty' pos after gd => ?_⟩
  obtain ⟨zv, hz1, hz2⟩ := zeroT_run hz
  have hzv := hz2 σ
  cases hzv with | @a _ C hC0 =>
  have hC : C.size = C.size ∧ VRs σ zc C.toList := ⟨rfl, hC0⟩
  cases harr : arrT P ty with
  | some ar =>
    cases ar with | mk an aes ab =>
    obtain ⟨el, hu, hsh⟩ := arrT_spec harr
    have hsz := sizeT_run (shape_spec hsh).1
    obtain ⟨D, g1, g2, g3⟩ := hx σ a C (fun i => some (i * aes, aes)) cx ht hC.2 (fun i off n hp => by
      unfold placeT at hp
      rw [harr] at hp
      have hp : forceO (Nat.mul i aes) (fun o => some (Pl.mk o aes)) = some (.mk off n) := hp
      rw [forceO_eq] at hp
      cases hp; rfl)
    refine ⟨.agg D, fun w => ?_, ?_⟩
    · simp only [execOp, Instr.build, Sem.run_bind, hz1, Result.andThen_ok, underlying, run_program, hu, Sem.run_pure, hsz, Value.cells, Array.toList_map]
      rw [g1]; rfl
    · have := VR.a g2
      rw [g3, hC.1] at this
      exact this
  | none =>
  have hfs : fieldsOk P ty = true := by unfold buildOk at hfs; rw [harr] at hfs; exact hfs
  obtain ⟨fs, hu, pl, hpl, hpl2⟩ := fields_run hfs
  obtain ⟨D, g1, g2, g3⟩ := hx σ a C (pl[·]?) cx ht hC.2 (fun i off n hp => by
    unfold placeT at hp
    rw [harr] at hp
    obtain ⟨q', hq1, hq2⟩ := ob_some.1 hp
    cases q' with | mk o' n' b' =>
    cases hq2
    exact hpl2 i _ _ _ hq1)
  refine ⟨.agg D, fun w => ?_, ?_⟩
  · simp only [execOp, Instr.build, Sem.run_bind, hz1, Result.andThen_ok, underlying, run_program, hu, Sem.run_pure, hpl, Value.cells, Array.toList_map]
    have : ps.toList.map (fun x => (x.1, a.eval x.2)) = ps.toList.map (fun p => (p.1, a.eval p.2)) := rfl
    rw [g1]; rfl
  · have := VR.a g2
    rw [g3, hC.1] at this
    exact this

theorem maxN_ok {x y : Operand} {g1 g2 : G} (h1 : GOK P nt x g1) (h2 : GOK P nt y g2) {tys : Array TypeId} : PureF P nt (.call ⟨.builtin .max, #[x, y], tys⟩) s fun _ t h k => natK maxN (g1 t) (g2 t) fun v => k (s v t) h := by
  intro ih t h k r er
  obtain ⟨c, m, d, n, hx, hy, hcd, e1⟩ := natK_some er
  have hcd := Nat.eq_of_beq_eq_true hcd
  subst hcd
  have e2 : k (s (if n ≤ m then .i c m else .i c n) t) h = some r := by
    unfold maxN at e1
    by_cases hle : n ≤ m
    · rw [Nat.ble_eq_true_of_le hle] at e1; rw [if_pos hle]; exact e1
    · have : Nat.ble n m = false := by cases hb : Nat.ble n m with | false => rfl | true => exact absurd (Nat.le_of_ble_eq_true hb) hle
      rw [this] at e1; rw [if_neg hle]; exact e1
  refine ⟨_, e2, fun σ a cx ht dst ty pos after gd => ?_⟩
  have v1 := h1 σ t a cx ht
  have v2 := h2 σ t a cx ht
  rw [hx] at v1; rw [hy] at v2
  obtain ⟨k1, hk1, e3⟩ := v1.int_i
  obtain ⟨k2, hk2, e4⟩ := v2.int_i
  have : k2 = k1 := kindN_inj (by rw [hk1, hk2])
  subst this
  refine ⟨.int k2 (if (Int.ofNat n) > (Int.ofNat m) then Int.ofNat n else Int.ofNat m), fun w => ?_, ?_⟩
  · simp only [execOp, resolve, Sem.run_bind, Sem.run_pure, Result.andThen_ok, invoke, builtin, List.map_toArray, List.map_cons, List.map_nil, e3, e4]
    simp [Builtin.max_, Builtin.max2, e3, e4]
  · by_cases hle : n ≤ m
    · rw [if_pos hle, if_neg (by show ¬ ((n : Int) > m); omega), ← hk1]; exact .i _ _
    · rw [if_neg hle, if_pos (by show ((n : Int) > m); omega), ← hk1]; exact .i _ _

theorem minN_ok {x y : Operand} {g1 g2 : G} (h1 : GOK P nt x g1) (h2 : GOK P nt y g2) {tys : Array TypeId} : PureF P nt (.call ⟨.builtin .min, #[x, y], tys⟩) s fun _ t h k => natK minN (g1 t) (g2 t) fun v => k (s v t) h := by
  intro ih t h k r er
  obtain ⟨c, m, d, n, hx, hy, hcd, e1⟩ := natK_some er
  have hcd := Nat.eq_of_beq_eq_true hcd
  subst hcd
  have e2 : k (s (if m ≤ n then .i c m else .i c n) t) h = some r := by
    unfold minN at e1
    by_cases hle : m ≤ n
    · rw [Nat.ble_eq_true_of_le hle] at e1; rw [if_pos hle]; exact e1
    · have : Nat.ble m n = false := by cases hb : Nat.ble m n with | false => rfl | true => exact absurd (Nat.le_of_ble_eq_true hb) hle
      rw [this] at e1; rw [if_neg hle]; exact e1
  refine ⟨_, e2, fun σ a cx ht dst ty pos after gd => ?_⟩
  have v1 := h1 σ t a cx ht
  have v2 := h2 σ t a cx ht
  rw [hx] at v1; rw [hy] at v2
  obtain ⟨k1, hk1, e3⟩ := v1.int_i
  obtain ⟨k2, hk2, e4⟩ := v2.int_i
  have : k2 = k1 := kindN_inj (by rw [hk1, hk2])
  subst this
  refine ⟨.int k2 (if (Int.ofNat n) < (Int.ofNat m) then Int.ofNat n else Int.ofNat m), fun w => ?_, ?_⟩
  · simp only [execOp, resolve, Sem.run_bind, Sem.run_pure, Result.andThen_ok, invoke, builtin, List.map_toArray, List.map_cons, List.map_nil, e3, e4]
    simp [Builtin.min_, Builtin.min2, e3, e4]
  · by_cases hle : m ≤ n
    · rw [if_pos hle, if_neg (by show ¬ ((n : Int) < m); omega), ← hk1]; exact .i _ _
    · rw [if_neg hle, if_pos (by show ((n : Int) < m); omega), ← hk1]; exact .i _ _

theorem slT_spec {t : TypeId} (h : slT P t = true) : ∃ e, P.underlying t = some (.slice e) := by
  unfold slT at h
  split at h
  · exact ⟨_, by assumption⟩
  · cases h

theorem lenK_ok {x : Operand} {g : G} {ty : TypeId} {r0 : List TypeId} (hg : GOK P nt x g) : PureF P nt (.call ⟨.builtin .len, #[x], (ty :: r0).toArray⟩) s fun _ t h k => lenK (strT P ty) (slT P ty) (fun v => k (s v t) h) (g t) := by
  intro ih t h k r er
  have er : lenK (strT P ty) (slT P ty) (fun v => k (s v t) h) (g t) = some r := er
  cases hv : g t <;> rw [hv] at er <;> try (exact absurd er (by intro e; cases e))
  case s n l =>
    obtain ⟨hst, e1⟩ := bi_some.1 er
    refine ⟨_, e1, fun σ a cx ht dst ty' pos after gd => ?_⟩
    have h1 := hg σ t a cx ht
    rw [hv] at h1
    generalize hx : a.eval x = y at h1
    cases h1 with | s b =>
    refine ⟨.int .i64 (Int.ofNat b.size), fun w => ?_, .i .i64 _⟩
    simp [execOp, resolve, invoke, builtin, Builtin.len_, underlying, strT_spec hst, hx, goInt]
  case l id off n es =>
    obtain ⟨hst, e1⟩ := bi_some.1 er
    obtain ⟨el, hu⟩ := slT_spec hst
    refine ⟨_, e1, fun σ a cx ht dst ty' pos after gd => ?_⟩
    have h1 := hg σ t a cx ht
    rw [hv] at h1
    generalize hx : a.eval x = y at h1
    refine ⟨.int .i64 (Int.ofNat n), fun w => ?_, .i .i64 _⟩
    cases h1 <;> simp [execOp, resolve, invoke, builtin, Builtin.len_, underlying, hu, hx, goInt]
  case z tag =>
    obtain ⟨hst, e0⟩ := bi_some.1 er
    obtain ⟨htg, e1⟩ := bi_some.1 e0
    have : tag = 1 := Nat.eq_of_beq_eq_true htg
    subst this
    obtain ⟨el, hu⟩ := slT_spec hst
    refine ⟨_, e1, fun σ a cx ht dst ty' pos after gd => ?_⟩
    have h1 := hg σ t a cx ht
    rw [hv] at h1
    generalize hx : a.eval x = y at h1
    refine ⟨.int .i64 (Int.ofNat 0), fun w => ?_, .i .i64 _⟩
    cases h1; simp [execOp, resolve, invoke, builtin, Builtin.len_, underlying, hu, hx, goInt]

theorem capK_ok {x : Operand} {g : G} {ty : TypeId} {r0 : List TypeId} (hst : slT P ty = true) (hg : GOK P nt x g) : PureF P nt (.call ⟨.builtin .cap, #[x], (ty :: r0).toArray⟩) s fun _ t h k => capK (fun v => k (s v t) h) (g t) := by
  intro ih t h k r er
  have er : capK (fun v => k (s v t) h) (g t) = some r := er
  cases hv : g t <;> rw [hv] at er <;> try (exact absurd er (by intro e; cases e))
  case z tag =>
    obtain ⟨htg, e1⟩ := bi_some.1 er
    have : tag = 1 := Nat.eq_of_beq_eq_true htg
    subst this
    obtain ⟨el, hu⟩ := slT_spec hst
    refine ⟨_, e1, fun σ a cx ht dst ty' pos after gd => ?_⟩
    have h1 := hg σ t a cx ht
    rw [hv] at h1
    generalize hx : a.eval x = y at h1
    refine ⟨.int .i64 (Int.ofNat 0), fun w => ?_, .i .i64 _⟩
    cases h1; simp [execOp, resolve, invoke, builtin, Builtin.cap_, underlying, hu, hx, goInt]

end
end Go.Ev
namespace Go.Ev

def LookF (P : Program) (nt : Nat) (op : Op) (s : S) (f : F) : Prop := ∀ ih t h k r, f ih t h k = some r → ∃ v, k (s v t) h = some r ∧
  ∀ (σ : Sg) (a : Act) (w : World), Ctx P σ → TR σ nt t a.tmps → HeapOK σ h.cl w → ∀ (dst : Option Tmp) (ty : TypeId) (pos : String) (after : Array Edge) (gd : Option (Nat × Bool)), ∃ v', (execOp a.eval ⟨dst, op, ty, pos, after, gd⟩).run P w = .ok (.value v') w ∧ VR σ v v'
def NewF (P : Program) (nt : Nat) (op : Op) (s : S) (f : F) : Prop := ∀ ih t h k r, f ih t h k = some r → ∃ v b h', k (s v t) h' = some r ∧ h.nx < 65536 ∧ h'.nx = h.nx + 1 ∧ (h'.cl = fun x => if x = h.nx then b else h.cl x) ∧
  ∀ (σ : Sg) (a : Act) (w : World), Ctx P σ → TR σ nt t a.tmps → σ h.nx = none → ∀ (dst : Option Tmp) (ty : TypeId) (pos : String) (after : Array Edge) (gd : Option (Nat × Bool)),
    ∃ v' o sz, (execOp a.eval ⟨dst, op, ty, pos, after, gd⟩).run P w = .ok (.value v') (w.alloc o) ∧ VR (newSg σ h.nx w.heap.size sz) v v' ∧ BOK (newSg σ h.nx w.heap.size sz) b sz o
def HeapF (P : Program) (nt : Nat) (op : Op) (s : S) (f : F) : Prop := ∀ ih t h k r, f ih t h k = some r → ∃ v h', k (s v t) h' = some r ∧ h.nx ≤ h'.nx ∧
  ∀ (σ : Sg) (a : Act) (w : World), Ctx P σ → TR σ nt t a.tmps → HeapOK σ h.cl w → Fr σ h.nx h'.nx → ∀ (dst : Option Tmp) (ty : TypeId) (pos : String) (after : Array Edge) (gd : Option (Nat × Bool)),
    ∃ v' σ' w' nxt, (execOp a.eval ⟨dst, op, ty, pos, after, gd⟩).run P w = .ok nxt w' ∧ (nxt = .value v' ∨ nxt = .skip ∧ v' = undef) ∧ SExt σ h w σ' h' w' ∧ HeapOK σ' h'.cl w' ∧ VR σ' v v'

section
variable {P : Program} {nt : Nat} {s : S} {f : F}
theorem LookF.dead {op : Op} (h : Dead f) : LookF P nt op s f := fun ih t hh k r e => by rw [h] at e; cases e
theorem NewF.dead {op : Op} (h : Dead f) : NewF P nt op s f := fun ih t hh k r e => by rw [h] at e; cases e
theorem HeapF.dead {op : Op} (h : Dead f) : HeapF P nt op s f := fun ih t hh k r e => by rw [h] at e; cases e

theorem PureF.look {op : Op} (h : PureF P nt op s f) : LookF P nt op s f := fun ih t hh k r e => by
  obtain ⟨v, h1, h2⟩ := h ih t hh k r e
  exact ⟨v, h1, fun σ a w cx ht _ dst ty pos after gd => let ⟨v', h3, h4⟩ := h2 σ a cx ht dst ty pos after gd; ⟨v', h3 w, h4⟩⟩
theorem LookF.heap {op : Op} (h : LookF P nt op s f) : HeapF P nt op s f := fun ih t hh k r e => by
  obtain ⟨v, h1, h2⟩ := h ih t hh k r e
  exact ⟨v, hh, h1, Nat.le_refl _, fun σ a w cx ht ok _ dst ty pos after gd => let ⟨v', h3, h4⟩ := h2 σ a w cx ht ok dst ty pos after gd; ⟨v', σ, w, _, h3, .inl rfl, SExt.refl _ _ _, ok, h4⟩⟩
theorem NewF.heap {op : Op} (h : NewF P nt op s f) : HeapF P nt op s f := fun ih t hh k r e => by
  obtain ⟨v, b, h', h1, h0, hn, hc, h2⟩ := h ih t hh k r e
  refine ⟨v, h', h1, by omega, fun σ a w cx ht ok fr dst ty pos after gd => ?_⟩
  have free : σ hh.nx = none := fr _ (Nat.le_refl _) (by omega)
  obtain ⟨v', o, sz, h3, h4, h5⟩ := h2 σ a w cx ht free dst ty pos after gd
  obtain ⟨ok', ext⟩ := ok.new free hn hc h5
  exact ⟨v', _, _, _, h3, .inl rfl, ext, ok', h4⟩

theorem add_none (b off j : Nat) : (⟨b, off, none⟩ : Addr).add j = ⟨b, off + j, none⟩ := by
  unfold Addr.add; by_cases h : j = 0 <;> simp [h]

theorem oLoad_ok {ty : TypeId} {x : Operand} (e : oLoad ty x P nt s = .mk f) : LookF P nt (.load ty x) s f := by
  rcases cO_inv e with h | ⟨g, hg, e1⟩
  · exact LookF.dead h
  rcases ocl_inv e1 with h | ⟨sh, hsh, e2⟩
  · exact LookF.dead h
  cases sh with | mk n agg =>
  cases e2
  intro ih t h k r er
  obtain ⟨v, e3, hv⟩ := loadK_some er
  obtain ⟨hsz, hagg⟩ := shape_spec hsh
  refine ⟨v, e3, fun σ a w cx ht ok dst ty' pos after gd => ?_⟩
  obtain ⟨b, off, hp, h1, h2⟩ := hv σ w _ ok (hg σ t a cx ht)
  cases agg with
  | true =>
    obtain ⟨cs, hl, hcs, hvr⟩ := h1 rfl
    refine ⟨.agg cs.toArray, ?_, hvr⟩
    have hrun := run_loadCells_list (P := P) (w := w) ⟨b, off, none⟩ cs (fun j v hj => by rw [add_none]; exact hcs j v hj)
    rw [hl] at hrun
    simp only [execOp, Instr.loadAt, Instr.sureAddr, hp, Sem.run_bind, Sem.run_pure, Result.andThen_ok, loadVar, aggT_run hagg, if_true, sizeT_run hsz, hrun]
  | false =>
    obtain ⟨y, hy, hvr⟩ := h2 rfl
    refine ⟨y, ?_, hvr⟩
    simp only [execOp, Instr.loadAt, Instr.sureAddr, hp, Sem.run_bind, Sem.run_pure, Result.andThen_ok, loadVar, aggT_run hagg, Bool.false_eq_true, if_false, run_load, hy]

/-! ### new blocks -/
theorem new_cells_ok {σ : Sg} {id b n : Nat} {l : V} {C : Array Value} {el : TypeId} (h : VRs σ l C.toList) (hn : C.size = n) (hf : σ id = none) :
    BOK (newSg σ id b n) (.cells n l) n (.cells C el) := by
  refine ⟨C, el, (0, 0), rfl, hn, Nat.le_refl _, ?_, fun j _ hj => by omega⟩
  rw [List.take_of_length_le (by rw [Array.length_toList]; omega)]
  exact h.mono (newSg_up hf)

theorem fold_size (v : Array Value) (off : Nat) (cells : Array Value) : (v.zipIdx.foldl (fun (cs : Array Value) (q : Value × Nat) => cs.setIfInBounds (off + q.2) q.1) cells).size = cells.size := by
  rw [← Array.foldl_toList]
  generalize v.zipIdx.toList = l
  induction l generalizing cells with
  | nil => rfl
  | cons q l ih => rw [List.foldl_cons, ih, Array.size_setIfInBounds]

theorem oAlloc_ok {ty : TypeId} (e : oAlloc ty P nt s = .mk f) : NewF P nt (.alloc ty) s f := by
  rcases ocl_inv e with h | ⟨z, hz, e1⟩
  · exact NewF.dead h
  cases e1
  intro ih t h k r er
  obtain ⟨n, l, e2, hl⟩ := cellsK_some er
  obtain ⟨h0, h', e3, hn, hc⟩ := H.new_some e2
  refine ⟨_, _, h', e3, h0, hn, hc, fun σ a w cx ht hf dst ty' pos after gd => ?_⟩
  obtain ⟨zv, hz1, hz2⟩ := zeroT_run hz
  obtain ⟨c1, c2, _⟩ := hl σ zv (hz2 σ)
  refine ⟨.pointer (some ⟨w.heap.size, 0, none⟩), .cells zv.cells ty, n, ?_, .p (newSg_at _ _ _ _) h0, new_cells_ok c2 c1 hf⟩
  simp only [execOp, Instr.alloc, Sem.run_bind, hz1, Result.andThen_ok, newVar, newRow, run_newObj, Sem.run_pure, World.alloc_eq]

theorem oBox_ok {ty : TypeId} {x : Operand} (e : oBox ty x P nt s = .mk f) : NewF P nt (.box ty x) s f := by
  rcases cO_inv e with h | ⟨g, hg, e1⟩
  · exact NewF.dead h
  cases e1
  intro ih t h k r er
  obtain ⟨n, l, e2, hl⟩ := cellsK_some er
  obtain ⟨h0, h', e3, hn, hc⟩ := H.new_some e2
  refine ⟨_, _, h', e3, h0, hn, hc, fun σ a w cx ht hf dst ty' pos after gd => ?_⟩
  obtain ⟨c1, c2, _⟩ := hl σ _ (hg σ t a cx ht)
  refine ⟨.pointer (some ⟨w.heap.size, 0, none⟩), .cells (a.eval x).cells ty, n, ?_, .p (newSg_at _ _ _ _) h0, new_cells_ok c2 c1 hf⟩
  simp only [execOp, Instr.box, Sem.run_bind, Result.andThen_ok, newVar, newRow, run_newObj, Sem.run_pure, World.alloc_eq]

theorem elemI_spec {ty e : TypeId} (h : elemI P ty = some e) : P.underlying ty = some (.slice e) := by
  unfold elemI at h
  split at h <;> cases h
  assumption

/-- parts of a slice, in order, each of its size -/
def PartsOK (P : Program) (nt es : Nat) (ps : List (Nat × Operand)) (i : Nat) (g : Parts) : Prop := ∀ t q r, g t q = some r → ∃ x, q x = some r ∧
  ∀ (σ : Sg) (a : Act), Ctx P σ → TR σ nt t a.tmps → ∃ l : List Value, VRs σ x l ∧ l.length = ps.length * es ∧
    ∀ C : Array Value, C.size = (i + ps.length) * es → ∃ D : Array Value, Instr.fill (fun i => some (i * es, es)) C (ps.map fun p => (p.1, a.eval p.2)) = some D ∧ D.toList = C.toList.take (i * es) ++ l
theorem cParts_inv {es : Nat} {ps : List (Nat × Operand)} {i : Nat} {k : Parts → Cl} (e : cParts P nt es ps i k = .mk f) : Dead f ∨ ∃ g, PartsOK P nt es ps i g ∧ k g = .mk f := by
  induction ps generalizing k i with
  | nil =>
    refine .inr ⟨_, fun t q r e => ⟨_, e, fun σ a _ _ => ⟨[], .nil, by simp, fun C hC => ⟨C, rfl, ?_⟩⟩⟩, e⟩
    rw [List.take_of_length_le (by rw [Array.length_toList, hC]; simp)]; simp
  | cons p ps ih =>
    obtain ⟨j, x⟩ := p
    rcases bcl_inv e with h | ⟨hij, e1⟩
    · exact .inl h
    have hij : i = j := Nat.eq_of_beq_eq_true hij
    subst hij
    rcases cO_inv e1 with h | ⟨g, hg, e2⟩
    · exact .inl h
    rcases ih e2 with h | ⟨fl, hfl, e3⟩
    · exact .inl h
    refine .inr ⟨_, fun t q r er => ?_, e3⟩
    obtain ⟨m, ys, e4, hm⟩ := cellsK_some er
    obtain ⟨hmn, e5⟩ := bi_some.1 e4
    have hmn : m = es := Nat.eq_of_beq_eq_true hmn
    subst hmn
    obtain ⟨z, e6, hz⟩ := hfl _ _ _ e5
    refine ⟨_, e6, fun σ a cx ht => ?_⟩
    obtain ⟨h1, h2, _⟩ := hm σ _ (hg σ t a cx ht)
    obtain ⟨l, g1, g2, g3⟩ := hz σ a cx ht
    have hlen : (a.eval x).cells.toList.length = m := by rw [Array.length_toList]; exact h1
    refine ⟨(a.eval x).cells.toList ++ l, h2.app g1, by rw [List.length_append, hlen, g2, List.length_cons, Nat.succ_mul]; omega, fun C hC => ?_⟩
    rw [List.length_cons] at hC
    have hCl : C.toList.length = C.size := Array.length_toList
    have hsum : (i + (ps.length + 1)) * m = i * m + ps.length * m + m := by rw [Nat.add_mul, Nat.succ_mul]; omega
    have hfold := fold_toList (a.eval x).cells (i * m) C
    have hz0 := zipIdx_fold (a.eval x).cells.toList (i * m) 0 C.toList (by rw [hlen, hCl, hC, hsum]; omega)
    rw [hlen] at hz0
    simp only [Nat.add_zero] at hz0
    rw [hz0] at hfold
    have hsz := fold_size (a.eval x).cells (i * m) C
    obtain ⟨D, d1, d2⟩ := g3 _ (by rw [hsz, hC]; show _ = (i + 1 + ps.length) * m; rw [show i + 1 + ps.length = i + (ps.length + 1) by omega])
    refine ⟨D, ?_, ?_⟩
    · simp only [List.map_cons, Instr.fill]
      have : ¬ (decide ((a.eval x).cells.size ≠ m) || decide (i * m + (a.eval x).cells.size > C.size)) = true := by
        rw [h1, hC, hsum]; simp <;> omega
      rw [if_neg this]; exact d1
    · rw [d2, hfold, Nat.succ_mul, ← List.append_assoc, List.take_left' (by rw [List.length_append, List.length_take, hlen, hCl, hC, hsum]; omega), List.append_assoc]


theorem oBuildSlice_ok {ty : TypeId} {n : Nat} {ps : Array (Nat × Operand)} (e : oBuildSlice ty n ps P nt s = .mk f) : NewF P nt (.buildSlice ty n ps) s f := by
  rcases ocl_inv e with h | ⟨es, hes, e1⟩
  · exact NewF.dead h
  rcases bcl_inv e1 with h | ⟨hlen, e2⟩
  · exact NewF.dead h
  rcases bcl_inv e2 with h | ⟨hsm, e3⟩
  · exact NewF.dead h
  rcases ocl_inv e3 with h | ⟨z, hz, e4⟩
  · exact NewF.dead h
  rcases cParts_inv e4 with h | ⟨g, hg, e5⟩
  · exact NewF.dead h
  cases e5
  intro ih t h k r er
  obtain ⟨cs, e6, hcs⟩ := hg _ _ _ er
  rw [force_eq] at e6
  obtain ⟨h0, h', e7, hn, hc⟩ := H.new_some e6
  have hlen : ps.toList.length = n := by rw [← lenL_eq]; exact Nat.eq_of_beq_eq_true hlen
  have hsm : n * es < 65536 := by simpa [Nat.blt_eq] using hsm
  obtain ⟨el, hu, hsz⟩ := elemT_spec hes
  obtain ⟨el', hel', hz'⟩ := ob_some.1 hz
  have : el' = el := by have := elemI_spec hel'; rw [hu] at this; cases this; rfl
  subst this
  obtain ⟨zv, hz1, hz2⟩ := zeroT_run hz'
  refine ⟨_, _, h', e7, h0, hn, hc, fun σ a w cx ht hf dst ty' pos after gd => ?_⟩
  obtain ⟨l, g1, g2, g3⟩ := hcs σ a cx ht
  rw [hlen] at g2 g3
  have hlim : ¬ (n * es > 2 ^ 24) := by omega
  have fin : ∀ z0 : Array Value, (∀ D : Array Value, Instr.fill (fun i => some (i * es, es)) ((Array.range (n * es)).map (z0[· % z0.size]!)) (ps.toList.map fun p => (p.1, a.eval p.2)) = some D →
      (execOp a.eval ⟨dst, .buildSlice ty n ps, ty', pos, after, gd⟩).run P w = .ok (.value (.slice (some ⟨w.heap.size, 0, none⟩) n n)) (w.alloc (.cells D el'))) →
      ∃ v' o sz, (execOp a.eval ⟨dst, .buildSlice ty n ps, ty', pos, after, gd⟩).run P w = .ok (.value v') (w.alloc o) ∧ VR (newSg σ h.nx w.heap.size sz) (.l h.nx 0 n es) v' ∧ BOK (newSg σ h.nx w.heap.size sz) (.cells (Nat.mul n es) cs) sz o := by
    intro z0 hr
    obtain ⟨D, d1, d2⟩ := g3 ((Array.range (n * es)).map (z0[· % z0.size]!)) (by simp)
    simp only [Nat.zero_mul, List.take_zero, List.nil_append] at d2
    have hDs : D.size = n * es := by have := congrArg List.length d2; rw [Array.length_toList, g2] at this; exact this
    exact ⟨_, _, n * es, hr D d1, .l (newSg_at _ _ _ _) h0 (Nat.le_refl _) (by omega), new_cells_ok (by rw [d2]; exact g1) hDs hf⟩
  by_cases hb : n * es = 0
  · refine fin #[] fun D hD => ?_
    simp only [execOp, Instr.buildSlice, Sem.run_bind, underlying, run_program, Result.andThen_ok, hu, Sem.run_pure, sizeT_run hsz, hlim, if_false, if_pos hb, Array.toList_map]
    rw [hD]
    simp [newRow]
  · refine fin zv.cells fun D hD => ?_
    simp only [execOp, Instr.buildSlice, Sem.run_bind, underlying, run_program, Result.andThen_ok, hu, Sem.run_pure, sizeT_run hsz, hlim, if_false, if_neg hb, hz1, Array.toList_map]
    rw [hD]
    simp [newRow]

theorem rep_rel {σ : Sg} {zc : V} {zs : List Value} (h : VRs σ zc zs) (n : Nat) : VRs σ (rep zc n) ((List.range (n * zs.length)).map fun i => zs.getD (i % zs.length) undef) := by
  induction n with
  | zero => simp [rep]; exact .nil
  | succ n ih =>
    have e : (List.range ((n + 1) * zs.length)).map (fun i => zs.getD (i % zs.length) undef) = zs ++ (List.range (n * zs.length)).map fun i => zs.getD (i % zs.length) undef := by
      rw [Nat.succ_mul, Nat.add_comm, List.range_add, List.map_append, List.map_map]
      congr 1
      · apply List.ext_getElem?
        intro i
        rw [List.getElem?_map]
        by_cases hi : i < zs.length
        · rw [List.getElem?_range hi, Option.map_some, Nat.mod_eq_of_lt hi, List.getD_eq_getElem?_getD, List.getElem?_eq_getElem hi]; rfl
        · rw [List.getElem?_eq_none (by rw [List.length_range]; omega), List.getElem?_eq_none (by omega)]; rfl
      · apply List.map_congr_left
        intro i _
        show zs.getD ((zs.length + i) % zs.length) undef = _
        rw [Nat.add_mod_left]
    rw [e]
    exact h.app ih

theorem oMakeSlice_ok {ty : TypeId} {x y : Operand} (e : oMakeSlice ty x y P nt s = .mk f) : NewF P nt (.makeSlice ty x y) s f := by
  rcases ocl_inv e with h | ⟨es, hes, e1⟩
  · exact NewF.dead h
  rcases bcl_inv e1 with h | ⟨hfew, e2⟩
  · exact NewF.dead h
  rcases ocl_inv e2 with h | ⟨z, hz, e3⟩
  · exact NewF.dead h
  rcases cO_inv e3 with h | ⟨gl, hgl, e4⟩
  · exact NewF.dead h
  rcases cO_inv e4 with h | ⟨gc, hgc, e5⟩
  · exact NewF.dead h
  cases e5
  intro ih t h k r er
  obtain ⟨c1, n, hn1, e6⟩ := numK_some er
  obtain ⟨c2, m, hm1, e7⟩ := numK_some e6
  obtain ⟨hnm, e8⟩ := bi_some.1 e7
  obtain ⟨hsm, e9⟩ := bi_some.1 e8
  obtain ⟨zn, zc, e10, hzc⟩ := cellsK_some e9
  obtain ⟨hzn, e11⟩ := bi_some.1 e10
  rw [force_eq] at e11
  obtain ⟨h0, h', e12, hn, hc⟩ := H.new_some e11
  have hnm : n = m := Nat.eq_of_beq_eq_true hnm
  subst hnm
  have hzn : es = zn := (Nat.eq_of_beq_eq_true hzn).symm
  subst hzn
  have hsm : n < 65536 := by simpa [Nat.blt_eq] using hsm
  obtain ⟨el, hu, hsz⟩ := elemT_spec hes
  obtain ⟨el', hel', hz'⟩ := ob_some.1 hz
  have : el' = el := by have := elemI_spec hel'; rw [hu] at this; cases this; rfl
  subst this
  obtain ⟨zv, hz1, hz2⟩ := zeroT_run hz'
  refine ⟨_, _, h', e12, h0, hn, hc, fun σ a w cx ht hf dst ty' pos after gd => ?_⟩
  obtain ⟨z1, z2, _⟩ := hzc σ zv (hz2 σ)
  have hx := hgl σ t a cx ht
  rw [hn1] at hx
  obtain ⟨k1, _, hx⟩ := hx.int_i
  have hy := hgc σ t a cx ht
  rw [hm1] at hy
  obtain ⟨k2, _, hy⟩ := hy.int_i
  have hin : ∃ i, P.info? el' = some i ∧ 1 ≤ i.bytes ∧ i.bytes ≤ 4096 := by
    unfold fewT at hfew
    rw [hel'] at hfew
    simp only at hfew
    split at hfew
    · rename_i i hi
      simp only [Bool.and_eq_true] at hfew
      exact ⟨i, hi, Nat.le_of_ble_eq_true hfew.1, Nat.le_of_ble_eq_true hfew.2⟩
    · cases hfew
  obtain ⟨i, hi, hb1, hb2⟩ := hin
  have hw : IntKind.i64.wrap (Int.ofNat n) = Int.ofNat n := wrap_pos (k := .i64) (by rw [top_eq]; show n < 9223372036854775808; omega)
  have hlarge : (i.bytes : Int) * (n : Int) ≤ 2 ^ 48 := by
    have h1 : (i.bytes * n : Nat) ≤ 4096 * 65536 := Nat.mul_le_mul hb2 (by omega)
    have h2 : (i.bytes : Int) * (n : Int) = ((i.bytes * n : Nat) : Int) := by simp
    rw [h2]; omega
  have hmain : ∀ z0 : Array Value, (n * es ≠ 0 → z0 = zv.cells) → VRs σ (rep zc n) ((Array.range (n * es)).map (z0[· % z0.size]!)).toList := by
    intro z0 hzz
    have h1 := rep_rel z2 n
    rw [Array.length_toList, z1] at h1
    by_cases hb : n * es = 0
    · rw [hb] at h1 ⊢; simpa using h1
    · rw [hzz hb]
      have : ((Array.range (n * es)).map (zv.cells[· % zv.cells.size]!)).toList = (List.range (n * es)).map fun i => zv.cells.toList.getD (i % es) undef := by
        rw [Array.toList_map, Array.toList_range]
        apply List.map_congr_left
        intro j hj
        have hes0 : 0 < es := by rcases Nat.eq_zero_or_pos es with h | h; (· subst h; simp at hb); exact h
        have hlt : j % es < zv.cells.size := by rw [z1]; exact Nat.mod_lt _ hes0
        rw [List.getD_eq_getElem?_getD, Array.getElem?_toList, Array.getElem?_eq_getElem hlt]
        simp only [z1, Option.getD_some]
        simp [hlt]
      rw [this]; exact h1
  have fin : ∀ z0 : Array Value, (n * es ≠ 0 → z0 = zv.cells) → (execOp a.eval ⟨dst, .makeSlice ty x y, ty', pos, after, gd⟩).run P w = .ok (.value (.slice (some ⟨w.heap.size, 0, none⟩) n n)) (w.alloc (.cells ((Array.range (n * es)).map (z0[· % z0.size]!)) el')) →
      ∃ v' o sz, (execOp a.eval ⟨dst, .makeSlice ty x y, ty', pos, after, gd⟩).run P w = .ok (.value v') (w.alloc o) ∧ VR (newSg σ h.nx w.heap.size sz) (.l h.nx 0 n es) v' ∧ BOK (newSg σ h.nx w.heap.size sz) (.cells (Nat.mul n es) (rep zc n)) sz o := by
    intro z0 hzz hr
    exact ⟨_, _, n * es, hr, .l (newSg_at _ _ _ _) h0 (Nat.le_refl _) (by show 0 + n * es ≤ n * es; omega), new_cells_ok (hmain z0 hzz) (by simp) hf⟩
  have t1 : ¬ ((n : Int) < 0) := by omega
  have t2 : decide ((i.bytes : Int) * Int.ofNat n > 2 ^ 48) = false := by
    simp only [decide_eq_false_iff_not]
    show ¬ ((i.bytes : Int) * (n : Int) > 2 ^ 48); omega
  have t3 : decide (Int.ofNat n > Int.ofNat n) = false := by simp
  have t4 : decide (Int.ofNat n < 0) = false := by simp only [decide_eq_false_iff_not]; exact t1
  have t5 : (Int.ofNat n).toNat = n := rfl
  by_cases hb : n * es = 0
  · refine fin #[] (fun h => absurd hb h) ?_
    simp only [execOp, Instr.makeSlice, Sem.run_bind, underlying, run_program, Result.andThen_ok, hu, Sem.run_pure, hx, hy, asInt, asIntOf, typeInfo, hi, hw, t2, t3, t4, Bool.or_self, Bool.false_eq_true, if_false, run_askRoom, sizeT_run hsz, t5, if_pos hb, newRow, run_newObj, World.alloc_eq]
  · refine fin zv.cells (fun _ => rfl) ?_
    simp only [execOp, Instr.makeSlice, Sem.run_bind, underlying, run_program, Result.andThen_ok, hu, Sem.run_pure, hx, hy, asInt, asIntOf, typeInfo, hi, hw, t2, t3, t4, Bool.or_self, Bool.false_eq_true, if_false, run_askRoom, sizeT_run hsz, t5, if_neg hb, hz1, newRow, run_newObj, World.alloc_eq]

theorem oMakeMap_ok {ty : TypeId} {x : Option Operand} (e : oMakeMap ty x P nt s = .mk f) : NewF P nt (.makeMap ty x) s f := by
  cases x with
  | some x => exact NewF.dead (dead_of e)
  | none =>
    cases e
    intro ih t h k r er
    obtain ⟨h0, h', e1, hn, hc⟩ := H.new_some er
    refine ⟨_, _, h', e1, h0, hn, hc, fun σ a w cx ht hf dst ty' pos after gd => ?_⟩
    refine ⟨.map (some w.heap.size), .map #[] 0, 0, ?_, .m (newSg_at _ _ _ _) h0, ⟨#[], 0, rfl, .nil⟩⟩
    simp [execOp, Instr.makeMap]

theorem oRange_ok {ty : TypeId} {x : Operand} (e : oRange ty x P nt s = .mk f) : NewF P nt (.range ty x) s f := by
  rcases bcl_inv e with h | ⟨hst, e1⟩
  · exact NewF.dead h
  rcases cO_inv e1 with h | ⟨g, hg, e2⟩
  · exact NewF.dead h
  cases e2
  intro ih t h k r er
  obtain ⟨n, l, hv, e3⟩ := strK_some er
  obtain ⟨h0, h', e4, hn, hc⟩ := H.new_some e3
  refine ⟨_, _, h', e4, h0, hn, hc, fun σ a w cx ht hf dst ty' pos after gd => ?_⟩
  have h1 := hg σ t a cx ht
  rw [hv] at h1
  generalize hx : a.eval x = y at h1
  cases h1 with | s b =>
  refine ⟨.pointer (some ⟨w.heap.size, 0, none⟩), .stringIter b 0, 0, ?_, .p (newSg_at _ _ _ _) h0, ⟨b, rfl, rfl, rfl⟩⟩
  simp [execOp, Instr.range, underlying, strT_spec hst, hx]

end
end Go.Ev
namespace Go.Ev
section
variable {P : Program} {nt : Nat} {s : S} {f : F}

theorem oneV1_ok {v : V} (h : oneV1 v = true) {σ : Sg} {x : Value} (g : VR σ v x) : x.oneCell' = true := by
  cases g <;> first | rfl | (cases h)
theorem ones_ok {v : V} (h : ones v = true) {σ : Sg} {l : List Value} (g : VRs σ v l) : ∀ x, x ∈ l → x.oneCell' = true := by
  induction l generalizing v with
  | nil => intro x hx; cases hx
  | cons a l ih =>
    cases g with | @cons x r _ _ hx hr =>
    have h' : (oneV1 x).rec false (ones r) = true := h
    cases h1 : oneV1 x <;> rw [h1] at h'
    · cases h'
    · intro y hy
      rcases List.mem_cons.1 hy with e | hy
      · rw [e]; exact oneV1_ok h1 hx
      · exact ih h' hr y hy

/-- a row of cells is written over a row -/
theorem store_run {b off : Nat} : ∀ (vs : List Value) (i : Nat) (w : World) (C : Array Value) (el : TypeId) (fr : Nat × Nat), w.heap[b]? = some (.cells C el fr) → off + i + vs.length ≤ C.size →
    (∀ j, j < C.size → ¬ (fr.1 ≤ j ∧ j < fr.2)) → (∀ x, x ∈ vs → x.oneCell' = true) →
    ∃ w' D, (storeCells ⟨b, off, none⟩ vs i).run P w = .ok () w' ∧ w'.heap.size = w.heap.size ∧ w'.heap[b]? = some (.cells D el fr) ∧ D.toList = C.toList.take (off + i) ++ (vs ++ C.toList.drop (off + i + vs.length)) ∧ D.size = C.size ∧
      (∀ b', b' ≠ b → w'.heap[b']? = w.heap[b']?) ∧ Same w w' := by
  intro vs
  induction vs with
  | nil => intro i w C el fr hw _ _ _; exact ⟨w, C, rfl, rfl, hw, by simp, rfl, fun _ _ => rfl, Same.refl _⟩
  | cons v vs ih =>
    intro i w C el fr hw hlen hfr hone
    rw [List.length_cons] at hlen
    have hlt : off + i < C.size := by omega
    have hcell : w.cell? ⟨b, off + i, none⟩ = some C[off + i] := by simp [World.cell?, hw, hlt]
    have hfro : w.frozen? ⟨b, off + i, none⟩ = false := by
      simp only [World.frozen?, hw]
      have := hfr _ hlt
      simpa using this
    have h1 : (store ((⟨b, off, none⟩ : Addr).add i) v).run P w = .ok () (w.setCell ⟨b, off + i, none⟩ v) := by
      rw [add_none, run_store P w _ v _ (hone v (List.mem_cons_self))]
      simp [hcell, hfro]
    have hb : b < w.heap.size := (Array.getElem?_eq_some_iff.1 hw).1
    have hw1 : (w.setCell ⟨b, off + i, none⟩ v).heap[b]? = some (.cells (C.setIfInBounds (off + i) v) el fr) := by
      simp [World.setCell, Array.getElem?_modify, hw]
    have ho1 : ∀ b', b' ≠ b → (w.setCell ⟨b, off + i, none⟩ v).heap[b']? = w.heap[b']? := by
      intro b' hne
      simp [World.setCell, Array.getElem?_modify, Ne.symm hne]
    obtain ⟨w', D, g1, g2, g3, g4, g5, g6, g7⟩ := ih (i + 1) _ (C.setIfInBounds (off + i) v) el fr hw1 (by rw [Array.size_setIfInBounds]; omega) (by rw [Array.size_setIfInBounds]; exact hfr) (fun x hx => hone x (List.mem_cons_of_mem _ hx))
    refine ⟨w', D, ?_, by rw [g2]; simp, g3, ?_, by rw [g5, Array.size_setIfInBounds], fun b' hne => by rw [g6 b' hne, ho1 b' hne], Same.trans (show Same w (w.setCell ⟨b, off + i, none⟩ v) from ⟨rfl, rfl, rfl⟩) g7⟩
    · unfold storeCells
      simp only [Sem.run_bind, h1, Result.andThen_ok]
      exact g1
    · rw [g4, Array.toList_setIfInBounds]
      have hl : C.toList.length = C.size := Array.length_toList
      have e1 : (C.toList.set (off + i) v).take (off + (i + 1)) = C.toList.take (off + i) ++ [v] := by
        rw [show off + (i + 1) = off + i + 1 by omega, List.take_add_one, List.take_set_of_le (Nat.le_refl _)]
        simp [hlt]
      have e2 : (C.toList.set (off + i) v).drop (off + (i + 1) + vs.length) = C.toList.drop (off + i + (vs.length + 1)) := by
        rw [List.drop_set_of_lt (by omega)]; congr 1; omega
      rw [e1, e2]; simp

theorem take_over {α : Type} (c a : List α) (off m : Nat) (h : off + a.length ≤ m) (hm : m ≤ c.length) :
    (c.take off ++ (a ++ c.drop (off + a.length))).take m = (c.take m).take off ++ (a ++ (c.take m).drop (off + a.length)) := by
  obtain ⟨x, y, rfl, hx⟩ : ∃ x y, c = x ++ y ∧ x.length = m := ⟨c.take m, c.drop m, (List.take_append_drop m c).symm, by rw [List.length_take]; omega⟩
  have e1 : (x ++ y).take off = x.take off := List.take_append_of_le_length (by omega)
  have e2 : (x ++ y).drop (off + a.length) = x.drop (off + a.length) ++ y := List.drop_append_of_le_length (by omega)
  have e3 : (x ++ y).take m = x := List.take_left' hx
  rw [e1, e2, e3]
  have : (x.take off ++ (a ++ x.drop (off + a.length))).length = m := by
    simp only [List.length_append, List.length_take, List.length_drop]; omega
  rw [← List.append_assoc a, ← List.append_assoc, List.take_left' this]

/-- what is claimed of a row of cells that may be written -/
theorem HeapOK.rowW {σ : Sg} {h : H} {w : World} (ok : HeapOK σ h.cl w) {id b sz m : Nat} {l : V} (hi : id < 65536) (hs : σ id = some (b, sz)) (hg : h.gt id = .cells m l) :
    ∃ C el fr, w.heap[b]? = some (.cells C el fr) ∧ C.size = sz ∧ m ≤ sz ∧ VRs σ l (C.toList.take m) ∧ ∀ j, j < sz → ¬ (fr.1 ≤ j ∧ j < fr.2) := by
  have hc := H.cl_gt h id hi
  rw [hg] at hc
  obtain ⟨b', sz', o, h1, h2, h3⟩ := ok.ok id (by rw [hc]; intro h; cases h)
  rw [hs] at h1
  obtain ⟨rfl, rfl⟩ := Prod.mk.inj (Option.some.inj h1)
  rw [hc] at h3
  obtain ⟨C, e, fr, rfl, a1, a2, a3, a4⟩ := h3
  exact ⟨C, e, fr, h2, a1, a2, a3, a4⟩

theorem not_tab {h : H} {id : Nat} (hi : id < 65536) {m : Nat} {l : V} (hg : h.gt id = .cells m l) : h.cl id ≠ .dead ∧ ∀ n l', h.cl id ≠ .tab n l' := by
  rw [H.cl_gt h id hi, hg]
  exact ⟨fun e => (by cases e), fun _ _ e => (by cases e)⟩

theorem storeP_some {h : H} {n q id off : Nat} {ys : V} {k : H → R} {r : Res} (e : storeP h n k q ys id off = some r) :
    ∃ m l x, q = n ∧ h.gt id = .cells m l ∧ k (h.set id (.cells m x)) = some r ∧ ∀ σ a b, VRs σ ys a → a.length = n → VRs σ l b → b.length = m → off + a.length ≤ b.length ∧ VRs σ x (b.take off ++ (a ++ b.drop (off + a.length))) := by
  obtain ⟨hq, e1⟩ := bi_some.1 e
  have hq : q = n := Nat.eq_of_beq_eq_true hq
  obtain ⟨m, l, e2, hg⟩ := rowK_some e1
  cases off with
  | zero =>
    cases hb : Nat.beq m n with
    | false =>
      have e3 : storeO h id 0 m l ys k = some r := by
        have : (Nat.beq m n).rec (motive := fun _ => R) (storeO h id 0 m l ys k) (k (h.set id (.cells m ys))) = some r := e2
        rw [hb] at this; exact this
      obtain ⟨x, e4, hx⟩ := overK_some e3
      exact ⟨m, l, x, hq, hg, e4, fun σ a b h1 _ h2 _ => hx σ a b h1 h2⟩
    | true =>
      have e3 : k (h.set id (.cells m ys)) = some r := by
        have : (Nat.beq m n).rec (motive := fun _ => R) (storeO h id 0 m l ys k) (k (h.set id (.cells m ys))) = some r := e2
        rw [hb] at this; exact this
      have hmn : m = n := Nat.eq_of_beq_eq_true hb
      refine ⟨m, l, ys, hq, hg, e3, fun σ a b h1 ha h2 hb' => ⟨by omega, ?_⟩⟩
      have : b.drop (0 + a.length) = [] := List.drop_eq_nil_of_le (by omega)
      rw [this]; simpa using h1
  | succ o =>
    obtain ⟨x, e4, hx⟩ := overK_some (r := r) e2
    exact ⟨m, l, x, hq, hg, e4, fun σ a b h1 _ h2 _ => hx σ a b h1 h2⟩

theorem oStore_ok {ty : TypeId} {x y : Operand} (e : oStore ty x y P nt s = .mk f) : HeapF P nt (.store ty x y) s f := by
  rcases cO_inv e with h | ⟨ga, hga, e1⟩
  · exact HeapF.dead h
  rcases cO_inv e1 with h | ⟨gx, hgx, e2⟩
  · exact HeapF.dead h
  rcases ocl_inv e2 with h | ⟨sh, hsh, e3⟩
  · exact HeapF.dead h
  cases sh with | mk n agg =>
  cases e3
  intro ih t h k r er
  obtain ⟨q, ys, e4, hys⟩ := cellsK_some er
  obtain ⟨hones, e5⟩ := bi_some.1 e4
  cases hv : ga t <;> rw [hv] at e5 <;> try (exact absurd e5 (by intro e; cases e))
  case p id off =>
    obtain ⟨m, l, z, hqn, hg, e6, hz⟩ := storeP_some e5
    refine ⟨undefV, _, e6, by rw [H.nx_set]; exact Nat.le_refl _, fun σ a w cx ht ok fr dst ty' pos after gd => ?_⟩
    have h1 := hga σ t a cx ht
    rw [hv] at h1
    have h2 := hgx σ t a cx ht
    obtain ⟨g1, g2, g3⟩ := hys σ _ h2
    generalize hx : a.eval x = p at h1
    cases h1 with | @p _ _ b sz hs hi =>
    obtain ⟨C, el, frz, hC, hCs, hm, hrel, hnf⟩ := ok.rowW hi hs hg
    have hCl : C.toList.length = C.size := Array.length_toList
    have hyl : (a.eval y).cells.toList.length = n := by rw [Array.length_toList, g1, hqn]
    have hml : (C.toList.take m).length = m := by rw [List.length_take, hCl, hCs]; omega
    obtain ⟨f1, f2⟩ := hz σ _ _ g2 hyl hrel hml
    rw [hyl, hml] at f1
    obtain ⟨w', D, r1, r2, r3, r4, r5, r6⟩ := store_run (P := P) (b := b) (off := off) (a.eval y).cells.toList 0 w C el frz hC (by rw [hyl, hCs]; omega) (by rw [hCs]; exact hnf) (ones_ok hones g2)
    have hsize := (shape_spec hsh).1
    have hbk : BOK σ (.cells m z) sz (.cells D el frz) := by
      refine ⟨D, el, frz, rfl, by rw [r5, hCs], hm, ?_, hnf⟩
      have : D.toList.take m = (C.toList.take m).take off ++ ((a.eval y).cells.toList ++ (C.toList.take m).drop (off + n)) := by
        rw [r4]
        have := take_over C.toList (a.eval y).cells.toList off m (by rw [hyl]; omega) (by rw [hCl, hCs]; exact hm)
        rw [hyl] at this
        simp only [Nat.add_zero, hyl]
        exact this
      rw [this, ← hyl]; exact f2
    obtain ⟨hd, htab⟩ := not_tab hi hg
    obtain ⟨ok', ext⟩ := ok.turn hi hs hd htab r2 r3 hbk r6
    refine ⟨undef, σ, w', .skip, ?_, .inr ⟨rfl, rfl⟩, ext, ok', VR.undef σ⟩
    simp only [execOp, Instr.storeAt, Instr.sureAddr, hx, Sem.run_bind, Sem.run_pure, Result.andThen_ok, storeVar, sizeT_run hsize]
    have : ¬ ((a.eval y).cells.size ≠ n) := by rw [g1, hqn]; simp
    simp only [this, if_false, r1, Result.andThen_ok]


/-! ### maps -/
theorem HeapOK.mapAt {σ : Sg} {h : H} {w : World} (ok : HeapOK σ h.cl w) {id b sz : Nat} {es : V} (hi : id < 65536) (hs : σ id = some (b, sz)) (hg : h.gt id = .map es) :
    ∃ en ck, w.heap[b]? = some (.map en ck) ∧ ER σ es en.toList := by
  have hc := H.cl_gt h id hi
  rw [hg] at hc
  obtain ⟨b', sz', o, h1, h2, h3⟩ := ok.ok id (by rw [hc]; intro h; cases h)
  rw [hs] at h1
  obtain ⟨rfl, rfl⟩ := Prod.mk.inj (Option.some.inj h1)
  rw [hc] at h3
  obtain ⟨en, ck, rfl, a1⟩ := h3
  exact ⟨en, ck, h2, a1⟩

/-- a key of the map's kind -/
def KeyOK (d : TypeDesc) (x : Value) : Prop := (∃ q k z, d = .int q ∧ x = .int k z) ∨ (∃ b, d = .string ∧ x = .string b)

theorem keyX_ok {ty kt et : TypeId} {d : TypeDesc} {v : V} (hm : mapI P ty = some (kt, et)) (hk : keyT P kt = true) (hx : keyX (keyS P ty) v = true) (hd : P.underlying kt = some d) {σ : Sg} {x : Value} (h : VR σ v x) : KeyOK d x := by
  unfold keyS at hx
  rw [hm] at hx
  unfold keyT at hk
  simp only [strT] at hx
  rw [hd] at hk hx
  cases d <;> simp only at hk hx <;> try (cases hk; done)
  · cases h <;> first | (exact .inl ⟨_, _, _, rfl, rfl⟩) | (cases hx)
  · cases h <;> first | (exact .inr ⟨_, rfl, rfl⟩) | (cases hx)

theorem int_same {c d m n : Nat} {za zb : Int} {z : Bool} (hz : z = (za == zb)) (hcd : Nat.beq c d = true) {ky kx : Value} {ty : TypeDesc} (hy : ∃ k, kindN k = c ∧ ky = .int k za) (hx : ∃ k, kindN k = d ∧ kx = .int k zb) (hk : KeyOK ty kx) :
    Instr.sameNow ty kx ky = some z ∧ (z = true → Instr.sameBits 10000 ky kx = true) := by
  obtain ⟨k, h1, rfl⟩ := hy
  obtain ⟨k', h2, rfl⟩ := hx
  have : k' = k := kindN_inj (by rw [h1, h2]; exact (Nat.eq_of_beq_eq_true hcd).symm)
  subst this
  rcases hk with ⟨q, k1, n1, rfl, hh⟩ | ⟨b, rfl, hh⟩
  · refine ⟨?_, fun ht => ?_⟩
    · simp only [Instr.sameNow, if_true, hz]
      congr 1
      rw [Bool.eq_iff_iff]; simp; exact eq_comm
    · rw [ht] at hz
      have : za = zb := by simpa using hz.symm
      simp [Instr.sameBits, this]
  · cases hh

theorem keyEq_some {y x : V} {k : Bool → R} {r : Res} (e : eqK 9 y x k = some r) : ∃ z, k z = some r ∧ ∀ σ ky kx d, VR σ y ky → VR σ x kx → KeyOK d kx →
    Instr.sameNow d kx ky = some z ∧ (z = true → Instr.sameBits 10000 ky kx = true) := by
  cases y
  case i c m =>
    cases x <;> try (exact absurd e (by intro e; cases e))
    case i d n =>
      obtain ⟨h, e1⟩ := bi_some.1 e
      exact ⟨_, e1, fun σ ky kx d hy hx hk => int_same (m := 0) (n := 0) (by rw [Bool.eq_iff_iff, Nat.beq_eq]; simp; omega) h hy.int_i hx.int_i hk⟩
    case j d n =>
      obtain ⟨h, e1⟩ := bi_some.1 e
      exact ⟨_, e1, fun σ ky kx d hy hx hk => int_same (m := 0) (n := 0) (by simp) h hy.int_i hx.int_j hk⟩
  case j c m =>
    cases x <;> try (exact absurd e (by intro e; cases e))
    case i d n =>
      obtain ⟨h, e1⟩ := bi_some.1 e
      exact ⟨_, e1, fun σ ky kx d hy hx hk => int_same (m := 0) (n := 0) (by simp) h hy.int_j hx.int_i hk⟩
    case j d n =>
      obtain ⟨h, e1⟩ := bi_some.1 e
      exact ⟨_, e1, fun σ ky kx d hy hx hk => int_same (m := 0) (n := 0) (by rw [Bool.eq_iff_iff, Nat.beq_eq]; simp) h hy.int_j hx.int_j hk⟩
  case s n l =>
    cases x <;> try (exact absurd e (by intro e; cases e))
    case s m p =>
      have e' : k ((Nat.beq l p).rec false (Nat.beq n m)) = some r := by
        have e0 : (Nat.beq l p).rec (motive := fun _ => R) (k false) (k (Nat.beq n m)) = some r := e
        cases hb : Nat.beq l p <;> rw [hb] at e0 <;> exact e0
      refine ⟨_, e', fun σ ky kx d hy hx hk => ?_⟩
      cases hy with | s a => cases hx with | s b =>
        rw [← str_eq]
        have hab : (b == a) = (a.toList == b.toList) := by
          rw [Bool.eq_iff_iff, MapKept.bytes_beq, ByteArray.toList_eq, ByteArray.toList_eq]
          simp only [beq_iff_eq]
          constructor
          · intro h; rw [h]
          · intro h
            have := Array.toList_inj.1 h
            cases a; cases b; simp_all
        rcases hk with ⟨q, k1, n1, _, hh⟩ | ⟨b', rfl, hh⟩
        · cases hh
        · refine ⟨?_, fun ht => ?_⟩
          · simp only [Instr.sameNow, hab]
          · rw [← hab, MapKept.bytes_beq] at ht
            subst ht
            simp [Instr.sameBits, (MapKept.bytes_beq _ _).2 rfl]
  all_goals (cases x <;> first | exact absurd e (by intro e; cases e) | (obtain ⟨h1, e1⟩ := bi_some.1 e; obtain ⟨h2, e2⟩ := bi_some.1 e1; have := Nat.eq_of_beq_eq_true h1; subst this; cases h2) | (obtain ⟨h1, e1⟩ := bi_some.1 e; cases h1))

theorem isNil_iff {v : V} : (isNil v = true → v = .nil) := by intro h; cases v <;> first | rfl | (cases h)

theorem pair_some {es : V} {k : V → V → V → R} {r : Res} (hn : isNil es = false) (e : (nthK es 0 fun y => nthK es 1 fun w => dropK 2 es fun q => k y w q) = some r) :
    ∃ y w q, es = .cons y (.cons w q) ∧ k y w q = some r := by
  cases es <;> try (exact absurd e (by intro e; cases e))
  case cons y r1 =>
    cases r1 <;> try (exact absurd e (by intro e; cases e))
    case cons w q => exact ⟨y, w, q, rfl, e⟩

theorem lookK_some {x : V} {q : V → R} {no : R} {r : Res} : ∀ (n : Nat) (es : V), lookK x q no n es = some r →
    (∃ v, q v = some r ∧ ∀ σ kx d (en : List MapEntry), VR σ x kx → KeyOK d kx → ER σ es en → ∀ i, ∃ j v', Instr.findNow d kx en i = some (some (j, v')) ∧ VR σ v v') ∨
    (no = some r ∧ ∀ σ kx d (en : List MapEntry), VR σ x kx → KeyOK d kx → ER σ es en → ∀ i, Instr.findNow d kx en i = some none) := by
  intro n
  induction n with
  | zero => intro es e; cases e
  | succ n ih =>
    intro es e
    have e0 : (isNil es).rec (motive := fun _ => R) (nthK es 0 fun y => eqK 9 y x fun r => Bool.rec (motive := fun _ => R) (dropK 2 es (lookK x q no n)) (nthK es 1 q) r) no = some r := e
    cases hn : isNil es with
    | true =>
      rw [hn] at e0
      have := isNil_iff hn
      subst this
      exact .inr ⟨e0, fun σ kx d en _ _ h i => by cases h; rfl⟩
    | false =>
      rw [hn] at e0
      cases es <;> try (exact absurd e0 (by intro e; cases e))
      case cons y r1 =>
        have e1 : (eqK 9 y x fun r => Bool.rec (motive := fun _ => R) (dropK 2 (.cons y r1) (lookK x q no n)) (nthK (.cons y r1) 1 q) r) = some r := e0
        obtain ⟨z, e2, hz⟩ := keyEq_some e1
        cases r1 <;> try (cases z <;> exact absurd e2 (by intro e; cases e))
        case cons w rest =>
          cases z with
          | true =>
            refine .inl ⟨w, e2, fun σ kx d en hx hk h i => ?_⟩
            cases h with | @cons _ _ _ en0 l h1 h2 h3 =>
            refine ⟨i, en0.val, ?_, h2⟩
            simp only [Instr.findNow, (hz σ _ _ d h1 hx hk).1]
          | false =>
            have e3 : lookK x q no n rest = some r := e2
            rcases ih rest e3 with ⟨v, g1, g2⟩ | ⟨g1, g2⟩
            · refine .inl ⟨v, g1, fun σ kx d en hx hk h i => ?_⟩
              cases h with | @cons _ _ _ en0 l h1 h2 h3 =>
              simp only [Instr.findNow, (hz σ _ _ d h1 hx hk).1]
              exact g2 σ kx d l hx hk h3 (i + 1)
            · refine .inr ⟨g1, fun σ kx d en hx hk h i => ?_⟩
              cases h with | @cons _ _ _ en0 l h1 h2 h3 =>
              simp only [Instr.findNow, (hz σ _ _ d h1 hx hk).1]
              exact g2 σ kx d l hx hk h3 (i + 1)

theorem checkKey_run {kt : TypeId} {d : TypeDesc} {x : Value} (hd : P.underlying kt = some d) (hk : KeyOK d x) (b : Bool) (w : World) : (Instr.checkKey b 10000 kt x).run P w = .ok () w := by
  show (Instr.checkKey b (9999 + 1) kt x).run P w = .ok () w
  unfold Instr.checkKey
  rcases hk with ⟨q, k, n, rfl, rfl⟩ | ⟨s, rfl, rfl⟩ <;> simp [underlying, hd]

theorem mapI_spec {ty kt et : TypeId} (h : mapI P ty = some (kt, et)) : P.underlying ty = some (.map kt et) := by
  unfold mapI at h
  split at h <;> cases h
  assumption

theorem mapZ_spec {ty : TypeId} {z : V} (h : mapZ P ty = some z) : ∃ kt et d, mapI P ty = some (kt, et) ∧ keyT P kt = true ∧ P.underlying ty = some (.map kt et) ∧ P.underlying kt = some d ∧ zeroT P et = some z := by
  obtain ⟨⟨kt, et⟩, h1, h2⟩ := ob_some.1 h
  have h2 : (keyT P kt).rec (motive := fun _ => Option V) none (zeroT P et) = some z := h2
  cases hk : keyT P kt with
  | false => rw [hk] at h2; cases h2
  | true =>
    rw [hk] at h2
    have : ∃ d, P.underlying kt = some d := by
      unfold keyT at hk
      cases hu : P.underlying kt with
      | none => rw [hu] at hk; cases hk
      | some d => exact ⟨d, rfl⟩
    obtain ⟨d, hd⟩ := this
    exact ⟨kt, et, d, h1, hk, mapI_spec h1, hd, h2⟩

theorem oLookup_ok {ty : TypeId} {x y : Operand} {okk : Bool} (e : oLookup ty x y okk P nt s = .mk f) : LookF P nt (.lookup ty x y okk) s f := by
  rcases ocl_inv e with h | ⟨z, hz, e1⟩
  · exact LookF.dead h
  rcases cO_inv e1 with h | ⟨gx, hgx, e2⟩
  · exact LookF.dead h
  rcases cO_inv e2 with h | ⟨gy, hgy, e3⟩
  · exact LookF.dead h
  cases e3
  intro ih t h k r er
  obtain ⟨hkx, e4⟩ := bi_some.1 er
  obtain ⟨id, hv, e5⟩ := mapidK_some e4
  obtain ⟨es, e6, hg⟩ := mapK_some e5
  obtain ⟨kt, et, d, hmI, hkT, hu, hd, hzz⟩ := mapZ_spec hz
  obtain ⟨zv, hz1, hz2⟩ := zeroT_run hzz
  have base : ∀ (σ : Sg) (a : Act) (w : World), Ctx P σ → TR σ nt t a.tmps → HeapOK σ h.cl w → ∃ b en ck, a.eval x = .map (some b) ∧ w.heap[b]? = some (.map en ck) ∧ ER σ es en.toList ∧ KeyOK d (a.eval y) ∧ VR σ (gy t) (a.eval y) := by
    intro σ a w cx ht ok
    have h1 := hgx σ t a cx ht
    rw [hv] at h1
    have h2 := hgy σ t a cx ht
    generalize hx : a.eval x = p at h1
    cases h1 with | @m _ b sz hs hi =>
    obtain ⟨en, ck, g1, g2⟩ := ok.mapAt hi hs hg
    exact ⟨b, en, ck, rfl, g1, g2, keyX_ok hmI hkT hkx hd h2, h2⟩
  rcases lookK_some _ _ e6 with ⟨v, e7, hv7⟩ | ⟨e7, hv7⟩
  · refine ⟨_, e7, fun σ a w cx ht ok dst ty' pos after gd => ?_⟩
    obtain ⟨b, en, ck, g0, g1, g2, g3, g4⟩ := base σ a w cx ht ok
    obtain ⟨j, v', f1, f2⟩ := hv7 σ _ d _ g4 g3 g2 0
    refine ⟨if okk then .tuple #[v', .bool true] else v', ?_, ?_⟩
    · simp [execOp, Instr.lookup, underlying, hu, hd, g0, MapKept.run_getObj_map g1, checkKey_run hd g3, Instr.findKey, f1, Result.andThen]
    · cases okk
      · exact f2
      · exact .t (.cons f2 (.cons (.b true) .nil))
  · refine ⟨_, e7, fun σ a w cx ht ok dst ty' pos after gd => ?_⟩
    obtain ⟨b, en, ck, g0, g1, g2, g3, g4⟩ := base σ a w cx ht ok
    have f1 := hv7 σ _ d _ g4 g3 g2 0
    refine ⟨if okk then .tuple #[zv, .bool false] else zv, ?_, ?_⟩
    · simp [execOp, Instr.lookup, underlying, hu, hd, g0, MapKept.run_getObj_map g1, checkKey_run hd g3, Instr.findKey, f1, hz1, Result.andThen]
    · cases okk
      · exact hz2 σ
      · exact .t (.cons (hz2 σ) (.cons (.b false) .nil))

end
end Go.Ev
namespace Go.Ev
section
variable {P : Program} {nt : Nat} {s : S} {f : F}

theorem blt_lt {a b : Nat} (h : Nat.blt a b = true) : a < b := by simpa [Nat.blt_eq] using h

theorem putK_some {x v : V} {r : Res} : ∀ (n : Nat) (es : V) (q : KV), putK x v n es q = some r → ∃ es', q es' = some r ∧
    ∀ σ kx vv d (en : List MapEntry), VR σ x kx → VR σ v vv → KeyOK d kx → ER σ es en → ∀ i,
      (∃ j v0 e0, Instr.findNow d kx en i = some (some (i + j, v0)) ∧ en[j]? = some e0 ∧ Instr.sameBits 10000 e0.key kx = true ∧ ER σ es' (en.modify j fun e => { e with key := kx, val := vv })) ∨
      (Instr.findNow d kx en i = some none ∧ ∀ born, ER σ es' (en ++ [{ key := kx, val := vv, born }])) := by
  intro n
  induction n with
  | zero => intro es q e; cases e
  | succ n ih =>
    intro es q e
    have e0 : (isNil es).rec (motive := fun _ => R) (nthK es 0 fun y => nthK es 1 fun w => dropK 2 es fun rr => eqK 9 y x fun z => Bool.rec (motive := fun _ => R) (putK x v n rr fun r' => q (.cons y (.cons w r'))) (q (.cons x (.cons v rr))) z) (q (.cons x (.cons v .nil))) = some r := e
    cases hn : isNil es with
    | true =>
      rw [hn] at e0
      have := isNil_iff hn
      subst this
      refine ⟨_, e0, fun σ kx vv d en hx hv hk h i => .inr ?_⟩
      cases h
      exact ⟨rfl, fun born => .cons hx hv .nil⟩
    | false =>
      rw [hn] at e0
      obtain ⟨y, w, rest, rfl, e1⟩ := pair_some hn e0
      obtain ⟨z, e2, hz⟩ := keyEq_some e1
      cases z with
      | true =>
        refine ⟨_, e2, fun σ kx vv d en hx hv hk h i => .inl ?_⟩
        cases h with | @cons _ _ _ en0 l h1 h2 h3 =>
        obtain ⟨g1, g2⟩ := hz σ _ _ d h1 hx hk
        refine ⟨0, en0.val, en0, ?_, rfl, g2 rfl, ?_⟩
        · simp only [Instr.findNow, g1, Nat.add_zero]
        · exact .cons hx hv h3
      | false =>
        obtain ⟨es', e3, h4⟩ := ih rest _ e2
        refine ⟨_, e3, fun σ kx vv d en hx hv hk h i => ?_⟩
        cases h with | @cons _ _ _ en0 l h1 h2 h3 =>
        obtain ⟨g1, _⟩ := hz σ _ _ d h1 hx hk
        rcases h4 σ kx vv d l hx hv hk h3 (i + 1) with ⟨j, v0, e0', f1, f2, f3, f4⟩ | ⟨f1, f2⟩
        · refine .inl ⟨j + 1, v0, e0', ?_, f2, f3, .cons h1 h2 f4⟩
          simp only [Instr.findNow, g1, f1]
          rw [show i + 1 + j = i + (j + 1) by omega]
        · refine .inr ⟨?_, fun born => .cons h1 h2 (f2 born)⟩
          simp only [Instr.findNow, g1, f1]

theorem setBlock {w : World} {b : Nat} {o o' : Obj} (h : w.heap[b]? = some o) : ({ w with heap := w.heap.setIfInBounds b o' } : World).heap.size = w.heap.size ∧ ({ w with heap := w.heap.setIfInBounds b o' } : World).heap[b]? = some o' ∧
    ((∀ b', b' ≠ b → ({ w with heap := w.heap.setIfInBounds b o' } : World).heap[b']? = w.heap[b']?) ∧ Same w ({ w with heap := w.heap.setIfInBounds b o' } : World)) := by
  have hb : b < w.heap.size := (Array.getElem?_eq_some_iff.1 h).1
  refine ⟨Array.size_setIfInBounds .., ?_, fun b' hne => ?_, ⟨rfl, rfl, rfl⟩⟩
  · show (w.heap.setIfInBounds b o')[b]? = _
    simp [hb]
  · show (w.heap.setIfInBounds b o')[b']? = _
    rw [Array.getElem?_setIfInBounds_ne (Ne.symm hne)]

theorem map_tab {h : H} {id : Nat} (hi : id < 65536) {es : V} (hg : h.gt id = .map es) : h.cl id ≠ .dead ∧ ∀ n l', h.cl id ≠ .tab n l' := by
  rw [H.cl_gt h id hi, hg]
  exact ⟨fun e => (by cases e), fun _ _ e => (by cases e)⟩

theorem oMapSet_ok {ty : TypeId} {x y z : Operand} {op : Op} (hop : op = .mapUpdate ty x y z ∨ op = .insert ty x y z) (e : oMapSet ty x y z P nt s = .mk f) : HeapF P nt op s f := by
  rcases ocl_inv e with h | ⟨zz, hz, e1⟩
  · exact HeapF.dead h
  rcases cO_inv e1 with h | ⟨gx, hgx, e2⟩
  · exact HeapF.dead h
  rcases cO_inv e2 with h | ⟨gy, hgy, e3⟩
  · exact HeapF.dead h
  rcases cO_inv e3 with h | ⟨gz, hgz, e4⟩
  · exact HeapF.dead h
  cases e4
  intro ih t h k r er
  obtain ⟨hkx, e5⟩ := bi_some.1 er
  obtain ⟨id, hv, e6⟩ := mapidK_some e5
  obtain ⟨es, e7, hg⟩ := mapK_some e6
  obtain ⟨es', e8, hput⟩ := putK_some _ _ _ e7
  obtain ⟨kt, et, d, hmI, hkT, hu, hd, hzz⟩ := mapZ_spec hz
  refine ⟨_, _, e8, by rw [H.nx_set]; exact Nat.le_refl _, fun σ a w cx ht ok fr dst ty' pos after gd => ?_⟩
  have h1 := hgx σ t a cx ht
  rw [hv] at h1
  have h2 := hgy σ t a cx ht
  have h3 := hgz σ t a cx ht
  generalize hx : a.eval x = p at h1
  cases h1 with | @m _ b sz hs hi =>
  obtain ⟨en, ck, g1, g2⟩ := ok.mapAt hi hs hg
  have hk := keyX_ok hmI hkT hkx hd h2
  obtain ⟨hdd, htab⟩ := map_tab hi hg
  have fin : ∀ o' : Obj, BOK σ (.map es') sz o' → (Instr.mapUpdate ty (.map (some b)) (a.eval y) (a.eval z)).run P w = .ok () { w with heap := w.heap.setIfInBounds b o' } →
      ∃ v' σ' w' nxt, (execOp a.eval ⟨dst, op, ty', pos, after, gd⟩).run P w = .ok nxt w' ∧ (nxt = .value v' ∨ nxt = .skip ∧ v' = undef) ∧ SExt σ h w σ' (h.set id (.map es')) w' ∧ HeapOK σ' (h.set id (.map es')).cl w' ∧ VR σ' undefV v' := by
    intro o' hbo hrun
    obtain ⟨s1, s2, s3⟩ := setBlock (o' := o') g1
    obtain ⟨ok', ext⟩ := ok.turn hi hs hdd htab s1 s2 hbo s3
    refine ⟨undef, σ, _, .skip, ?_, .inr ⟨rfl, rfl⟩, ext, ok', VR.undef σ⟩
    rcases hop with rfl | rfl <;> simp only [execOp, hx, Sem.run_bind, hrun, Result.andThen_ok, Sem.run_pure]
  rcases hput σ _ _ d _ h2 h3 hk g2 0 with ⟨j, v0, e0, f1, f2, f3, f4⟩ | ⟨f1, f2⟩
  · rw [Array.getElem?_toList] at f2
    refine fin (.map (en.modify j fun e => { e with key := a.eval y, val := a.eval z }) ck) ⟨_, _, rfl, by rw [Array.toList_modify]; exact f4⟩ ?_
    simp only [Instr.mapUpdate, Sem.run_bind, underlying, run_program, Result.andThen_ok, hu, Sem.run_pure, MapKept.run_getObj_map g1, checkKey_run hd hk, Instr.findKey, hd, f1, Nat.zero_add, f2, Option.map_some, Option.getD_some, Instr.keyThatStays, f3, if_true, MapKept.run_setObj_map _ g1]
  · refine fin (.map (en.push { key := a.eval y, val := a.eval z, born := ck }) (ck + 1)) ⟨_, _, rfl, by rw [Array.toList_push]; exact f2 ck⟩ ?_
    simp only [Instr.mapUpdate, Sem.run_bind, underlying, run_program, Result.andThen_ok, hu, Sem.run_pure, MapKept.run_getObj_map g1, checkKey_run hd hk, Instr.findKey, hd, f1, MapKept.run_setObj_map _ g1]

/-! ### a text gone through -/
theorem oNext_ok {x : Operand} {b0 : Bool} (e : oNext x b0 P nt s = .mk f) : HeapF P nt (.next x b0) s f := by
  cases b0 with
  | false => exact HeapF.dead (dead_of e)
  | true =>
    rcases cO_inv e with h | ⟨g, hg, e1⟩
    · exact HeapF.dead h
    cases e1
    intro ih t h k r er
    obtain ⟨id, off, hv, e2⟩ := ptrK_some er
    obtain ⟨hoff, e3⟩ := bi_some.1 e2
    have hoff : off = 0 := Nat.eq_of_beq_eq_true hoff
    subst hoff
    rw [H.getK_gt] at e3
    cases hgt : h.gt id <;> rw [hgt] at e3 <;> try (exact absurd e3 (by intro e; cases e))
    rename_i n l pos
    have e4 : (Nat.blt pos l).rec (motive := fun _ => R) (k (s (.t (.cons (.b false) .nil)) t) h)
      (force (Nat.mod (Nat.div n (Nat.pow 256 pos)) 256) fun c => bi (Nat.blt c 128) (k (s (.t (.cons (.b true) (.cons (.i 3 pos) (.cons (.i 2 c) .nil)))) t) (h.set id (.siter n l (Nat.succ pos))))) = some r := e3
    have base : ∀ (σ : Sg) (a : Act) (w : World), Ctx P σ → TR σ nt t a.tmps → HeapOK σ h.cl w → ∃ b sz bs, a.eval x = .pointer (some ⟨b, 0, none⟩) ∧ σ id = some (b, sz) ∧ id < 65536 ∧ w.heap[b]? = some (.stringIter bs pos) ∧ pk bs.data.toList = n ∧ bs.size = l ∧ h.cl id ≠ .dead ∧ ∀ n l', h.cl id ≠ .tab n l' := by
      intro σ a w cx ht ok
      have h1 := hg σ t a cx ht
      rw [hv] at h1
      generalize hx : a.eval x = p at h1
      cases h1 with | @p _ _ b sz hs hi =>
      have hc := H.cl_gt h id hi
      rw [hgt] at hc
      obtain ⟨b', sz', o, q1, q2, q3⟩ := ok.ok id (by rw [hc]; intro h; cases h)
      rw [hs] at q1
      obtain ⟨rfl, rfl⟩ := Prod.mk.inj (Option.some.inj q1)
      rw [hc] at q3
      obtain ⟨bs, rfl, q4, q5⟩ := q3
      exact ⟨b, sz, bs, rfl, hs, hi, q2, q4, q5, (by rw [hc]; intro h; cases h), (by rw [hc]; intro _ _ h; cases h)⟩
    cases hlt : Nat.blt pos l with
    | false =>
      rw [hlt] at e4
      have hnl : ¬ pos < l := by intro hh; rw [show Nat.blt pos l = true from by simpa [Nat.blt_eq] using hh] at hlt; cases hlt
      refine ⟨_, _, e4, Nat.le_refl _, fun σ a w cx ht ok fr dst ty' pos' after gd => ?_⟩
      obtain ⟨b, sz, bs, g0, g1, g2, g3, g4, g5, g6, g7⟩ := base σ a w cx ht ok
      refine ⟨.tuple #[.bool false], σ, w, _, ?_, .inl rfl, SExt.refl _ _ _, ok, .t (.cons (.b false) .nil)⟩
      have hge : (getObj b).run P w = .ok (.stringIter bs pos) w := by simp [getObj, Sem.run, g3]
      have : ¬ pos < bs.size := by omega
      simp [execOp, Instr.next, g0, hge, this, Result.andThen]
    | true =>
      rw [hlt] at e4
      have hl : pos < l := by simpa [Nat.blt_eq] using hlt
      have e5 : force (Nat.mod (Nat.div n (Nat.pow 256 pos)) 256) (fun c => bi (Nat.blt c 128) (k (s (.t (.cons (.b true) (.cons (.i 3 pos) (.cons (.i 2 c) .nil)))) t) (h.set id (.siter n l (Nat.succ pos))))) = some r := e4
      rw [force_eq] at e5
      obtain ⟨hc128, e6⟩ := bi_some.1 e5
      have hc : n / 256 ^ pos % 256 < 128 := blt_lt hc128
      refine ⟨_, _, e6, by rw [H.nx_set]; exact Nat.le_refl _, fun σ a w cx ht ok fr dst ty' pos' after gd => ?_⟩
      obtain ⟨b, sz, bs, g0, g1, g2, g3, g4, g5, g6, g7⟩ := base σ a w cx ht ok
      have hps : pos < bs.size := by omega
      have hpl : pos < bs.data.toList.length := by rw [Array.length_toList]; exact hps
      have hbyte := pk_get pos bs.data.toList hpl
      rw [g4] at hbyte
      have hget : (bs.get! pos).toNat = n / 256 ^ pos % 256 := by
        rw [← hbyte]
        have : bs.get! pos = bs.data.toList[pos] := by
          show bs.data[pos]! = _
          have hd : pos < bs.data.size := hps
          rw [getElem!_pos bs.data pos hd]; rfl
        rw [this]
      have hdec : Utf8.decode bs pos = (n / 256 ^ pos % 256, 1) := by
        unfold Utf8.decode
        simp only [Nat.add_zero, hget]
        rw [if_pos hc]
      have hge : (getObj b).run P w = .ok (.stringIter bs pos) w := by simp [getObj, Sem.run, g3]
      obtain ⟨s1, s2, s3⟩ := setBlock (o' := .stringIter bs (pos + 1)) g3
      have hse : (setObj b (.stringIter bs (pos + 1))).run P w = .ok () { w with heap := w.heap.setIfInBounds b (.stringIter bs (pos + 1)) } := by simp [setObj, Sem.run, g3]
      obtain ⟨ok', ext⟩ := ok.turn (bl := .siter n l (Nat.succ pos)) g2 g1 g6 g7 s1 s2 ⟨bs, rfl, g4, g5⟩ s3
      refine ⟨.tuple #[.bool true, goInt pos, .int .i32 (n / 256 ^ pos % 256 : Nat)], σ, _, _, ?_, .inl rfl, ext, ok', .t (.cons (.b true) (.cons (.i .i64 pos) (.cons (.i .i32 _) .nil)))⟩
      simp [execOp, Instr.next, g0, hge, hps, hdec, hse, Result.andThen]

end
end Go.Ev
end
