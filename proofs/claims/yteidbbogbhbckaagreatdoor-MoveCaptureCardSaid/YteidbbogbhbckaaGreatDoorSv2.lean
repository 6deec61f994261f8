/- The evaluator of translated Go, part 2: The evaluator: more operations that need no heap. · The evaluator: still more operations that need no heap: indices, cuts, places. · The evaluator: values built of parts; lengths, greatest and least. · The evaluator: loads, new blocks, stores. · The evaluator: stores, maps, texts gone through. · The evaluator: entries stored, texts gone through, appends. · The evaluator: appends. · The evaluator: one operation, in the machine's walk. · The evaluator: calls, and rounds of a range over a function. · The evaluator: calls as operations; all operations together. · The evaluator: all operations; guards; a region in order. · The evaluator: guards; a region in order. · The evaluator: code. -/
import Derived.Test.YteidbbogbhbckaaGreatDoorSv1
import Derived.Laws.Cells
import Derived.MapKept
import Derived.Laws.RangeString
import Derived.Laws.AppendOwn
import Derived.RangeFuncRecord
import Derived.OrdersIn
set_option linter.unusedVariables false
set_option linter.unusedSimpArgs false
noncomputable section
namespace Go.Ev
section
variable {P : Program} {nt : Nat} {s : S} {f : F}

theorem sizeT_run {t : TypeId} {n : Nat} (h : sizeT P t = some n) (w : World) : (sizeOf t).run P w = .ok n w := by
  unfold sizeT at h
  cases hi : P.info? t with
  | none => rw [hi] at h; cases h
  | some i => rw [hi] at h; cases h; simp [sizeOf, typeInfo, hi]
theorem aggT_run {t : TypeId} {b : Bool} (h : aggT P t = some b) (w : World) : (isAgg t).run P w = .ok b w := by
  unfold aggT at h
  cases hu : P.underlying t with
  | none => rw [hu] at h; cases h
  | some d => rw [hu] at h; cases d <;> cases h <;> simp [isAgg, underlying, hu]
theorem shape_spec {t : TypeId} {n : Nat} {b : Bool} (h : shape P t = some (.mk n b)) : sizeT P t = some n ∧ aggT P t = some b := by
  obtain ⟨b', h1, h2⟩ := ob_some.1 h
  obtain ⟨n', h3, h4⟩ := ob_some.1 h2
  rw [forceO_eq] at h4
  cases b' <;> cases h4 <;> exact ⟨h3, h1⟩

theorem part_run {σ : Sg} {t : TypeId} {cs : Array Value} {off n : Nat} {agg : Bool} {x : V} (hs : shape P t = some (.mk n agg)) (h : PartOK σ cs.toList off n agg x) :
    ∃ y, (∀ w, (part t cs off).run P w = .ok y w) ∧ VR σ x y := by
  obtain ⟨h1, h2⟩ := shape_spec hs
  cases agg with
  | true =>
    obtain ⟨g1, g2⟩ := h.1 rfl
    refine ⟨_, fun w => ?_, g2⟩
    unfold part
    simp only [Sem.run_bind, aggT_run h2, Result.andThen_ok, if_true, sizeT_run h1, Sem.run_pure]
    congr 2
    apply Array.toList_inj.1
    rw [Array.toList_extract]
    simp
  | false =>
    obtain ⟨y, g1, g2⟩ := h.2 rfl
    refine ⟨y, fun w => ?_, g2⟩
    rw [Array.getElem?_toList] at g1
    unfold part
    simp [aggT_run h2, g1]

theorem fieldT_spec {xt : TypeId} {k off n : Nat} {b : Bool} (h : fieldT P xt k = some (.mk off n b)) :
    ∃ fs fd, P.underlying xt = some (.struct fs) ∧ fs[k]? = some fd ∧ fd.offset = off ∧ shape P fd.type = some (.mk n b) := by
  unfold fieldT at h
  split at h
  · rename_i fs hu
    obtain ⟨fd, h1, h2⟩ := ob_some.1 h
    obtain ⟨sh, h3, h4⟩ := ob_some.1 h2
    cases sh with | mk m c =>
    have h5 : some (Ar.mk fd.offset m c) = some (.mk off n b) := by simpa using h4
    cases h5
    exact ⟨_, fd, hu, h1, rfl, h3⟩
  · cases h
theorem arrT_spec {xt : TypeId} {n es : Nat} {b : Bool} (h : arrT P xt = some (.mk n es b)) : ∃ e, P.underlying xt = some (.array n e) ∧ shape P e = some (.mk es b) := by
  unfold arrT at h
  split at h
  · rename_i m e hu
    obtain ⟨sh, h3, h4⟩ := ob_some.1 h
    cases sh with | mk q c =>
    have h5 : some (Ar.mk m q c) = some (.mk n es b) := by simpa using h4
    cases h5
    exact ⟨e, hu, h3⟩
  · cases h
theorem elemT_spec {xt : TypeId} {es : Nat} (h : elemT P xt = some es) : ∃ e, P.underlying xt = some (.slice e) ∧ sizeT P e = some es := by
  obtain ⟨e, h1, h2⟩ := ob_some.1 h
  obtain ⟨n, h3, h4⟩ := ob_some.1 h2
  rw [forceO_eq] at h4
  cases h4
  unfold elemI at h1
  split at h1 <;> cases h1
  rename_i hu
  exact ⟨_, hu, h3⟩
theorem strT_spec {t : TypeId} (h : strT P t = true) : P.underlying t = some .string := by
  unfold strT at h
  split at h
  · assumption
  · cases h

/-- what a function of one value does -/
def UnOK (f : V → KV → R) (g : Sg → Value → V → Prop) : Prop := ∀ v k r, f v k = some r → ∃ u, k u = some r ∧ ∀ σ x, VR σ v x → g σ x u

theorem unary_fin {op : UnOp} {x : Operand} {xt : TypeId} {a : Act} {y : Value} (h : ∀ w, (Op.unary op (a.eval x)).run P w = .ok y w) (dst : Option Tmp) (ty : TypeId) (pos : String) (after : Array Edge) (gd : Option (Nat × Bool)) (w : World) :
    (execOp a.eval ⟨dst, .unOp op xt x, ty, pos, after, gd⟩).run P w = .ok (.value y) w := by
  simp only [execOp, Sem.run_bind, h, Result.andThen_ok, Sem.run_pure]

theorem oUn_ok {op : UnOp} {xt : TypeId} {x : Operand} (e : oUn op xt x P nt s = .mk f) : PureF P nt (.unOp op xt x) s f := by
  rcases cO_inv e with h | ⟨g, hg, e1⟩
  · exact PureF.dead h
  have fin : ∀ {uf : V → KV → R}, (∀ v k r, uf v k = some r → ∃ u, k u = some r ∧ ∀ σ z, VR σ v z → ∃ y, (∀ w, (Op.unary op z).run P w = .ok y w) ∧ VR σ u y) → PureF P nt (.unOp op xt x) s fun _ t h k => uf (g t) fun v => k (s v t) h := by
    intro uf H ih t h k r er
    obtain ⟨u, e2, hu⟩ := H _ _ _ er
    refine ⟨u, e2, fun σ a c ht dst ty pos after gd => ?_⟩
    obtain ⟨y, h1, h2⟩ := hu σ _ (hg σ t a c ht)
    exact ⟨y, unary_fin h1 dst ty pos after gd, h2⟩
  cases op with
  | neg =>
    cases e1
    refine fin fun v k r er => ?_
    cases v <;> try (exact absurd er (by intro e; cases e))
    case i c n =>
      obtain ⟨u, h1, h2⟩ := subN_num er
      refine ⟨u, h1, fun σ z hz => ?_⟩
      obtain ⟨kk, hk, rfl⟩ := hz.int_i
      refine ⟨.int kk (0 - (n : Int)), fun w => ?_, (h2 kk hk).2 σ⟩
      have := (h2 kk hk).1
      simp only [Op.unary, Op.intArith, Sem.run_pure]
      exact congrArg (fun q => Result.ok (Value.int kk q) w) this
    case j c n =>
      obtain ⟨u, h1, h2⟩ := posK_num er
      refine ⟨u, h1, fun σ z hz => ?_⟩
      obtain ⟨kk, hk, rfl⟩ := hz.int_j
      refine ⟨.int kk (Int.ofNat (n + 1)), fun w => ?_, (h2 kk hk).2 σ⟩
      have := (h2 kk hk).1
      simp only [Op.unary, Op.intArith, Sem.run_pure]
      have e0 : (0 - Int.negSucc n : Int) = Int.ofNat (n + 1) := by show (0 - Int.negSucc n : Int) = ((n + 1 : Nat) : Int); omega
      rw [e0]
      exact congrArg (fun q => Result.ok (Value.int kk q) w) this
  | xor =>
    cases e1
    refine fin fun v k r er => ?_
    cases v <;> try (exact absurd er (by intro e; cases e))
    case i c n =>
      obtain ⟨h1, er⟩ := bi_some.1 er
      obtain ⟨h2, er⟩ := bi_some.1 er
      have hc : c = 3 := Nat.eq_of_beq_eq_true h1
      have hn : n < 2 := by simpa [Nat.blt_eq] using h2
      refine ⟨_, er, fun σ z hz => ?_⟩
      obtain ⟨kk, hk, rfl⟩ := hz.int_i
      have : kk = .i64 := kindN_inj (by rw [hk, hc]; rfl)
      subst this
      refine ⟨.int .i64 (Int.negSucc n), fun w => ?_, .j .i64 n⟩
      have : n = 0 ∨ n = 1 := by omega
      rcases this with rfl | rfl <;> rfl
  | not =>
    cases e1
    refine fin fun v k r er => ?_
    obtain ⟨b, hb, er⟩ := boolK_some er
    subst hb
    refine ⟨_, er, fun σ z hz => ?_⟩
    cases hz
    exact ⟨.bool (!b), fun w => rfl, by cases b <;> exact .b _⟩
  | plus => cases e1; exact PureF.dead fun _ _ _ _ => rfl

theorem oConv_ok {src dst : TypeId} {x : Operand} (e : oConv src dst x P nt s = .mk f) : PureF P nt (.convert src dst x) s f := by
  rcases cO_inv e with h | ⟨g, hg, e1⟩
  · exact PureF.dead h
  rcases ocl_inv e1 with h | ⟨uf, hu, e2⟩
  · exact PureF.dead h
  cases uf with | mk uf =>
  cases e2
  intro ih t h k r er
  obtain ⟨d0, hs, hu⟩ := ob_some.1 hu
  split at hu
  · rename_i c hd
    rw [forceO_eq] at hu
    cases hu
    have er : convI (kindN c) (g t) (fun v => k (s v t) h) = some r := er
    have fin : ∀ {kk : IntKind} {z : Int} {σ : Sg} {a : Act}, c.wrap z = z → a.eval x = .int kk z → ∀ (dt : Option Tmp) (ty : TypeId) (pos : String) (after : Array Edge) (gd : Option (Nat × Bool)) (w : World),
        (execOp a.eval ⟨dt, .convert src dst x, ty, pos, after, gd⟩).run P w = .ok (.value (.int c z)) w := by
      intro kk z σ a hz hx dt ty pos after gd w
      cases d0 <;> simp [execOp, convert, underlying, hs, hd, hx, Conv.intToInt, hz]
    cases hv : g t <;> rw [hv] at er <;> try (exact absurd er (by intro e; cases e))
    case i c' n =>
      have er : posK (kindN c) n (fun v => k (s v t) h) = some r := er
      obtain ⟨v, e3, hn⟩ := posK_num er
      refine ⟨v, e3, fun σ a cx ht dt ty pos after gd => ?_⟩
      have h1 := hg σ t a cx ht
      rw [hv] at h1
      obtain ⟨kk, hk, hx⟩ := h1.int_i
      exact ⟨_, fin (σ := σ) (hn c rfl).1 hx dt ty pos after gd, (hn c rfl).2 σ⟩
    case j c' n =>
      have er : negK (kindN c) n (fun v => k (s v t) h) = some r := er
      obtain ⟨v, e3, hn⟩ := negK_num er
      refine ⟨v, e3, fun σ a cx ht dt ty pos after gd => ?_⟩
      have h1 := hg σ t a cx ht
      rw [hv] at h1
      obtain ⟨kk, hk, hx⟩ := h1.int_j
      exact ⟨_, fin (σ := σ) (hn c rfl).1 hx dt ty pos after gd, (hn c rfl).2 σ⟩
    case r c' m q =>
      obtain ⟨h1, e3⟩ := bi_some.1 er
      have hle : 256 ≤ topK (kindN c) := Nat.le_of_ble_eq_true h1
      refine ⟨_, e3, fun σ a cx ht dt ty pos after gd => ?_⟩
      have h1 := hg σ t a cx ht
      rw [hv] at h1
      generalize hx : a.eval x = y at h1
      cases h1 with | r kk m n hn =>
        exact ⟨_, fin (σ := σ) (wrap_pos (by omega)) hx dt ty pos after gd, .r c m n hn⟩
  · rename_i hd
    cases hu
    have er : convS (g t) (fun v => k (s v t) h) = some r := er
    cases hv : g t <;> rw [hv] at er <;> try (exact absurd er (by intro e; cases e))
    case s n l =>
      refine ⟨_, er, fun σ a cx ht dt ty pos after gd => ⟨a.eval x, fun w => ?_, ?_⟩⟩
      · have h1 := hg σ t a cx ht
        rw [hv] at h1
        cases hx : a.eval x <;> rw [hx] at h1 <;> cases h1
        cases d0 <;> simp [execOp, convert, underlying, hs, hd, hx]
      · have h1 := hg σ t a cx ht
        rw [hv] at h1; exact h1
  · cases hu

theorem oFunc_ok {fn : Fn} {x y : Array Operand} (e : oFunc fn x y P nt s = .mk f) : PureF P nt (.makeFunc fn x y) s f := by
  unfold oFunc at e
  split at e
  · rcases cOs_inv e with h | ⟨g, hg, e1⟩
    · exact PureF.dead h
    rcases cOs_inv e1 with h | ⟨g2, hg2, e2⟩
    · exact PureF.dead h
    cases e2
    intro ih t h k r er
    refine ⟨_, er, fun σ a c ht dst ty pos after gd => ⟨_, fun w => rfl, .f ?_ ?_⟩⟩
    · have := hg σ t a c ht; simpa using this
    · have := hg2 σ t a c ht; simpa using this
  · exact PureF.dead (dead_of e)

theorem oField_ok {xt : TypeId} {x : Operand} {fd : Nat} (e : oField xt x fd P nt s = .mk f) : PureF P nt (.field xt x fd) s f := by
  rcases cO_inv e with h | ⟨g, hg, e1⟩
  · exact PureF.dead h
  rcases ocl_inv e1 with h | ⟨q, hq, e2⟩
  · exact PureF.dead h
  cases q with | mk off n agg =>
  cases e2
  intro ih t h k r er
  obtain ⟨m, l, e3, hl⟩ := aggK_some er
  obtain ⟨v, e4, hv⟩ := partK_some e3
  refine ⟨v, e4, fun σ a c ht dst ty pos after gd => ?_⟩
  obtain ⟨C, hx, hm, hC⟩ := hl σ _ (hg σ t a c ht)
  obtain ⟨fs, fdd, hu, hf, rfl, hsh⟩ := fieldT_spec hq
  obtain ⟨y, h1, h2⟩ := part_run (cs := C) hsh (hv σ _ hC (by rw [← hm]; exact Array.length_toList))
  refine ⟨y, fun w => ?_, h2⟩
  simp [execOp, Instr.field, underlying, hu, hf, hx, asAgg, h1]

end
end Go.Ev
namespace Go.Ev
section
variable {P : Program} {nt : Nat} {s : S} {f : F}

theorem oExtract_ok {x : Operand} {n : Nat} (e : oExtract x n P nt s = .mk f) : PureF P nt (.extract x n) s f := by
  rcases cO_inv e with h | ⟨g, hg, e1⟩
  · exact PureF.dead h
  cases e1
  intro ih t h k r er
  obtain ⟨l, hl, e2⟩ := tupK_some er
  obtain ⟨v, e3, hv⟩ := nthK_some e2
  refine ⟨v, e3, fun σ a c ht dst ty pos after gd => ?_⟩
  have h1 := hg σ t a c ht
  rw [hl] at h1
  generalize hx : a.eval x = y at h1
  cases h1 with | @t _ c0 h1 =>
  obtain ⟨y, hy, hvy⟩ := hv σ _ h1
  rw [Array.getElem?_toList] at hy
  exact ⟨y, fun w => by simp [execOp, Instr.extract, hx, hy], hvy⟩

theorem indexS_ok {i : Nat} {k : KV} {n l : Nat} {r : Res} (e : indexS i k n l = some r) : ∃ v, k v = some r ∧ ∀ σ b, VR σ (.s n l) (.string b) → ∃ h : i < b.size, VR σ v (.int .u8 (b[i].toNat : Nat)) := by
  obtain ⟨h1, e⟩ := bi_some.1 e
  rw [force_eq] at e
  refine ⟨_, e, fun σ b hb => ?_⟩
  cases hb
  have hi : i < b.size := by simpa [Nat.blt_eq] using h1
  refine ⟨hi, ?_⟩
  have hi2 : i < b.data.toList.length := by rw [Array.length_toList]; exact hi
  have := pk_get i b.data.toList hi2
  have e2 : b[i] = b.data.toList[i] := by simp [ByteArray.getElem_eq_getElem_data]
  rw [e2, this]
  exact .i .u8 _

theorem oIndex_ok {xt : TypeId} {x ix : Operand} (e : oIndex xt x ix P nt s = .mk f) : PureF P nt (.index xt x ix) s f := by
  rcases cO_inv e with h | ⟨g, hg, e1⟩
  · exact PureF.dead h
  rcases cO_inv e1 with h | ⟨gi, hgi, e2⟩
  · exact PureF.dead h
  cases e2
  intro ih t h k r er
  obtain ⟨c, n, hi, e3⟩ := numK_some er
  have e3 : indexK (arrT P xt) (strT P xt) n (fun v => k (s v t) h) (g t) = some r := e3
  cases hv : g t <;> rw [hv] at e3 <;> try (exact absurd e3 (by intro e; cases e))
  case s p l =>
    obtain ⟨hst, e4⟩ := bi_some.1 e3
    obtain ⟨v, e5, hvv⟩ := indexS_ok e4
    refine ⟨v, e5, fun σ a cx ht dst ty pos after gd => ?_⟩
    have h1 := hg σ t a cx ht
    rw [hv] at h1
    have h2 := hgi σ t a cx ht
    rw [hi] at h2
    obtain ⟨kk, hk, h2⟩ := h2.int_i
    generalize hx : a.eval x = y at h1
    have h1' := h1
    cases h1 with | s b =>
    obtain ⟨hlt, h3⟩ := hvv σ b h1'
    refine ⟨_, fun w => ?_, h3⟩
    have hu := strT_spec hst
    have hb : b[n]? = some b[n] := by simp [hlt]
    simp [execOp, Instr.index, asIntOf, underlying, hu, hx, h2, hb]
  case a m l =>
    cases ha : arrT P xt with
    | none => rw [ha] at e3; cases e3
    | some q =>
      rw [ha] at e3
      cases q with | mk len es agg =>
      obtain ⟨hlt, e4⟩ := bi_some.1 e3
      obtain ⟨v, e5, hpv⟩ := partK_some e4
      refine ⟨v, e5, fun σ a cx ht dst ty pos after gd => ?_⟩
      have h1 := hg σ t a cx ht
      rw [hv] at h1
      have h2 := hgi σ t a cx ht
      rw [hi] at h2
      obtain ⟨kk, hk, h2⟩ := h2.int_i
      obtain ⟨el, hu, hsh⟩ := arrT_spec ha
      generalize hx : a.eval x = y at h1
      cases h1 with | @a _ C hC =>
      obtain ⟨z, h3, h4⟩ := part_run (cs := C) hsh (hpv σ _ hC Array.length_toList)
      refine ⟨z, fun w => ?_, h4⟩
      have hlt : n < len := by simpa [Nat.blt_eq] using hlt
      have hsz := sizeT_run (shape_spec hsh).1 w
      have h3 : (part el C (n * es)).run P w = .ok z w := h3 w
      simp only [execOp, Instr.index, asIntOf, Sem.run_bind, h2, Sem.run_pure, Result.andThen_ok, underlying, run_program, hu, hx]
      have c1 : (0 : Int) ≤ Int.ofNat n ∧ Int.ofNat n < (len : Int) := ⟨Int.natCast_nonneg n, by show (n : Int) < len; omega⟩
      rw [if_pos c1]
      simp only [Sem.run_bind, hsz, Result.andThen_ok]
      have : (Int.ofNat n).toNat = n := rfl
      rw [this, h3]; rfl

/-- a bound -/
def BOKb (P : Program) (nt : Nat) (x : Option Operand) (g : Bo) : Prop := ∀ d t q r, g d t q = some r → ∃ n, q n = some r ∧
  ∀ (σ : Sg) (a : Act), Ctx P σ → TR σ nt t a.tmps → match x with
    | none => n = d
    | some x => ∃ k, a.eval x = .int k (Int.ofNat n)
theorem cB_inv {x : Option Operand} {k : Bo → Cl} {f : F} (e : cB P nt x k = .mk f) : Dead f ∨ ∃ g, BOKb P nt x g ∧ k g = .mk f := by
  cases x with
  | none => exact .inr ⟨_, fun d t q r e => ⟨d, e, fun _ _ _ _ => rfl⟩, e⟩
  | some x =>
    rcases cO_inv e with h | ⟨g, hg, e1⟩
    · exact .inl h
    · refine .inr ⟨_, fun d t q r e => ?_, e1⟩
      obtain ⟨c, n, hv, e2⟩ := numK_some e
      refine ⟨n, e2, fun σ a cx ht => ?_⟩
      have h1 := hg σ t a cx ht
      rw [hv] at h1
      obtain ⟨kk, _, h⟩ := h1.int_i
      exact ⟨kk, h⟩

theorem sliceBound_run {k : IntKind} {n y : Nat} {c : BoundsCode} (h : n ≤ y) (w : World) : (Instr.sliceBound (.int k (Int.ofNat n)) y c).run P w = .ok n w := by
  have h1 : (0 : Int) ≤ Int.ofNat n ∧ Int.ofNat n ≤ (y : Int) := ⟨Int.natCast_nonneg n, by show (n : Int) ≤ y; omega⟩
  simp only [Instr.sliceBound, asIntOf, Sem.run_bind, Sem.run_pure, Result.andThen_ok]
  rw [if_pos h1]; rfl

/-- the bounds of a cut -/
theorem bounds_run {nt : Nat} {lo hi : Option Operand} {gl gh : Bo} {a : Act} {isS : Bool} {len cap x y : Nat}
    (h1 : match lo with | none => x = 0 | some o => ∃ k, a.eval o = .int k (Int.ofNat x)) (h2 : match hi with | none => y = len | some o => ∃ k, a.eval o = .int k (Int.ofNat y))
    (hxy : x ≤ y) (hy : y ≤ cap) (w : World) : (Instr.sliceBounds isS len cap (lo.map a.eval) (hi.map a.eval) none).run P w = .ok (x, y, cap) w := by
  cases lo with
  | none =>
    subst h1
    cases hi with
    | none => subst h2; simp [Instr.sliceBounds]
    | some o => obtain ⟨k, hk⟩ := h2; simp only [Instr.sliceBounds, Option.map_some, Option.map_none, hk, Sem.run_bind, Sem.run_pure, Result.andThen_ok, sliceBound_run hy]
  | some p =>
    obtain ⟨kp, hkp⟩ := h1
    cases hi with
    | none => subst h2; simp only [Instr.sliceBounds, Option.map_some, Option.map_none, hkp, Sem.run_bind, Sem.run_pure, Result.andThen_ok, sliceBound_run hxy]
    | some o => obtain ⟨k, hk⟩ := h2; simp only [Instr.sliceBounds, Option.map_some, Option.map_none, hk, hkp, Sem.run_bind, Sem.run_pure, Result.andThen_ok, sliceBound_run hy, sliceBound_run hxy]

theorem oSlice_ok {ty : TypeId} {x : Operand} {lo hi mx : Option Operand} (e : oSlice ty x lo hi mx P nt s = .mk f) : PureF P nt (.slice ty x lo hi mx) s f := by
  cases mx with
  | some m => exact PureF.dead (dead_of e)
  | none =>
    rcases cO_inv e with h | ⟨g, hg, e1⟩
    · exact PureF.dead h
    rcases cB_inv e1 with h | ⟨gl, hgl, e2⟩
    · exact PureF.dead h
    rcases cB_inv e2 with h | ⟨gh, hgh, e3⟩
    · exact PureF.dead h
    cases e3
    intro ih t h k r er
    obtain ⟨p, e4, hp⟩ := hgl _ _ _ _ er
    have e4 : sliceK (strT P ty) (elemT P ty) (fun d => gh d t) p (fun v => k (s v t) h) (g t) = some r := e4
    cases hv : g t <;> rw [hv] at e4 <;> try (exact absurd e4 (by intro e; cases e))
    case s n l =>
      obtain ⟨hst, e5⟩ := bi_some.1 e4
      obtain ⟨q, e6, hq⟩ := hgh _ _ _ _ e5
      obtain ⟨c1, e7⟩ := bi_some.1 e6
      obtain ⟨c2, e8⟩ := bi_some.1 e7
      rw [force_eq, force_eq] at e8
      have c1 : p ≤ q := Nat.le_of_ble_eq_true c1
      have c2 : q ≤ l := Nat.le_of_ble_eq_true c2
      refine ⟨_, e8, fun σ a cx ht dst ty' pos after gd => ?_⟩
      have h1 := hg σ t a cx ht
      rw [hv] at h1
      generalize hx : a.eval x = y at h1
      cases h1 with | s b =>
      have hb := bounds_run (P := P) (isS := false) (gl := gl) (gh := gh) (nt := nt) (hp σ a cx ht) (hq σ a cx ht) c1 c2
      have hu := strT_spec hst
      refine ⟨.string (b.extract p q), fun w => ?_, ?_⟩
      · simp [execOp, Instr.sliceAt, Instr.slice, underlying, hu, hx, hb w]
      · have h3 := VR.s (σ := σ) (b.extract p q)
        have e1 : (b.extract p q).data.toList = (b.data.toList.drop p).take (q - p) := by
          rw [ByteArray.data_extract, Array.toList_extract]
        have e2 : (b.extract p q).size = q - p := by rw [ByteArray.size_extract]; omega
        rw [e1, e2, pk_take, pk_drop] at h3
        exact h3
    case l id off n es =>
      cases hel : elemT P ty with
      | none => rw [hel] at e4; cases e4
      | some ee =>
        rw [hel] at e4
        obtain ⟨hee, e5⟩ := bi_some.1 e4
        have hee : ee = es := Nat.eq_of_beq_eq_true hee
        subst hee
        obtain ⟨q, e6, hq⟩ := hgh _ _ _ _ e5
        obtain ⟨c1, e7⟩ := bi_some.1 e6
        obtain ⟨c2, e8⟩ := bi_some.1 e7
        rw [force_eq, force_eq] at e8
        have c1 : p ≤ q := Nat.le_of_ble_eq_true c1
        have c2 : q ≤ n := Nat.le_of_ble_eq_true c2
        obtain ⟨el, hu, hsz⟩ := elemT_spec hel
        have hsz := sizeT_run hsz
        refine ⟨_, e8, fun σ a cx ht dst ty' pos after gd => ?_⟩
        have h1 := hg σ t a cx ht
        rw [hv] at h1
        generalize hx : a.eval x = y at h1
        cases h1 with
        | @l _ _ _ _ b sz cap hs hi2 hc hfit =>
          have hb := bounds_run (P := P) (isS := true) (gl := gl) (gh := gh) (nt := nt) (cap := cap) (hp σ a cx ht) (hq σ a cx ht) c1 (by omega)
          by_cases hm : cap = p
          · have hq0 : q = p := by omega
            subst hq0
            subst hm
            refine ⟨.slice (some ⟨b, off, none⟩) (cap - cap) (cap - cap), fun w => ?_, ?_⟩
            · simp [execOp, Instr.sliceAt, Instr.slice, underlying, hu, hx, hb w, hsz w]
            · simp only [Nat.sub_self]
              have : Nat.sub cap cap = 0 := Nat.sub_self cap
              rw [this]
              exact .l0 hs hi2
          · refine ⟨.slice (some ⟨b, off + p * ee, none⟩) (q - p) (cap - p), fun w => ?_, ?_⟩
            · simp only [execOp, Instr.sliceAt, Instr.slice, underlying, Sem.run_bind, run_program, Result.andThen_ok, hu, hx, Sem.run_pure, Option.map_none, hb w, hsz w, hm, if_false, Option.map_some, Addr.add]
              by_cases h0 : p * ee = 0 <;> simp [h0]
            · refine .l hs hi2 (show q - p ≤ cap - p by omega) ?_
              have : p * ee + (cap - p) * ee = cap * ee := by rw [← Nat.add_mul]; congr 1; omega
              show off + p * ee + (cap - p) * ee ≤ sz
              rw [Nat.add_assoc, this]; exact hfit
        | @l0 _ _ _ b sz o hs hi2 =>
          have hp0 : p = 0 := by omega
          have hq0 : q = 0 := by omega
          subst hp0; subst hq0
          have hb := bounds_run (P := P) (isS := true) (gl := gl) (gh := gh) (nt := nt) (cap := 0) (hp σ a cx ht) (hq σ a cx ht) c1 (by omega)
          exact ⟨.slice (some ⟨b, o, none⟩) 0 0, fun w => by simp [execOp, Instr.sliceAt, Instr.slice, underlying, hu, hx, hb w, hsz w], .l0 hs hi2⟩
    case k es n xs =>
      cases hel : elemT P ty with
      | none => rw [hel] at e4; cases e4
      | some ee =>
        rw [hel] at e4
        obtain ⟨hee, e5⟩ := bi_some.1 e4
        have hee : ee = es := Nat.eq_of_beq_eq_true hee
        subst hee
        obtain ⟨q, e6, hq⟩ := hgh _ _ _ _ e5
        obtain ⟨c1, e7⟩ := bi_some.1 e6
        obtain ⟨c2, e8⟩ := bi_some.1 e7
        obtain ⟨ys, e9, hys⟩ := dropK_some e8
        rw [force_eq] at e9
        have c1 : p ≤ q := Nat.le_of_ble_eq_true c1
        have c2 : q ≤ n := Nat.le_of_ble_eq_true c2
        obtain ⟨el, hu, hsz⟩ := elemT_spec hel
        have hsz := sizeT_run hsz
        refine ⟨_, e9, fun σ a cx ht dst ty' pos after gd => ?_⟩
        have h1 := hg σ t a cx ht
        rw [hv] at h1
        generalize hx : a.eval x = y at h1
        have slice_run : ∀ (b off cap : Nat), a.eval x = .slice (some ⟨b, off, none⟩) n cap → n ≤ cap → ∃ o', (∀ w, (execOp a.eval ⟨dst, .slice ty x lo hi none, ty', pos, after, gd⟩).run P w = .ok (.value (.slice (some ⟨b, o', none⟩) (q - p) (cap - p))) w) ∧ (q - p = 0 ∨ o' = off + p * ee) := fun b off cap hx hc => by
          have hb := bounds_run (P := P) (isS := true) (gl := gl) (gh := gh) (nt := nt) (cap := cap) (hp σ a cx ht) (hq σ a cx ht) c1 (by omega)
          by_cases hm : cap = p
          · have hq0 : q = p := by omega
            subst hq0
            subst hm
            exact ⟨off, fun w => by simp [execOp, Instr.sliceAt, Instr.slice, underlying, hu, hx, hb w, hsz w], .inl (Nat.sub_self _)⟩
          · refine ⟨off + p * ee, fun w => ?_, .inr rfl⟩
            simp only [execOp, Instr.sliceAt, Instr.slice, underlying, Sem.run_bind, run_program, Result.andThen_ok, hu, hx, Sem.run_pure, Option.map_none, hb w, hsz w, hm, if_false, Option.map_some, Addr.add]
            by_cases h0 : p * ee = 0 <;> simp [h0]
        cases h1 with
        | @k _ _ b off cap m _ C hf hl hnm hc hxs =>
          obtain ⟨o', hrun, ho⟩ := slice_run b off cap hx hc
          refine ⟨_, hrun, ?_⟩
          rcases ho with h0 | rfl
          · have : Nat.sub q p = 0 := h0
            rw [this, h0]
            exact .k0
          · obtain ⟨g1, g2⟩ := hys σ _ hxs
            rw [fz_len hl] at g1
            rw [fz_drop] at g2
            have g1 : p * ee ≤ m := g1
            refine .k hf (show off + p * ee + (m - p * ee) ≤ C.length by omega) ?_ (show q - p ≤ cap - p by omega) g2
            have : (q - p) * ee + p * ee ≤ n * ee := by rw [← Nat.add_mul]; exact Nat.mul_le_mul_right _ (by omega)
            show (q - p) * ee ≤ m - p * ee
            omega
        | @k0 _ b o cap _ =>
          obtain ⟨o', hrun, ho⟩ := slice_run b o cap hx (Nat.zero_le _)
          refine ⟨_, hrun, ?_⟩
          have h0 : q - p = 0 := by omega
          have : Nat.sub q p = 0 := h0
          rw [this, h0]
          exact .k0
    case z tag =>
      cases hel : elemT P ty with
      | none => rw [hel] at e4; cases e4
      | some ee =>
        rw [hel] at e4
        obtain ⟨q, e6, hq⟩ := hgh _ _ _ _ e4
        obtain ⟨c0, e6⟩ := bi_some.1 e6
        obtain ⟨c1, e7⟩ := bi_some.1 e6
        obtain ⟨c2, e8⟩ := bi_some.1 e7
        have c0 : tag = 1 := Nat.eq_of_beq_eq_true c0
        have c1 : q = 0 := Nat.eq_of_beq_eq_true c1
        have c2 : p = 0 := Nat.eq_of_beq_eq_true c2
        subst c0; subst c1; subst c2
        obtain ⟨el, hu, hsz⟩ := elemT_spec hel
        have hsz := sizeT_run hsz
        refine ⟨_, e8, fun σ a cx ht dst ty' pos after gd => ?_⟩
        have h1 := hg σ t a cx ht
        rw [hv] at h1
        generalize hx : a.eval x = y at h1
        cases h1
        have hb := bounds_run (P := P) (isS := true) (gl := gl) (gh := gh) (nt := nt) (cap := 0) (hp σ a cx ht) (hq σ a cx ht) (Nat.le_refl 0) (by omega)
        exact ⟨.slice none 0 0, fun w => by simp [execOp, Instr.sliceAt, Instr.slice, underlying, hu, hx, hb w, hsz w], .z1⟩

theorem oFieldAddr_ok {st : TypeId} {x : Operand} {fd : Nat} (e : oFieldAddr st x fd P nt s = .mk f) : PureF P nt (.fieldAddr st x fd) s f := by
  rcases cO_inv e with h | ⟨g, hg, e1⟩
  · exact PureF.dead h
  rcases ocl_inv e1 with h | ⟨q, hq, e2⟩
  · exact PureF.dead h
  cases q with | mk off n agg =>
  cases n with
  | zero => exact PureF.dead (dead_of e2)
  | succ n =>
    cases e2
    intro ih t h k r er
    have e3 : fieldA off (fun v => k (s v t) h) (g t) = some r := er
    obtain ⟨fs, fdd, hu, hf, rfl, hsh⟩ := fieldT_spec hq
    have hsz := sizeT_run (shape_spec hsh).1
    have hrun : ∀ (a : Act) (b o : Nat) dst ty pos after gd, a.eval x = .pointer (some ⟨b, o, none⟩) → ∀ w, (execOp a.eval ⟨dst, .fieldAddr st x fd, ty, pos, after, gd⟩).run P w = .ok (.value (.pointer (some ⟨b, o + fdd.offset, none⟩))) w := fun a b o dst ty pos after gd hx w => by
      simp only [execOp, Instr.fieldAt, underlying, Sem.run_bind, run_program, Result.andThen_ok, hu, Sem.run_pure, hf, hx, Instr.sureAddr, fieldPlace, hsz w, Addr.add]
      by_cases h0 : fdd.offset = 0 <;> simp [h0]
    cases hv : g t <;> rw [hv] at e3 <;> try (exact absurd e3 (by intro e; cases e))
    case p id o =>
      have e3 : force (Nat.add o fdd.offset) (fun o => k (s (.p id o) t) h) = some r := e3
      rw [force_eq] at e3
      refine ⟨_, e3, fun σ a cx ht dst ty pos after gd => ?_⟩
      have h1 := hg σ t a cx ht
      rw [hv] at h1
      generalize hx : a.eval x = y at h1
      cases h1 with | @p _ _ b sz hs hi =>
      exact ⟨_, hrun a b o dst ty pos after gd hx, .p hs hi⟩
    case q xs =>
      obtain ⟨ys, e4, hys⟩ := dropK_some (show dropK fdd.offset xs (fun r => k (s (.q r) t) h) = some r from e3)
      refine ⟨_, e4, fun σ a cx ht dst ty pos after gd => ?_⟩
      have h1 := hg σ t a cx ht
      rw [hv] at h1
      generalize hx : a.eval x = y at h1
      cases h1 with | @q b o m _ C hfz hl hxs =>
      obtain ⟨g1, g2⟩ := hys σ _ hxs
      rw [fz_len hl] at g1
      rw [fz_drop] at g2
      exact ⟨_, hrun a b o dst ty pos after gd hx, .q hfz (show o + fdd.offset + (m - fdd.offset) ≤ C.length by omega) g2⟩

theorem oIndexAddr_ok {ty : TypeId} {x ix : Operand} (e : oIndexAddr ty x ix P nt s = .mk f) : PureF P nt (.indexAddr ty x ix) s f := by
  rcases cO_inv e with h | ⟨g, hg, e1⟩
  · exact PureF.dead h
  rcases cO_inv e1 with h | ⟨gi, hgi, e2⟩
  · exact PureF.dead h
  cases e2
  intro ih t h k r er
  obtain ⟨c, n, hi, e3⟩ := numK_some er
  have e3 : indexA (arrT P ty) (elemT P ty) n (fun v => k (s v t) h) (g t) = some r := e3
  cases hv : g t <;> rw [hv] at e3 <;> try (exact absurd e3 (by intro e; cases e))
  case l id off m es =>
    cases hel : elemT P ty with
    | none => rw [hel] at e3; cases e3
    | some ee =>
      rw [hel] at e3
      obtain ⟨hee, e4⟩ := bi_some.1 e3
      have hee : ee = es := Nat.eq_of_beq_eq_true hee
      subst hee
      obtain ⟨hlt, e5⟩ := bi_some.1 e4
      have hlt : n < m := by simpa [Nat.blt_eq] using hlt
      rw [force_eq] at e5
      obtain ⟨el, hu, hsz⟩ := elemT_spec hel
      have hsz := sizeT_run hsz
      refine ⟨_, e5, fun σ a cx ht dst ty' pos after gd => ?_⟩
      have h1 := hg σ t a cx ht
      rw [hv] at h1
      have h2 := hgi σ t a cx ht
      rw [hi] at h2
      obtain ⟨kk, hk, h2⟩ := h2.int_i
      generalize hx : a.eval x = y at h1
      cases h1 with
      | l0 => omega
      | @l _ _ _ _ b sz cap hs hi2 hc hfit =>
        refine ⟨.pointer (some ⟨b, off + n * ee, none⟩), fun w => ?_, .p hs hi2⟩
        have c1 : (0 : Int) ≤ Int.ofNat n ∧ Int.ofNat n < (m : Int) := ⟨Int.natCast_nonneg n, by show (n : Int) < m; omega⟩
        simp only [execOp, Instr.indexAt, asIntOf, underlying, Sem.run_bind, run_program, Result.andThen_ok, hu, Sem.run_pure, hx, h2, Sem.run_ite, if_pos c1, hsz w, Addr.add]
        have : (Int.ofNat n).toNat = n := rfl
        rw [this]
        by_cases h0 : n * ee = 0 <;> simp [h0]
  case k es m xs =>
    cases hel : elemT P ty with
    | none => rw [hel] at e3; cases e3
    | some ee =>
      rw [hel] at e3
      obtain ⟨hee, e4⟩ := bi_some.1 e3
      have hee : ee = es := Nat.eq_of_beq_eq_true hee
      subst hee
      obtain ⟨hlt, e5⟩ := bi_some.1 e4
      have hlt : n < m := by simpa [Nat.blt_eq] using hlt
      obtain ⟨ys, e6, hys⟩ := dropK_some e5
      obtain ⟨el, hu, hsz⟩ := elemT_spec hel
      have hsz := sizeT_run hsz
      refine ⟨_, e6, fun σ a cx ht dst ty' pos after gd => ?_⟩
      have h1 := hg σ t a cx ht
      rw [hv] at h1
      have h2 := hgi σ t a cx ht
      rw [hi] at h2
      obtain ⟨kk, hk, h2⟩ := h2.int_i
      generalize hx : a.eval x = y at h1
      cases h1 with
      | k0 => omega
      | @k _ _ b off cap mm _ C hf hl hnm hc hxs =>
        obtain ⟨g1, g2⟩ := hys σ _ hxs
        rw [fz_len hl] at g1
        rw [fz_drop] at g2
        refine ⟨.pointer (some ⟨b, off + n * ee, none⟩), fun w => ?_, .q hf (show off + n * ee + (mm - n * ee) ≤ C.length by have : n * ee ≤ mm := g1; omega) g2⟩
        have c1 : (0 : Int) ≤ Int.ofNat n ∧ Int.ofNat n < (m : Int) := ⟨Int.natCast_nonneg n, by show (n : Int) < m; omega⟩
        simp only [execOp, Instr.indexAt, asIntOf, underlying, Sem.run_bind, run_program, Result.andThen_ok, hu, Sem.run_pure, hx, h2, Sem.run_ite, if_pos c1, hsz w, Addr.add]
        have : (Int.ofNat n).toNat = n := rfl
        rw [this]
        by_cases h0 : n * ee = 0 <;> simp [h0]
  case p id off =>
    cases ha : arrT P ty with
    | none => rw [ha] at e3; cases e3
    | some q =>
      rw [ha] at e3
      cases q with | mk len es agg =>
      obtain ⟨hl1, e4⟩ := bi_some.1 e3
      obtain ⟨hlt, e5⟩ := bi_some.1 e4
      have hlt : n < len := by simpa [Nat.blt_eq] using hlt
      rw [force_eq] at e5
      obtain ⟨el, hu, hsh⟩ := arrT_spec ha
      have hsz := sizeT_run (shape_spec hsh).1
      refine ⟨_, e5, fun σ a cx ht dst ty' pos after gd => ?_⟩
      have h1 := hg σ t a cx ht
      rw [hv] at h1
      have h2 := hgi σ t a cx ht
      rw [hi] at h2
      obtain ⟨kk, hk, h2⟩ := h2.int_i
      generalize hx : a.eval x = y at h1
      cases h1 with | @p _ _ b sz hs hi2 =>
        refine ⟨.pointer (some ⟨b, off + n * es, none⟩), fun w => ?_, .p hs hi2⟩
        have c1 : (0 : Int) ≤ Int.ofNat n ∧ Int.ofNat n < (len : Int) := ⟨Int.natCast_nonneg n, by show (n : Int) < len; omega⟩
        simp only [execOp, Instr.indexAt, asIntOf, underlying, Sem.run_bind, run_program, Result.andThen_ok, hu, Sem.run_pure, hx, h2, Instr.sureAddr, Sem.run_ite, if_pos c1, hsz w, Addr.add]
        have : (Int.ofNat n).toNat = n := rfl
        rw [this]
        by_cases h0 : n * es = 0 <;> simp [h0]

theorem oNil_ok {x : Operand} (e : oNil x P nt s = .mk f) : PureF P nt (.nilCheck x) s f := by
  rcases cO_inv e with h | ⟨g, hg, e1⟩
  · exact PureF.dead h
  cases e1
  intro ih t h k r er
  have er : nilC (g t) (fun v => k (s v t) h) = some r := er
  cases hv : g t <;> rw [hv] at er <;> try (exact absurd er (by intro e; cases e))
  all_goals
    refine ⟨_, er, fun σ a cx ht dst ty' pos after gd => ?_⟩
    have h1 := hg σ t a cx ht
    rw [hv] at h1
    refine ⟨a.eval x, fun w => ?_, h1⟩
    generalize hx : a.eval x = y at h1
    cases h1
    simp [execOp, hx]

end
end Go.Ev
namespace Go.Ev
section
variable {P : Program} {nt : Nat} {s : S} {f : F}

theorem zipIdx_fold (vs : List Value) (off : Nat) (k : Nat) (cells : List Value) (h : off + k + vs.length ≤ cells.length) :
    ((vs.zipIdx k).foldl (fun (cs : List Value) (q : Value × Nat) => cs.set (off + q.2) q.1) cells) = cells.take (off + k) ++ (vs ++ cells.drop (off + k + vs.length)) := by
  induction vs generalizing k cells with
  | nil => simp
  | cons v vs ih =>
    simp only [List.length_cons] at h
    rw [List.zipIdx_cons, List.foldl_cons, ih (k + 1) _ (by rw [List.length_set]; omega)]
    have h1 : off + k < cells.length := by omega
    rw [show off + (k + 1) = off + k + 1 from by omega]
    have e1 : (cells.set (off + k) v).take (off + k + 1) = cells.take (off + k) ++ [v] := by
      rw [List.take_add_one, List.take_set_of_le (Nat.le_refl _)]
      simp [h1]
    have e2 : (cells.set (off + k) v).drop (off + k + 1 + vs.length) = cells.drop (off + k + (vs.length + 1)) := by
      rw [List.drop_set_of_lt (by omega)]; congr 1; omega
    rw [e1, e2]; simp

theorem fold_toList (v : Array Value) (off : Nat) (cells : Array Value) :
    (v.zipIdx.foldl (fun (cs : Array Value) (q : Value × Nat) => cs.setIfInBounds (off + q.2) q.1) cells).toList = (v.toList.zipIdx.foldl (fun (cs : List Value) (q : Value × Nat) => cs.set (off + q.2) q.1) cells.toList) := by
  rw [← Array.foldl_toList, Array.toList_zipIdx]
  generalize v.toList.zipIdx = l
  induction l generalizing cells with
  | nil => rfl
  | cons q l ih => rw [List.foldl_cons, List.foldl_cons, ih, Array.toList_setIfInBounds]

/-- what a row of parts does to a row of cells -/
def FillOK (P : Program) (nt : Nat) (ty : TypeId) (ps : List (Nat × Operand)) (g : Fill) : Prop := ∀ t cs q r, g t cs q = some r → ∃ x, q x = some r ∧
  ∀ (σ : Sg) (a : Act) (C : Array Value) (pl : Nat → Option (Nat × Nat)), Ctx P σ → TR σ nt t a.tmps → VRs σ cs C.toList → (∀ i off n, placeT P ty i = some (.mk off n) → pl i = some (off, n)) →
    ∃ D : Array Value, Instr.fill pl C (ps.map fun p => (p.1, a.eval p.2)) = some D ∧ VRs σ x D.toList ∧ D.size = C.size

theorem cFill_inv {ty : TypeId} {ps : List (Nat × Operand)} {k : Fill → Cl} (e : cFill P nt ty ps k = .mk f) : Dead f ∨ ∃ g, FillOK P nt ty ps g ∧ k g = .mk f := by
  induction ps generalizing k with
  | nil => exact .inr ⟨_, fun t cs q r e => ⟨cs, e, fun σ a C pl _ _ h _ => ⟨C, rfl, h, rfl⟩⟩, e⟩
  | cons p ps ih =>
    obtain ⟨i, x⟩ := p
    rcases ocl_inv e with h | ⟨sh, hsh, e1⟩
    · exact .inl h
    cases sh with | mk off n =>
    rcases cO_inv e1 with h | ⟨g, hg, e2⟩
    · exact .inl h
    rcases ih e2 with h | ⟨fl, hfl, e3⟩
    · exact .inl h
    refine .inr ⟨_, fun t cs q r er => ?_, e3⟩
    obtain ⟨m, ys, e4, hm⟩ := cellsK_some er
    obtain ⟨hmn, e5⟩ := bi_some.1 e4
    have hmn : m = n := Nat.eq_of_beq_eq_true hmn
    subst hmn
    obtain ⟨z, e6, hz⟩ := overK_some e5
    obtain ⟨w, e7, hw⟩ := hfl _ _ _ _ e6
    refine ⟨w, e7, fun σ a C pl cx ht hC hpl => ?_⟩
    obtain ⟨h1, h2, _⟩ := hm σ _ (hg σ t a cx ht)
    obtain ⟨h3, h4⟩ := hz σ _ _ h2 hC
    have hp : pl i = some (off, m) := hpl i _ _ hsh
    have hlen : (a.eval x).cells.toList.length = m := by rw [Array.length_toList]; exact h1
    rw [hlen] at h3 h4
    have hfold := fold_toList (a.eval x).cells off C
    have hz0 := zipIdx_fold (a.eval x).cells.toList off 0 C.toList (by rw [hlen]; omega)
    rw [hlen] at hz0
    simp only [Nat.add_zero] at hz0
    rw [hz0] at hfold
    obtain ⟨D, g1, g2, g3⟩ := hw σ a _ pl cx ht (by rw [hfold]; exact h4) hpl
    refine ⟨D, ?_, g2, ?_⟩
    · simp only [List.map_cons, Instr.fill, hp]
      have hl : C.toList.length = C.size := Array.length_toList
      have : ¬ (decide ((a.eval x).cells.size ≠ m) || decide (off + (a.eval x).cells.size > C.size)) = true := by
        rw [h1]; simp; omega
      rw [if_neg this]
      exact g1
    · rw [g3]
      have := congrArg List.length hfold
      rw [Array.length_toList] at this
      rw [this]
      have : C.toList.length = C.size := Array.length_toList
      simp only [List.length_append, List.length_take, List.length_drop, hlen]
      omega

theorem fields_run {ty : TypeId} (h : fieldsOk P ty = true) : ∃ fs, P.underlying ty = some (.struct fs) ∧ ∃ pl : Array (Nat × Nat), (∀ w, (fs.mapM (m := Sem) fun f => do pure (f.offset, ← sizeOf f.type)).run P w = .ok pl w) ∧
    ∀ i off n b, fieldT P ty i = some (.mk off n b) → pl[i]? = some (off, n) := by
  unfold fieldsOk at h
  split at h
  · rename_i fs hu
    refine ⟨fs, hu, fs.map (fun f => (f.offset, P.cellsOf f.type)), fun w => ?_, fun i off n b hf => ?_⟩
    · rw [Array.mapM_eq_mapM_toList]
      have : ∀ (l : List Field), (l.all fun f => (P.info? f.type).isSome) = true → (l.mapM (m := Sem) fun f => do pure (f.offset, ← sizeOf f.type)).run P w = .ok (l.map fun f => (f.offset, P.cellsOf f.type)) w := by
        intro l
        induction l with
        | nil => intro _; rfl
        | cons q l ih =>
          intro hl
          simp only [List.all_cons, Bool.and_eq_true] at hl
          obtain ⟨i, hi⟩ := Option.isSome_iff_exists.1 hl.1
          rw [List.mapM_cons]
          have hs := sizeT_run (P := P) (t := q.type) (n := P.cellsOf q.type) (by simp [sizeT, Program.cellsOf, hi]) w
          simp only [Sem.run_bind, hs, Result.andThen_ok, Sem.run_pure, ih hl.2, List.map_cons]
      rw [Sem.run_map, this _ h]
      simp only [Result.andThen_ok]
      congr 1
      apply Array.toList_inj.1
      rw [Array.toList_map]
    · obtain ⟨fs', fd, hu', hfd, rfl, hsh⟩ := fieldT_spec hf
      rw [hu] at hu'
      cases hu'
      rw [Array.getElem?_map, hfd]
      have hs := (shape_spec hsh).1
      unfold sizeT at hs
      simp [Program.cellsOf, hs]
  · cases h

theorem zeroT_run {t : TypeId} {v : V} (h : zeroT P t = some v) : ∃ z, (∀ w, (zeroValue t).run P w = .ok z w) ∧ ∀ σ, VR σ v z := by
  obtain ⟨i, h1, h2⟩ := ob_some.1 h
  obtain ⟨z, h3, h4⟩ := ob_some.1 h2
  exact ⟨z, fun w => by simp [zeroValue, typeInfo, h1, h3], fun σ => ofValue_ok h4 σ⟩

theorem unA_inv {v : V} {k : Nat → V → Cl} (e : unA v k = .mk f) : Dead f ∨ ∃ n l, v = .a n l ∧ k n l = .mk f := by
  cases v <;> first | exact .inr ⟨_, _, rfl, e⟩ | exact .inl (dead_of e)

theorem oBuild_ok {ty : TypeId} {ps : Array (Nat × Operand)} (e : oBuild ty ps P nt s = .mk f) : PureF P nt (.build ty ps) s f := by
  rcases bcl_inv e with h | ⟨hfs, e1⟩
  · exact PureF.dead h
  rcases ocl_inv e1 with h | ⟨z, hz, e2⟩
  · exact PureF.dead h
  rcases unA_inv e2 with h | ⟨n, zc, rfl, e3⟩
  · exact PureF.dead h
  rcases cFill_inv e3 with h | ⟨fl, hfl, e4⟩
  · exact PureF.dead h
  cases e4
  intro ih t h k r er
  obtain ⟨x, e5, hx⟩ := hfl _ _ _ _ er
  refine ⟨_, e5, fun σ a cx ht dst ty' pos after gd => ?_⟩
  obtain ⟨zv, hz1, hz2⟩ := zeroT_run hz
  have hzv := hz2 σ
  cases hzv with | @a _ C hC0 =>
  have hC : C.size = C.size ∧ VRs σ zc C.toList := ⟨rfl, hC0⟩
  cases harr : arrT P ty with
  | some ar =>
    cases ar with | mk an aes ab =>
    obtain ⟨el, hu, hsh⟩ := arrT_spec harr
    have hsz := sizeT_run (shape_spec hsh).1
    obtain ⟨D, g1, g2, g3⟩ := hx σ a C (fun i => some (i * aes, aes)) cx ht hC.2 (fun i off n hp => by
      unfold placeT at hp
      rw [harr] at hp
      have hp : forceO (Nat.mul i aes) (fun o => some (Pl.mk o aes)) = some (.mk off n) := hp
      rw [forceO_eq] at hp
      cases hp; rfl)
    refine ⟨.agg D, fun w => ?_, ?_⟩
    · simp only [execOp, Instr.build, Sem.run_bind, hz1, Result.andThen_ok, underlying, run_program, hu, Sem.run_pure, hsz, Value.cells, Array.toList_map]
      rw [g1]; rfl
    · have := VR.a g2
      rw [g3, hC.1] at this
      exact this
  | none =>
  have hfs : fieldsOk P ty = true := by unfold buildOk at hfs; rw [harr] at hfs; exact hfs
  obtain ⟨fs, hu, pl, hpl, hpl2⟩ := fields_run hfs
  obtain ⟨D, g1, g2, g3⟩ := hx σ a C (pl[·]?) cx ht hC.2 (fun i off n hp => by
    unfold placeT at hp
    rw [harr] at hp
    obtain ⟨q', hq1, hq2⟩ := ob_some.1 hp
    cases q' with | mk o' n' b' =>
    cases hq2
    exact hpl2 i _ _ _ hq1)
  refine ⟨.agg D, fun w => ?_, ?_⟩
  · simp only [execOp, Instr.build, Sem.run_bind, hz1, Result.andThen_ok, underlying, run_program, hu, Sem.run_pure, hpl, Value.cells, Array.toList_map]
    have : ps.toList.map (fun x => (x.1, a.eval x.2)) = ps.toList.map (fun p => (p.1, a.eval p.2)) := rfl
    rw [g1]; rfl
  · have := VR.a g2
    rw [g3, hC.1] at this
    exact this

theorem maxN_ok {x y : Operand} {g1 g2 : G} (h1 : GOK P nt x g1) (h2 : GOK P nt y g2) {tys : Array TypeId} : PureF P nt (.call ⟨.builtin .max, #[x, y], tys⟩) s fun _ t h k => natK maxN (g1 t) (g2 t) fun v => k (s v t) h := by
  intro ih t h k r er
  obtain ⟨c, m, d, n, hx, hy, hcd, e1⟩ := natK_some er
  have hcd := Nat.eq_of_beq_eq_true hcd
  subst hcd
  have e2 : k (s (if n ≤ m then .i c m else .i c n) t) h = some r := by
    unfold maxN at e1
    by_cases hle : n ≤ m
    · rw [Nat.ble_eq_true_of_le hle] at e1; rw [if_pos hle]; exact e1
    · have : Nat.ble n m = false := by cases hb : Nat.ble n m with | false => rfl | true => exact absurd (Nat.le_of_ble_eq_true hb) hle
      rw [this] at e1; rw [if_neg hle]; exact e1
  refine ⟨_, e2, fun σ a cx ht dst ty pos after gd => ?_⟩
  have v1 := h1 σ t a cx ht
  have v2 := h2 σ t a cx ht
  rw [hx] at v1; rw [hy] at v2
  obtain ⟨k1, hk1, e3⟩ := v1.int_i
  obtain ⟨k2, hk2, e4⟩ := v2.int_i
  have : k2 = k1 := kindN_inj (by rw [hk1, hk2])
  subst this
  refine ⟨.int k2 (if (Int.ofNat n) > (Int.ofNat m) then Int.ofNat n else Int.ofNat m), fun w => ?_, ?_⟩
  · simp only [execOp, resolve, Sem.run_bind, Sem.run_pure, Result.andThen_ok, invoke, builtin, List.map_toArray, List.map_cons, List.map_nil, e3, e4]
    simp [Builtin.max_, Builtin.max2, e3, e4]
  · by_cases hle : n ≤ m
    · rw [if_pos hle, if_neg (by show ¬ ((n : Int) > m); omega), ← hk1]; exact .i _ _
    · rw [if_neg hle, if_pos (by show ((n : Int) > m); omega), ← hk1]; exact .i _ _

theorem minN_ok {x y : Operand} {g1 g2 : G} (h1 : GOK P nt x g1) (h2 : GOK P nt y g2) {tys : Array TypeId} : PureF P nt (.call ⟨.builtin .min, #[x, y], tys⟩) s fun _ t h k => natK minN (g1 t) (g2 t) fun v => k (s v t) h := by
  intro ih t h k r er
  obtain ⟨c, m, d, n, hx, hy, hcd, e1⟩ := natK_some er
  have hcd := Nat.eq_of_beq_eq_true hcd
  subst hcd
  have e2 : k (s (if m ≤ n then .i c m else .i c n) t) h = some r := by
    unfold minN at e1
    by_cases hle : m ≤ n
    · rw [Nat.ble_eq_true_of_le hle] at e1; rw [if_pos hle]; exact e1
    · have : Nat.ble m n = false := by cases hb : Nat.ble m n with | false => rfl | true => exact absurd (Nat.le_of_ble_eq_true hb) hle
      rw [this] at e1; rw [if_neg hle]; exact e1
  refine ⟨_, e2, fun σ a cx ht dst ty pos after gd => ?_⟩
  have v1 := h1 σ t a cx ht
  have v2 := h2 σ t a cx ht
  rw [hx] at v1; rw [hy] at v2
  obtain ⟨k1, hk1, e3⟩ := v1.int_i
  obtain ⟨k2, hk2, e4⟩ := v2.int_i
  have : k2 = k1 := kindN_inj (by rw [hk1, hk2])
  subst this
  refine ⟨.int k2 (if (Int.ofNat n) < (Int.ofNat m) then Int.ofNat n else Int.ofNat m), fun w => ?_, ?_⟩
  · simp only [execOp, resolve, Sem.run_bind, Sem.run_pure, Result.andThen_ok, invoke, builtin, List.map_toArray, List.map_cons, List.map_nil, e3, e4]
    simp [Builtin.min_, Builtin.min2, e3, e4]
  · by_cases hle : m ≤ n
    · rw [if_pos hle, if_neg (by show ¬ ((n : Int) < m); omega), ← hk1]; exact .i _ _
    · rw [if_neg hle, if_pos (by show ((n : Int) < m); omega), ← hk1]; exact .i _ _

theorem slT_spec {t : TypeId} (h : slT P t = true) : ∃ e, P.underlying t = some (.slice e) := by
  unfold slT at h
  split at h
  · exact ⟨_, by assumption⟩
  · cases h

theorem lenK_ok {x : Operand} {g : G} {ty : TypeId} {r0 : List TypeId} (hg : GOK P nt x g) : PureF P nt (.call ⟨.builtin .len, #[x], (ty :: r0).toArray⟩) s fun _ t h k => lenK (strT P ty) (slT P ty) (fun v => k (s v t) h) (g t) := by
  intro ih t h k r er
  have er : lenK (strT P ty) (slT P ty) (fun v => k (s v t) h) (g t) = some r := er
  cases hv : g t <;> rw [hv] at er <;> try (exact absurd er (by intro e; cases e))
  case s n l =>
    obtain ⟨hst, e1⟩ := bi_some.1 er
    refine ⟨_, e1, fun σ a cx ht dst ty' pos after gd => ?_⟩
    have h1 := hg σ t a cx ht
    rw [hv] at h1
    generalize hx : a.eval x = y at h1
    cases h1 with | s b =>
    refine ⟨.int .i64 (Int.ofNat b.size), fun w => ?_, .i .i64 _⟩
    simp [execOp, resolve, invoke, builtin, Builtin.len_, underlying, strT_spec hst, hx, goInt]
  case l id off n es =>
    obtain ⟨hst, e1⟩ := bi_some.1 er
    obtain ⟨el, hu⟩ := slT_spec hst
    refine ⟨_, e1, fun σ a cx ht dst ty' pos after gd => ?_⟩
    have h1 := hg σ t a cx ht
    rw [hv] at h1
    generalize hx : a.eval x = y at h1
    refine ⟨.int .i64 (Int.ofNat n), fun w => ?_, .i .i64 _⟩
    cases h1 <;> simp [execOp, resolve, invoke, builtin, Builtin.len_, underlying, hu, hx, goInt]
  case k es n xs =>
    obtain ⟨hst, e1⟩ := bi_some.1 er
    obtain ⟨el, hu⟩ := slT_spec hst
    refine ⟨_, e1, fun σ a cx ht dst ty' pos after gd => ?_⟩
    have h1 := hg σ t a cx ht
    rw [hv] at h1
    generalize hx : a.eval x = y at h1
    refine ⟨.int .i64 (Int.ofNat n), fun w => ?_, .i .i64 _⟩
    cases h1 <;> simp [execOp, resolve, invoke, builtin, Builtin.len_, underlying, hu, hx, goInt]
  case z tag =>
    obtain ⟨hst, e0⟩ := bi_some.1 er
    obtain ⟨htg, e1⟩ := bi_some.1 e0
    have : tag = 1 := Nat.eq_of_beq_eq_true htg
    subst this
    obtain ⟨el, hu⟩ := slT_spec hst
    refine ⟨_, e1, fun σ a cx ht dst ty' pos after gd => ?_⟩
    have h1 := hg σ t a cx ht
    rw [hv] at h1
    generalize hx : a.eval x = y at h1
    refine ⟨.int .i64 (Int.ofNat 0), fun w => ?_, .i .i64 _⟩
    cases h1; simp [execOp, resolve, invoke, builtin, Builtin.len_, underlying, hu, hx, goInt]

theorem capK_ok {x : Operand} {g : G} {ty : TypeId} {r0 : List TypeId} (hst : slT P ty = true) (hg : GOK P nt x g) : PureF P nt (.call ⟨.builtin .cap, #[x], (ty :: r0).toArray⟩) s fun _ t h k => capK (fun v => k (s v t) h) (g t) := by
  intro ih t h k r er
  have er : capK (fun v => k (s v t) h) (g t) = some r := er
  cases hv : g t <;> rw [hv] at er <;> try (exact absurd er (by intro e; cases e))
  case z tag =>
    obtain ⟨htg, e1⟩ := bi_some.1 er
    have : tag = 1 := Nat.eq_of_beq_eq_true htg
    subst this
    obtain ⟨el, hu⟩ := slT_spec hst
    refine ⟨_, e1, fun σ a cx ht dst ty' pos after gd => ?_⟩
    have h1 := hg σ t a cx ht
    rw [hv] at h1
    generalize hx : a.eval x = y at h1
    refine ⟨.int .i64 (Int.ofNat 0), fun w => ?_, .i .i64 _⟩
    cases h1; simp [execOp, resolve, invoke, builtin, Builtin.cap_, underlying, hu, hx, goInt]

end
end Go.Ev
namespace Go.Ev

def LookF (P : Program) (nt : Nat) (op : Op) (s : S) (f : F) : Prop := ∀ ih t h k r, f ih t h k = some r → ∃ v, k (s v t) h = some r ∧
  ∀ (σ : Sg) (a : Act) (w : World), Ctx P σ → TR σ nt t a.tmps → HeapOK σ h.cl w → ∀ (dst : Option Tmp) (ty : TypeId) (pos : String) (after : Array Edge) (gd : Option (Nat × Bool)), ∃ v', (execOp a.eval ⟨dst, op, ty, pos, after, gd⟩).run P w = .ok (.value v') w ∧ VR σ v v'
def NewF (P : Program) (nt : Nat) (op : Op) (s : S) (f : F) : Prop := ∀ ih t h k r, f ih t h k = some r → ∃ v b h', k (s v t) h' = some r ∧ h.nx < 65536 ∧ h'.nx = h.nx + 1 ∧ (h'.cl = fun x => if x = h.nx then b else h.cl x) ∧
  ∀ (σ : Sg) (a : Act) (w : World), Ctx P σ → TR σ nt t a.tmps → σ h.nx = none → ∀ (dst : Option Tmp) (ty : TypeId) (pos : String) (after : Array Edge) (gd : Option (Nat × Bool)),
    ∃ v' o sz, (execOp a.eval ⟨dst, op, ty, pos, after, gd⟩).run P w = .ok (.value v') (w.alloc o) ∧ VR (newSg σ h.nx w.heap.size sz) v v' ∧ BOK (newSg σ h.nx w.heap.size sz) b sz o
def HeapF (P : Program) (nt : Nat) (op : Op) (s : S) (f : F) : Prop := ∀ ih t h k r, f ih t h k = some r → ∃ v h', k (s v t) h' = some r ∧ h.nx ≤ h'.nx ∧
  ∀ (σ : Sg) (a : Act) (w : World), Ctx P σ → TR σ nt t a.tmps → HeapOK σ h.cl w → Fr σ h.nx h'.nx → ∀ (dst : Option Tmp) (ty : TypeId) (pos : String) (after : Array Edge) (gd : Option (Nat × Bool)),
    ∃ v' σ' w' nxt, (execOp a.eval ⟨dst, op, ty, pos, after, gd⟩).run P w = .ok nxt w' ∧ (nxt = .value v' ∨ nxt = .skip ∧ v' = undef) ∧ SExt σ h w σ' h' w' ∧ HeapOK σ' h'.cl w' ∧ VR σ' v v'

section
variable {P : Program} {nt : Nat} {s : S} {f : F}
theorem LookF.dead {op : Op} (h : Dead f) : LookF P nt op s f := fun ih t hh k r e => by rw [h] at e; cases e
theorem NewF.dead {op : Op} (h : Dead f) : NewF P nt op s f := fun ih t hh k r e => by rw [h] at e; cases e
theorem HeapF.dead {op : Op} (h : Dead f) : HeapF P nt op s f := fun ih t hh k r e => by rw [h] at e; cases e

theorem PureF.look {op : Op} (h : PureF P nt op s f) : LookF P nt op s f := fun ih t hh k r e => by
  obtain ⟨v, h1, h2⟩ := h ih t hh k r e
  exact ⟨v, h1, fun σ a w cx ht _ dst ty pos after gd => let ⟨v', h3, h4⟩ := h2 σ a cx ht dst ty pos after gd; ⟨v', h3 w, h4⟩⟩
theorem LookF.heap {op : Op} (h : LookF P nt op s f) : HeapF P nt op s f := fun ih t hh k r e => by
  obtain ⟨v, h1, h2⟩ := h ih t hh k r e
  exact ⟨v, hh, h1, Nat.le_refl _, fun σ a w cx ht ok _ dst ty pos after gd => let ⟨v', h3, h4⟩ := h2 σ a w cx ht ok dst ty pos after gd; ⟨v', σ, w, _, h3, .inl rfl, SExt.refl _ _ _, ok, h4⟩⟩
theorem NewF.heap {op : Op} (h : NewF P nt op s f) : HeapF P nt op s f := fun ih t hh k r e => by
  obtain ⟨v, b, h', h1, h0, hn, hc, h2⟩ := h ih t hh k r e
  refine ⟨v, h', h1, by omega, fun σ a w cx ht ok fr dst ty pos after gd => ?_⟩
  have free : σ hh.nx = none := fr _ (Nat.le_refl _) (by omega)
  obtain ⟨v', o, sz, h3, h4, h5⟩ := h2 σ a w cx ht free dst ty pos after gd
  obtain ⟨ok', ext⟩ := ok.new free hn hc h5
  exact ⟨v', _, _, _, h3, .inl rfl, ext, ok', h4⟩

theorem add_none (b off j : Nat) : (⟨b, off, none⟩ : Addr).add j = ⟨b, off + j, none⟩ := by
  unfold Addr.add; by_cases h : j = 0 <;> simp [h]

theorem oLoad_ok {ty : TypeId} {x : Operand} (e : oLoad ty x P nt s = .mk f) : LookF P nt (.load ty x) s f := by
  rcases cO_inv e with h | ⟨g, hg, e1⟩
  · exact LookF.dead h
  rcases ocl_inv e1 with h | ⟨sh, hsh, e2⟩
  · exact LookF.dead h
  cases sh with | mk n agg =>
  cases e2
  intro ih t h k r er
  obtain ⟨v, e3, hv⟩ := loadK_some er
  obtain ⟨hsz, hagg⟩ := shape_spec hsh
  refine ⟨v, e3, fun σ a w cx ht ok dst ty' pos after gd => ?_⟩
  obtain ⟨b, off, hp, h1, h2⟩ := hv σ w _ ok (hg σ t a cx ht)
  cases agg with
  | true =>
    obtain ⟨cs, hl, hcs, hvr⟩ := h1 rfl
    refine ⟨.agg cs.toArray, ?_, hvr⟩
    have hrun := run_loadCells_list (P := P) (w := w) ⟨b, off, none⟩ cs (fun j v hj => by rw [add_none]; exact hcs j v hj)
    rw [hl] at hrun
    simp only [execOp, Instr.loadAt, Instr.sureAddr, hp, Sem.run_bind, Sem.run_pure, Result.andThen_ok, loadVar, aggT_run hagg, if_true, sizeT_run hsz, hrun]
  | false =>
    obtain ⟨y, hy, hvr⟩ := h2 rfl
    refine ⟨y, ?_, hvr⟩
    simp only [execOp, Instr.loadAt, Instr.sureAddr, hp, Sem.run_bind, Sem.run_pure, Result.andThen_ok, loadVar, aggT_run hagg, Bool.false_eq_true, if_false, run_load, hy]

/-! ### new blocks -/
theorem new_cells_ok {σ : Sg} {id b n : Nat} {l : V} {C : Array Value} {el : TypeId} (h : VRs σ l C.toList) (hn : C.size = n) (hf : σ id = none) :
    BOK (newSg σ id b n) (.cells n l) n (.cells C el) := by
  refine ⟨C, el, (0, 0), rfl, hn, Nat.le_refl _, ?_, fun j _ hj => by omega⟩
  rw [List.take_of_length_le (by rw [Array.length_toList]; omega)]
  exact h.mono (newSg_up hf)

theorem fold_size (v : Array Value) (off : Nat) (cells : Array Value) : (v.zipIdx.foldl (fun (cs : Array Value) (q : Value × Nat) => cs.setIfInBounds (off + q.2) q.1) cells).size = cells.size := by
  rw [← Array.foldl_toList]
  generalize v.zipIdx.toList = l
  induction l generalizing cells with
  | nil => rfl
  | cons q l ih => rw [List.foldl_cons, ih, Array.size_setIfInBounds]

theorem oAlloc_ok {ty : TypeId} (e : oAlloc ty P nt s = .mk f) : NewF P nt (.alloc ty) s f := by
  rcases ocl_inv e with h | ⟨z, hz, e1⟩
  · exact NewF.dead h
  cases e1
  intro ih t h k r er
  obtain ⟨n, l, e2, hl⟩ := cellsK_some er
  obtain ⟨h0, h', e3, hn, hc⟩ := H.new_some e2
  refine ⟨_, _, h', e3, h0, hn, hc, fun σ a w cx ht hf dst ty' pos after gd => ?_⟩
  obtain ⟨zv, hz1, hz2⟩ := zeroT_run hz
  obtain ⟨c1, c2, _⟩ := hl σ zv (hz2 σ)
  refine ⟨.pointer (some ⟨w.heap.size, 0, none⟩), .cells zv.cells ty, n, ?_, .p (newSg_at _ _ _ _) h0, new_cells_ok c2 c1 hf⟩
  simp only [execOp, Instr.alloc, Sem.run_bind, hz1, Result.andThen_ok, newVar, newRow, run_newObj, Sem.run_pure, World.alloc_eq]

theorem oBox_ok {ty : TypeId} {x : Operand} (e : oBox ty x P nt s = .mk f) : NewF P nt (.box ty x) s f := by
  rcases cO_inv e with h | ⟨g, hg, e1⟩
  · exact NewF.dead h
  cases e1
  intro ih t h k r er
  obtain ⟨n, l, e2, hl⟩ := cellsK_some er
  obtain ⟨h0, h', e3, hn, hc⟩ := H.new_some e2
  refine ⟨_, _, h', e3, h0, hn, hc, fun σ a w cx ht hf dst ty' pos after gd => ?_⟩
  obtain ⟨c1, c2, _⟩ := hl σ _ (hg σ t a cx ht)
  refine ⟨.pointer (some ⟨w.heap.size, 0, none⟩), .cells (a.eval x).cells ty, n, ?_, .p (newSg_at _ _ _ _) h0, new_cells_ok c2 c1 hf⟩
  simp only [execOp, Instr.box, Sem.run_bind, Result.andThen_ok, newVar, newRow, run_newObj, Sem.run_pure, World.alloc_eq]

theorem elemI_spec {ty e : TypeId} (h : elemI P ty = some e) : P.underlying ty = some (.slice e) := by
  unfold elemI at h
  split at h <;> cases h
  assumption

/-- parts of a slice, in order, each of its size -/
def PartsOK (P : Program) (nt es : Nat) (ps : List (Nat × Operand)) (i : Nat) (g : Parts) : Prop := ∀ t q r, g t q = some r → ∃ x, q x = some r ∧
  ∀ (σ : Sg) (a : Act), Ctx P σ → TR σ nt t a.tmps → ∃ l : List Value, VRs σ x l ∧ l.length = ps.length * es ∧
    ∀ C : Array Value, C.size = (i + ps.length) * es → ∃ D : Array Value, Instr.fill (fun i => some (i * es, es)) C (ps.map fun p => (p.1, a.eval p.2)) = some D ∧ D.toList = C.toList.take (i * es) ++ l
theorem cParts_inv {es : Nat} {ps : List (Nat × Operand)} {i : Nat} {k : Parts → Cl} (e : cParts P nt es ps i k = .mk f) : Dead f ∨ ∃ g, PartsOK P nt es ps i g ∧ k g = .mk f := by
  induction ps generalizing k i with
  | nil =>
    refine .inr ⟨_, fun t q r e => ⟨_, e, fun σ a _ _ => ⟨[], .nil, by simp, fun C hC => ⟨C, rfl, ?_⟩⟩⟩, e⟩
    rw [List.take_of_length_le (by rw [Array.length_toList, hC]; simp)]; simp
  | cons p ps ih =>
    obtain ⟨j, x⟩ := p
    rcases bcl_inv e with h | ⟨hij, e1⟩
    · exact .inl h
    have hij : i = j := Nat.eq_of_beq_eq_true hij
    subst hij
    rcases cO_inv e1 with h | ⟨g, hg, e2⟩
    · exact .inl h
    rcases ih e2 with h | ⟨fl, hfl, e3⟩
    · exact .inl h
    refine .inr ⟨_, fun t q r er => ?_, e3⟩
    obtain ⟨m, ys, e4, hm⟩ := cellsK_some er
    obtain ⟨hmn, e5⟩ := bi_some.1 e4
    have hmn : m = es := Nat.eq_of_beq_eq_true hmn
    subst hmn
    obtain ⟨z, e6, hz⟩ := hfl _ _ _ e5
    refine ⟨_, e6, fun σ a cx ht => ?_⟩
    obtain ⟨h1, h2, _⟩ := hm σ _ (hg σ t a cx ht)
    obtain ⟨l, g1, g2, g3⟩ := hz σ a cx ht
    have hlen : (a.eval x).cells.toList.length = m := by rw [Array.length_toList]; exact h1
    refine ⟨(a.eval x).cells.toList ++ l, h2.app g1, by rw [List.length_append, hlen, g2, List.length_cons, Nat.succ_mul]; omega, fun C hC => ?_⟩
    rw [List.length_cons] at hC
    have hCl : C.toList.length = C.size := Array.length_toList
    have hsum : (i + (ps.length + 1)) * m = i * m + ps.length * m + m := by rw [Nat.add_mul, Nat.succ_mul]; omega
    have hfold := fold_toList (a.eval x).cells (i * m) C
    have hz0 := zipIdx_fold (a.eval x).cells.toList (i * m) 0 C.toList (by rw [hlen, hCl, hC, hsum]; omega)
    rw [hlen] at hz0
    simp only [Nat.add_zero] at hz0
    rw [hz0] at hfold
    have hsz := fold_size (a.eval x).cells (i * m) C
    obtain ⟨D, d1, d2⟩ := g3 _ (by rw [hsz, hC]; show _ = (i + 1 + ps.length) * m; rw [show i + 1 + ps.length = i + (ps.length + 1) by omega])
    refine ⟨D, ?_, ?_⟩
    · simp only [List.map_cons, Instr.fill]
      have : ¬ (decide ((a.eval x).cells.size ≠ m) || decide (i * m + (a.eval x).cells.size > C.size)) = true := by
        rw [h1, hC, hsum]; simp <;> omega
      rw [if_neg this]; exact d1
    · rw [d2, hfold, Nat.succ_mul, ← List.append_assoc, List.take_left' (by rw [List.length_append, List.length_take, hlen, hCl, hC, hsum]; omega), List.append_assoc]


theorem oBuildSlice_ok {ty : TypeId} {n : Nat} {ps : Array (Nat × Operand)} (e : oBuildSlice ty n ps P nt s = .mk f) : NewF P nt (.buildSlice ty n ps) s f := by
  rcases ocl_inv e with h | ⟨es, hes, e1⟩
  · exact NewF.dead h
  rcases bcl_inv e1 with h | ⟨hlen, e2⟩
  · exact NewF.dead h
  rcases bcl_inv e2 with h | ⟨hsm, e3⟩
  · exact NewF.dead h
  rcases ocl_inv e3 with h | ⟨z, hz, e4⟩
  · exact NewF.dead h
  rcases cParts_inv e4 with h | ⟨g, hg, e5⟩
  · exact NewF.dead h
  cases e5
  intro ih t h k r er
  obtain ⟨cs, e6, hcs⟩ := hg _ _ _ er
  rw [force_eq] at e6
  obtain ⟨h0, h', e7, hn, hc⟩ := H.new_some e6
  have hlen : ps.toList.length = n := by rw [← lenL_eq]; exact Nat.eq_of_beq_eq_true hlen
  have hsm : n * es < 65536 := by simpa [Nat.blt_eq] using hsm
  obtain ⟨el, hu, hsz⟩ := elemT_spec hes
  obtain ⟨el', hel', hz'⟩ := ob_some.1 hz
  have : el' = el := by have := elemI_spec hel'; rw [hu] at this; cases this; rfl
  subst this
  obtain ⟨zv, hz1, hz2⟩ := zeroT_run hz'
  refine ⟨_, _, h', e7, h0, hn, hc, fun σ a w cx ht hf dst ty' pos after gd => ?_⟩
  obtain ⟨l, g1, g2, g3⟩ := hcs σ a cx ht
  rw [hlen] at g2 g3
  have hlim : ¬ (n * es > 2 ^ 24) := by omega
  have fin : ∀ z0 : Array Value, (∀ D : Array Value, Instr.fill (fun i => some (i * es, es)) ((Array.range (n * es)).map (z0[· % z0.size]!)) (ps.toList.map fun p => (p.1, a.eval p.2)) = some D →
      (execOp a.eval ⟨dst, .buildSlice ty n ps, ty', pos, after, gd⟩).run P w = .ok (.value (.slice (some ⟨w.heap.size, 0, none⟩) n n)) (w.alloc (.cells D el'))) →
      ∃ v' o sz, (execOp a.eval ⟨dst, .buildSlice ty n ps, ty', pos, after, gd⟩).run P w = .ok (.value v') (w.alloc o) ∧ VR (newSg σ h.nx w.heap.size sz) (.l h.nx 0 n es) v' ∧ BOK (newSg σ h.nx w.heap.size sz) (.cells (Nat.mul n es) cs) sz o := by
    intro z0 hr
    obtain ⟨D, d1, d2⟩ := g3 ((Array.range (n * es)).map (z0[· % z0.size]!)) (by simp)
    simp only [Nat.zero_mul, List.take_zero, List.nil_append] at d2
    have hDs : D.size = n * es := by have := congrArg List.length d2; rw [Array.length_toList, g2] at this; exact this
    exact ⟨_, _, n * es, hr D d1, .l (newSg_at _ _ _ _) h0 (Nat.le_refl _) (by omega), new_cells_ok (by rw [d2]; exact g1) hDs hf⟩
  by_cases hb : n * es = 0
  · refine fin #[] fun D hD => ?_
    simp only [execOp, Instr.buildSlice, Sem.run_bind, underlying, run_program, Result.andThen_ok, hu, Sem.run_pure, sizeT_run hsz, hlim, if_false, if_pos hb, Array.toList_map]
    rw [hD]
    simp [newRow]
  · refine fin zv.cells fun D hD => ?_
    simp only [execOp, Instr.buildSlice, Sem.run_bind, underlying, run_program, Result.andThen_ok, hu, Sem.run_pure, sizeT_run hsz, hlim, if_false, if_neg hb, hz1, Array.toList_map]
    rw [hD]
    simp [newRow]

theorem rep_rel {σ : Sg} {zc : V} {zs : List Value} (h : VRs σ zc zs) (n : Nat) : VRs σ (rep zc n) ((List.range (n * zs.length)).map fun i => zs.getD (i % zs.length) undef) := by
  induction n with
  | zero => simp [rep]; exact .nil
  | succ n ih =>
    have e : (List.range ((n + 1) * zs.length)).map (fun i => zs.getD (i % zs.length) undef) = zs ++ (List.range (n * zs.length)).map fun i => zs.getD (i % zs.length) undef := by
      rw [Nat.succ_mul, Nat.add_comm, List.range_add, List.map_append, List.map_map]
      congr 1
      · apply List.ext_getElem?
        intro i
        rw [List.getElem?_map]
        by_cases hi : i < zs.length
        · rw [List.getElem?_range hi, Option.map_some, Nat.mod_eq_of_lt hi, List.getD_eq_getElem?_getD, List.getElem?_eq_getElem hi]; rfl
        · rw [List.getElem?_eq_none (by rw [List.length_range]; omega), List.getElem?_eq_none (by omega)]; rfl
      · apply List.map_congr_left
        intro i _
        show zs.getD ((zs.length + i) % zs.length) undef = _
        rw [Nat.add_mod_left]
    rw [e]
    exact h.app ih

theorem oMakeSlice_ok {ty : TypeId} {x y : Operand} (e : oMakeSlice ty x y P nt s = .mk f) : NewF P nt (.makeSlice ty x y) s f := by
  rcases ocl_inv e with h | ⟨es, hes, e1⟩
  · exact NewF.dead h
  rcases bcl_inv e1 with h | ⟨hfew, e2⟩
  · exact NewF.dead h
  rcases ocl_inv e2 with h | ⟨z, hz, e3⟩
  · exact NewF.dead h
  rcases cO_inv e3 with h | ⟨gl, hgl, e4⟩
  · exact NewF.dead h
  rcases cO_inv e4 with h | ⟨gc, hgc, e5⟩
  · exact NewF.dead h
  cases e5
  intro ih t h k r er
  obtain ⟨c1, n, hn1, e6⟩ := numK_some er
  obtain ⟨c2, m, hm1, e7⟩ := numK_some e6
  obtain ⟨hnm, e8⟩ := bi_some.1 e7
  obtain ⟨hsm, e9⟩ := bi_some.1 e8
  obtain ⟨zn, zc, e10, hzc⟩ := cellsK_some e9
  obtain ⟨hzn, e11⟩ := bi_some.1 e10
  rw [force_eq] at e11
  obtain ⟨h0, h', e12, hn, hc⟩ := H.new_some e11
  have hnm : n = m := Nat.eq_of_beq_eq_true hnm
  subst hnm
  have hzn : es = zn := (Nat.eq_of_beq_eq_true hzn).symm
  subst hzn
  have hsm : n < 65536 := by simpa [Nat.blt_eq] using hsm
  obtain ⟨el, hu, hsz⟩ := elemT_spec hes
  obtain ⟨el', hel', hz'⟩ := ob_some.1 hz
  have : el' = el := by have := elemI_spec hel'; rw [hu] at this; cases this; rfl
  subst this
  obtain ⟨zv, hz1, hz2⟩ := zeroT_run hz'
  refine ⟨_, _, h', e12, h0, hn, hc, fun σ a w cx ht hf dst ty' pos after gd => ?_⟩
  obtain ⟨z1, z2, _⟩ := hzc σ zv (hz2 σ)
  have hx := hgl σ t a cx ht
  rw [hn1] at hx
  obtain ⟨k1, _, hx⟩ := hx.int_i
  have hy := hgc σ t a cx ht
  rw [hm1] at hy
  obtain ⟨k2, _, hy⟩ := hy.int_i
  have hin : ∃ i, P.info? el' = some i ∧ 1 ≤ i.bytes ∧ i.bytes ≤ 4096 := by
    unfold fewT at hfew
    rw [hel'] at hfew
    simp only at hfew
    split at hfew
    · rename_i i hi
      simp only [Bool.and_eq_true] at hfew
      exact ⟨i, hi, Nat.le_of_ble_eq_true hfew.1, Nat.le_of_ble_eq_true hfew.2⟩
    · cases hfew
  obtain ⟨i, hi, hb1, hb2⟩ := hin
  have hw : IntKind.i64.wrap (Int.ofNat n) = Int.ofNat n := wrap_pos (k := .i64) (by rw [top_eq]; show n < 9223372036854775808; omega)
  have hlarge : (i.bytes : Int) * (n : Int) ≤ 2 ^ 48 := by
    have h1 : (i.bytes * n : Nat) ≤ 4096 * 65536 := Nat.mul_le_mul hb2 (by omega)
    have h2 : (i.bytes : Int) * (n : Int) = ((i.bytes * n : Nat) : Int) := by simp
    rw [h2]; omega
  have hmain : ∀ z0 : Array Value, (n * es ≠ 0 → z0 = zv.cells) → VRs σ (rep zc n) ((Array.range (n * es)).map (z0[· % z0.size]!)).toList := by
    intro z0 hzz
    have h1 := rep_rel z2 n
    rw [Array.length_toList, z1] at h1
    by_cases hb : n * es = 0
    · rw [hb] at h1 ⊢; simpa using h1
    · rw [hzz hb]
      have : ((Array.range (n * es)).map (zv.cells[· % zv.cells.size]!)).toList = (List.range (n * es)).map fun i => zv.cells.toList.getD (i % es) undef := by
        rw [Array.toList_map, Array.toList_range]
        apply List.map_congr_left
        intro j hj
        have hes0 : 0 < es := by rcases Nat.eq_zero_or_pos es with h | h; (· subst h; simp at hb); exact h
        have hlt : j % es < zv.cells.size := by rw [z1]; exact Nat.mod_lt _ hes0
        rw [List.getD_eq_getElem?_getD, Array.getElem?_toList, Array.getElem?_eq_getElem hlt]
        simp only [z1, Option.getD_some]
        simp [hlt]
      rw [this]; exact h1
  have fin : ∀ z0 : Array Value, (n * es ≠ 0 → z0 = zv.cells) → (execOp a.eval ⟨dst, .makeSlice ty x y, ty', pos, after, gd⟩).run P w = .ok (.value (.slice (some ⟨w.heap.size, 0, none⟩) n n)) (w.alloc (.cells ((Array.range (n * es)).map (z0[· % z0.size]!)) el')) →
      ∃ v' o sz, (execOp a.eval ⟨dst, .makeSlice ty x y, ty', pos, after, gd⟩).run P w = .ok (.value v') (w.alloc o) ∧ VR (newSg σ h.nx w.heap.size sz) (.l h.nx 0 n es) v' ∧ BOK (newSg σ h.nx w.heap.size sz) (.cells (Nat.mul n es) (rep zc n)) sz o := by
    intro z0 hzz hr
    exact ⟨_, _, n * es, hr, .l (newSg_at _ _ _ _) h0 (Nat.le_refl _) (by show 0 + n * es ≤ n * es; omega), new_cells_ok (hmain z0 hzz) (by simp) hf⟩
  have t1 : ¬ ((n : Int) < 0) := by omega
  have t2 : decide ((i.bytes : Int) * Int.ofNat n > 2 ^ 48) = false := by
    simp only [decide_eq_false_iff_not]
    show ¬ ((i.bytes : Int) * (n : Int) > 2 ^ 48); omega
  have t3 : decide (Int.ofNat n > Int.ofNat n) = false := by simp
  have t4 : decide (Int.ofNat n < 0) = false := by simp only [decide_eq_false_iff_not]; exact t1
  have t5 : (Int.ofNat n).toNat = n := rfl
  by_cases hb : n * es = 0
  · refine fin #[] (fun h => absurd hb h) ?_
    simp only [execOp, Instr.makeSlice, Sem.run_bind, underlying, run_program, Result.andThen_ok, hu, Sem.run_pure, hx, hy, asInt, asIntOf, typeInfo, hi, hw, t2, t3, t4, Bool.or_self, Bool.false_eq_true, if_false, run_askRoom, sizeT_run hsz, t5, if_pos hb, newRow, run_newObj, World.alloc_eq]
  · refine fin zv.cells (fun _ => rfl) ?_
    simp only [execOp, Instr.makeSlice, Sem.run_bind, underlying, run_program, Result.andThen_ok, hu, Sem.run_pure, hx, hy, asInt, asIntOf, typeInfo, hi, hw, t2, t3, t4, Bool.or_self, Bool.false_eq_true, if_false, run_askRoom, sizeT_run hsz, t5, if_neg hb, hz1, newRow, run_newObj, World.alloc_eq]

theorem oMakeMap_ok {ty : TypeId} {x : Option Operand} (e : oMakeMap ty x P nt s = .mk f) : NewF P nt (.makeMap ty x) s f := by
  cases x with
  | some x => exact NewF.dead (dead_of e)
  | none =>
    cases e
    intro ih t h k r er
    obtain ⟨h0, h', e1, hn, hc⟩ := H.new_some er
    refine ⟨_, _, h', e1, h0, hn, hc, fun σ a w cx ht hf dst ty' pos after gd => ?_⟩
    refine ⟨.map (some w.heap.size), .map #[] 0, 0, ?_, .m (newSg_at _ _ _ _) h0, ⟨#[], 0, rfl, .nil, Births.empty⟩⟩
    simp [execOp, Instr.makeMap]

theorem oRange_ok {ty : TypeId} {x : Operand} (e : oRange ty x P nt s = .mk f) : NewF P nt (.range ty x) s f := by
  rcases bcl_inv e with h | ⟨hst, e1⟩
  · exact NewF.dead h
  rcases cO_inv e1 with h | ⟨g, hg, e2⟩
  · exact NewF.dead h
  cases e2
  intro ih t h k r er
  obtain ⟨n, l, hv, e3⟩ := strK_some er
  obtain ⟨h0, h', e4, hn, hc⟩ := H.new_some e3
  refine ⟨_, _, h', e4, h0, hn, hc, fun σ a w cx ht hf dst ty' pos after gd => ?_⟩
  have h1 := hg σ t a cx ht
  rw [hv] at h1
  generalize hx : a.eval x = y at h1
  cases h1 with | s b =>
  refine ⟨.pointer (some ⟨w.heap.size, 0, none⟩), .stringIter b 0, 0, ?_, .p (newSg_at _ _ _ _) h0, ⟨b, rfl, rfl, rfl⟩⟩
  simp [execOp, Instr.range, underlying, strT_spec hst, hx]

end
end Go.Ev
namespace Go.Ev
section
variable {P : Program} {nt : Nat} {s : S} {f : F}

theorem oneV1_ok {v : V} (h : oneV1 v = true) {σ : Sg} {x : Value} (g : VR σ v x) : x.oneCell' = true := by
  cases g <;> first | rfl | (cases h)
theorem ones_ok {v : V} (h : ones v = true) {σ : Sg} {l : List Value} (g : VRs σ v l) : ∀ x, x ∈ l → x.oneCell' = true := by
  induction l generalizing v with
  | nil => intro x hx; cases hx
  | cons a l ih =>
    cases g with | @cons x r _ _ hx hr =>
    have h' : (oneV1 x).rec false (ones r) = true := h
    cases h1 : oneV1 x <;> rw [h1] at h'
    · cases h'
    · intro y hy
      rcases List.mem_cons.1 hy with e | hy
      · rw [e]; exact oneV1_ok h1 hx
      · exact ih h' hr y hy

/-- a row of cells is written over a row -/
theorem store_run {b off : Nat} : ∀ (vs : List Value) (i : Nat) (w : World) (C : Array Value) (el : TypeId) (fr : Nat × Nat), w.heap[b]? = some (.cells C el fr) → off + i + vs.length ≤ C.size →
    (∀ j, j < C.size → ¬ (fr.1 ≤ j ∧ j < fr.2)) → (∀ x, x ∈ vs → x.oneCell' = true) →
    ∃ w' D, (storeCells ⟨b, off, none⟩ vs i).run P w = .ok () w' ∧ w'.heap.size = w.heap.size ∧ w'.heap[b]? = some (.cells D el fr) ∧ D.toList = C.toList.take (off + i) ++ (vs ++ C.toList.drop (off + i + vs.length)) ∧ D.size = C.size ∧
      (∀ b', b' ≠ b → w'.heap[b']? = w.heap[b']?) ∧ Same w w' := by
  intro vs
  induction vs with
  | nil => intro i w C el fr hw _ _ _; exact ⟨w, C, rfl, rfl, hw, by simp, rfl, fun _ _ => rfl, Same.refl _⟩
  | cons v vs ih =>
    intro i w C el fr hw hlen hfr hone
    rw [List.length_cons] at hlen
    have hlt : off + i < C.size := by omega
    have hcell : w.cell? ⟨b, off + i, none⟩ = some C[off + i] := by simp [World.cell?, hw, hlt]
    have hfro : w.frozen? ⟨b, off + i, none⟩ = false := by
      simp only [World.frozen?, hw]
      have := hfr _ hlt
      simpa using this
    have h1 : (store ((⟨b, off, none⟩ : Addr).add i) v).run P w = .ok () (w.setCell ⟨b, off + i, none⟩ v) := by
      rw [add_none, run_store P w _ v _ (hone v (List.mem_cons_self))]
      simp [hcell, hfro]
    have hb : b < w.heap.size := (Array.getElem?_eq_some_iff.1 hw).1
    have hw1 : (w.setCell ⟨b, off + i, none⟩ v).heap[b]? = some (.cells (C.setIfInBounds (off + i) v) el fr) := by
      simp [World.setCell, Array.getElem?_modify, hw]
    have ho1 : ∀ b', b' ≠ b → (w.setCell ⟨b, off + i, none⟩ v).heap[b']? = w.heap[b']? := by
      intro b' hne
      simp [World.setCell, Array.getElem?_modify, Ne.symm hne]
    obtain ⟨w', D, g1, g2, g3, g4, g5, g6, g7⟩ := ih (i + 1) _ (C.setIfInBounds (off + i) v) el fr hw1 (by rw [Array.size_setIfInBounds]; omega) (by rw [Array.size_setIfInBounds]; exact hfr) (fun x hx => hone x (List.mem_cons_of_mem _ hx))
    refine ⟨w', D, ?_, by rw [g2]; simp, g3, ?_, by rw [g5, Array.size_setIfInBounds], fun b' hne => by rw [g6 b' hne, ho1 b' hne], Same.trans (show Same w (w.setCell ⟨b, off + i, none⟩ v) from ⟨rfl, rfl, rfl⟩) g7⟩
    · unfold storeCells
      simp only [Sem.run_bind, h1, Result.andThen_ok]
      exact g1
    · rw [g4, Array.toList_setIfInBounds]
      have hl : C.toList.length = C.size := Array.length_toList
      have e1 : (C.toList.set (off + i) v).take (off + (i + 1)) = C.toList.take (off + i) ++ [v] := by
        rw [show off + (i + 1) = off + i + 1 by omega, List.take_add_one, List.take_set_of_le (Nat.le_refl _)]
        simp [hlt]
      have e2 : (C.toList.set (off + i) v).drop (off + (i + 1) + vs.length) = C.toList.drop (off + i + (vs.length + 1)) := by
        rw [List.drop_set_of_lt (by omega)]; congr 1; omega
      rw [e1, e2]; simp

theorem take_over {α : Type} (c a : List α) (off m : Nat) (h : off + a.length ≤ m) (hm : m ≤ c.length) :
    (c.take off ++ (a ++ c.drop (off + a.length))).take m = (c.take m).take off ++ (a ++ (c.take m).drop (off + a.length)) := by
  obtain ⟨x, y, rfl, hx⟩ : ∃ x y, c = x ++ y ∧ x.length = m := ⟨c.take m, c.drop m, (List.take_append_drop m c).symm, by rw [List.length_take]; omega⟩
  have e1 : (x ++ y).take off = x.take off := List.take_append_of_le_length (by omega)
  have e2 : (x ++ y).drop (off + a.length) = x.drop (off + a.length) ++ y := List.drop_append_of_le_length (by omega)
  have e3 : (x ++ y).take m = x := List.take_left' hx
  rw [e1, e2, e3]
  have : (x.take off ++ (a ++ x.drop (off + a.length))).length = m := by
    simp only [List.length_append, List.length_take, List.length_drop]; omega
  rw [← List.append_assoc a, ← List.append_assoc, List.take_left' this]

/-- what is claimed of a row of cells that may be written -/
theorem HeapOK.rowW {σ : Sg} {h : H} {w : World} (ok : HeapOK σ h.cl w) {id b sz m : Nat} {l : V} (hi : id < 65536) (hs : σ id = some (b, sz)) (hg : h.gt id = .cells m l) :
    ∃ C el fr, w.heap[b]? = some (.cells C el fr) ∧ C.size = sz ∧ m ≤ sz ∧ VRs σ l (C.toList.take m) ∧ ∀ j, j < sz → ¬ (fr.1 ≤ j ∧ j < fr.2) := by
  have hc := H.cl_gt h id hi
  rw [hg] at hc
  obtain ⟨b', sz', o, h1, h2, h3⟩ := ok.ok id (by rw [hc]; intro h; cases h)
  rw [hs] at h1
  obtain ⟨rfl, rfl⟩ := Prod.mk.inj (Option.some.inj h1)
  rw [hc] at h3
  obtain ⟨C, e, fr, rfl, a1, a2, a3, a4⟩ := h3
  exact ⟨C, e, fr, h2, a1, a2, a3, a4⟩

theorem not_tab {h : H} {id : Nat} (hi : id < 65536) {m : Nat} {l : V} (hg : h.gt id = .cells m l) : h.cl id ≠ .dead ∧ ∀ n l', h.cl id ≠ .tab n l' := by
  rw [H.cl_gt h id hi, hg]
  exact ⟨fun e => (by cases e), fun _ _ e => (by cases e)⟩

theorem storeP_some {h : H} {n q id off : Nat} {ys : V} {k : H → R} {r : Res} (e : storeP h n k q ys id off = some r) :
    ∃ m l x, q = n ∧ h.gt id = .cells m l ∧ k (h.set id (.cells m x)) = some r ∧ ∀ σ a b, VRs σ ys a → a.length = n → VRs σ l b → b.length = m → off + a.length ≤ b.length ∧ VRs σ x (b.take off ++ (a ++ b.drop (off + a.length))) := by
  obtain ⟨hq, e1⟩ := bi_some.1 e
  have hq : q = n := Nat.eq_of_beq_eq_true hq
  obtain ⟨m, l, e2, hg⟩ := rowK_some e1
  cases off with
  | zero =>
    cases hb : Nat.beq m n with
    | false =>
      have e3 : storeO h id 0 m l ys k = some r := by
        have : (Nat.beq m n).rec (motive := fun _ => R) (storeO h id 0 m l ys k) (k (h.set id (.cells m ys))) = some r := e2
        rw [hb] at this; exact this
      obtain ⟨x, e4, hx⟩ := overK_some e3
      exact ⟨m, l, x, hq, hg, e4, fun σ a b h1 _ h2 _ => hx σ a b h1 h2⟩
    | true =>
      have e3 : k (h.set id (.cells m ys)) = some r := by
        have : (Nat.beq m n).rec (motive := fun _ => R) (storeO h id 0 m l ys k) (k (h.set id (.cells m ys))) = some r := e2
        rw [hb] at this; exact this
      have hmn : m = n := Nat.eq_of_beq_eq_true hb
      refine ⟨m, l, ys, hq, hg, e3, fun σ a b h1 ha h2 hb' => ⟨by omega, ?_⟩⟩
      have : b.drop (0 + a.length) = [] := List.drop_eq_nil_of_le (by omega)
      rw [this]; simpa using h1
  | succ o =>
    obtain ⟨x, e4, hx⟩ := overK_some (r := r) e2
    exact ⟨m, l, x, hq, hg, e4, fun σ a b h1 _ h2 _ => hx σ a b h1 h2⟩

theorem oStore_ok {ty : TypeId} {x y : Operand} (e : oStore ty x y P nt s = .mk f) : HeapF P nt (.store ty x y) s f := by
  rcases cO_inv e with h | ⟨ga, hga, e1⟩
  · exact HeapF.dead h
  rcases cO_inv e1 with h | ⟨gx, hgx, e2⟩
  · exact HeapF.dead h
  rcases ocl_inv e2 with h | ⟨sh, hsh, e3⟩
  · exact HeapF.dead h
  cases sh with | mk n agg =>
  cases e3
  intro ih t h k r er
  obtain ⟨q, ys, e4, hys⟩ := cellsK_some er
  obtain ⟨hones, e5⟩ := bi_some.1 e4
  cases hv : ga t <;> rw [hv] at e5 <;> try (exact absurd e5 (by intro e; cases e))
  case p id off =>
    obtain ⟨m, l, z, hqn, hg, e6, hz⟩ := storeP_some e5
    refine ⟨undefV, _, e6, by rw [H.nx_set]; exact Nat.le_refl _, fun σ a w cx ht ok fr dst ty' pos after gd => ?_⟩
    have h1 := hga σ t a cx ht
    rw [hv] at h1
    have h2 := hgx σ t a cx ht
    obtain ⟨g1, g2, g3⟩ := hys σ _ h2
    generalize hx : a.eval x = p at h1
    cases h1 with | @p _ _ b sz hs hi =>
    obtain ⟨C, el, frz, hC, hCs, hm, hrel, hnf⟩ := ok.rowW hi hs hg
    have hCl : C.toList.length = C.size := Array.length_toList
    have hyl : (a.eval y).cells.toList.length = n := by rw [Array.length_toList, g1, hqn]
    have hml : (C.toList.take m).length = m := by rw [List.length_take, hCl, hCs]; omega
    obtain ⟨f1, f2⟩ := hz σ _ _ g2 hyl hrel hml
    rw [hyl, hml] at f1
    obtain ⟨w', D, r1, r2, r3, r4, r5, r6⟩ := store_run (P := P) (b := b) (off := off) (a.eval y).cells.toList 0 w C el frz hC (by rw [hyl, hCs]; omega) (by rw [hCs]; exact hnf) (ones_ok hones g2)
    have hsize := (shape_spec hsh).1
    have hbk : BOK σ (.cells m z) sz (.cells D el frz) := by
      refine ⟨D, el, frz, rfl, by rw [r5, hCs], hm, ?_, hnf⟩
      have : D.toList.take m = (C.toList.take m).take off ++ ((a.eval y).cells.toList ++ (C.toList.take m).drop (off + n)) := by
        rw [r4]
        have := take_over C.toList (a.eval y).cells.toList off m (by rw [hyl]; omega) (by rw [hCl, hCs]; exact hm)
        rw [hyl] at this
        simp only [Nat.add_zero, hyl]
        exact this
      rw [this, ← hyl]; exact f2
    obtain ⟨hd, htab⟩ := not_tab hi hg
    obtain ⟨ok', ext⟩ := ok.turn hi hs hd htab r2 r3 hbk r6
    refine ⟨undef, σ, w', .skip, ?_, .inr ⟨rfl, rfl⟩, ext, ok', VR.undef σ⟩
    simp only [execOp, Instr.storeAt, Instr.sureAddr, hx, Sem.run_bind, Sem.run_pure, Result.andThen_ok, storeVar, sizeT_run hsize]
    have : ¬ ((a.eval y).cells.size ≠ n) := by rw [g1, hqn]; simp
    simp only [this, if_false, r1, Result.andThen_ok]


/-! ### maps -/
theorem HeapOK.mapAt {σ : Sg} {h : H} {w : World} (ok : HeapOK σ h.cl w) {id b sz : Nat} {es : V} (hi : id < 65536) (hs : σ id = some (b, sz)) (hg : h.gt id = .map es) :
    ∃ en ck, w.heap[b]? = some (.map en ck) ∧ ER σ es en.toList ∧ Births en ck := by
  have hc := H.cl_gt h id hi
  rw [hg] at hc
  obtain ⟨b', sz', o, h1, h2, h3⟩ := ok.ok id (by rw [hc]; intro h; cases h)
  rw [hs] at h1
  obtain ⟨rfl, rfl⟩ := Prod.mk.inj (Option.some.inj h1)
  rw [hc] at h3
  obtain ⟨en, ck, rfl, a1⟩ := h3
  exact ⟨en, ck, h2, a1⟩

/-- a key of the map's kind -/
def KeyOK (d : TypeDesc) (x : Value) : Prop := (∃ q k z, d = .int q ∧ x = .int k z) ∨ (∃ b, d = .string ∧ x = .string b)

theorem keyX_ok {ty kt et : TypeId} {d : TypeDesc} {v : V} (hm : mapI P ty = some (kt, et)) (hk : keyT P kt = true) (hx : keyX (keyS P ty) v = true) (hd : P.underlying kt = some d) {σ : Sg} {x : Value} (h : VR σ v x) : KeyOK d x := by
  unfold keyS at hx
  rw [hm] at hx
  unfold keyT at hk
  simp only [strT] at hx
  rw [hd] at hk hx
  cases d <;> simp only at hk hx <;> try (cases hk; done)
  · cases h <;> first | (exact .inl ⟨_, _, _, rfl, rfl⟩) | (cases hx)
  · cases h <;> first | (exact .inr ⟨_, rfl, rfl⟩) | (cases hx)

theorem int_same {c d m n : Nat} {za zb : Int} {z : Bool} (hz : z = (za == zb)) (hcd : Nat.beq c d = true) {ky kx : Value} {ty : TypeDesc} (hy : ∃ k, kindN k = c ∧ ky = .int k za) (hx : ∃ k, kindN k = d ∧ kx = .int k zb) (hk : KeyOK ty kx) :
    Instr.sameNow ty kx ky = some z ∧ (z = true → Instr.sameBits 10000 ky kx = true) := by
  obtain ⟨k, h1, rfl⟩ := hy
  obtain ⟨k', h2, rfl⟩ := hx
  have : k' = k := kindN_inj (by rw [h1, h2]; exact (Nat.eq_of_beq_eq_true hcd).symm)
  subst this
  rcases hk with ⟨q, k1, n1, rfl, hh⟩ | ⟨b, rfl, hh⟩
  · refine ⟨?_, fun ht => ?_⟩
    · simp only [Instr.sameNow, if_true, hz]
      congr 1
      rw [Bool.eq_iff_iff]; simp; exact eq_comm
    · rw [ht] at hz
      have : za = zb := by simpa using hz.symm
      simp [Instr.sameBits, this]
  · cases hh

theorem keyEq_some {y x : V} {k : Bool → R} {r : Res} (e : eqK 9 y x k = some r) : ∃ z, k z = some r ∧ ∀ σ ky kx d, VR σ y ky → VR σ x kx → KeyOK d kx →
    Instr.sameNow d kx ky = some z ∧ (z = true → Instr.sameBits 10000 ky kx = true) := by
  cases y
  case i c m =>
    cases x <;> try (exact absurd e (by intro e; cases e))
    case i d n =>
      obtain ⟨h, e1⟩ := bi_some.1 e
      exact ⟨_, e1, fun σ ky kx d hy hx hk => int_same (m := 0) (n := 0) (by rw [Bool.eq_iff_iff, Nat.beq_eq]; simp; omega) h hy.int_i hx.int_i hk⟩
    case j d n =>
      obtain ⟨h, e1⟩ := bi_some.1 e
      exact ⟨_, e1, fun σ ky kx d hy hx hk => int_same (m := 0) (n := 0) (by simp) h hy.int_i hx.int_j hk⟩
  case j c m =>
    cases x <;> try (exact absurd e (by intro e; cases e))
    case i d n =>
      obtain ⟨h, e1⟩ := bi_some.1 e
      exact ⟨_, e1, fun σ ky kx d hy hx hk => int_same (m := 0) (n := 0) (by simp) h hy.int_j hx.int_i hk⟩
    case j d n =>
      obtain ⟨h, e1⟩ := bi_some.1 e
      exact ⟨_, e1, fun σ ky kx d hy hx hk => int_same (m := 0) (n := 0) (by rw [Bool.eq_iff_iff, Nat.beq_eq]; simp) h hy.int_j hx.int_j hk⟩
  case s n l =>
    cases x <;> try (exact absurd e (by intro e; cases e))
    case s m p =>
      have e' : k ((Nat.beq l p).rec false (Nat.beq n m)) = some r := by
        have e0 : (Nat.beq l p).rec (motive := fun _ => R) (k false) (k (Nat.beq n m)) = some r := e
        cases hb : Nat.beq l p <;> rw [hb] at e0 <;> exact e0
      refine ⟨_, e', fun σ ky kx d hy hx hk => ?_⟩
      cases hy with | s a => cases hx with | s b =>
        rw [← str_eq]
        have hab : (b == a) = (a.toList == b.toList) := by
          rw [Bool.eq_iff_iff, MapKept.bytes_beq, ByteArray.toList_eq, ByteArray.toList_eq]
          simp only [beq_iff_eq]
          constructor
          · intro h; rw [h]
          · intro h
            have := Array.toList_inj.1 h
            cases a; cases b; simp_all
        rcases hk with ⟨q, k1, n1, _, hh⟩ | ⟨b', rfl, hh⟩
        · cases hh
        · refine ⟨?_, fun ht => ?_⟩
          · simp only [Instr.sameNow, hab]
          · rw [← hab, MapKept.bytes_beq] at ht
            subst ht
            simp [Instr.sameBits, (MapKept.bytes_beq _ _).2 rfl]
  all_goals (cases x <;> first | exact absurd e (by intro e; cases e) | (obtain ⟨h1, e1⟩ := bi_some.1 e; obtain ⟨h2, e2⟩ := bi_some.1 e1; have := Nat.eq_of_beq_eq_true h1; subst this; cases h2) | (obtain ⟨h1, e1⟩ := bi_some.1 e; cases h1))

theorem isNil_iff {v : V} : (isNil v = true → v = .nil) := by intro h; cases v <;> first | rfl | (cases h)

theorem pair_some {es : V} {k : V → V → V → R} {r : Res} (hn : isNil es = false) (e : (nthK es 0 fun y => nthK es 1 fun w => dropK 2 es fun q => k y w q) = some r) :
    ∃ y w q, es = .cons y (.cons w q) ∧ k y w q = some r := by
  cases es <;> try (exact absurd e (by intro e; cases e))
  case cons y r1 =>
    cases r1 <;> try (exact absurd e (by intro e; cases e))
    case cons w q => exact ⟨y, w, q, rfl, e⟩

theorem lookK_some {x : V} {q : V → R} {no : R} {r : Res} : ∀ (n : Nat) (es : V), lookK x q no n es = some r →
    (∃ v, q v = some r ∧ ∀ σ kx d (en : List MapEntry), VR σ x kx → KeyOK d kx → ER σ es en → ∀ i, ∃ j v', Instr.findNow d kx en i = some (some (j, v')) ∧ VR σ v v') ∨
    (no = some r ∧ ∀ σ kx d (en : List MapEntry), VR σ x kx → KeyOK d kx → ER σ es en → ∀ i, Instr.findNow d kx en i = some none) := by
  intro n
  induction n with
  | zero => intro es e; cases e
  | succ n ih =>
    intro es e
    have e0 : (isNil es).rec (motive := fun _ => R) (nthK es 0 fun y => eqK 9 y x fun r => Bool.rec (motive := fun _ => R) (dropK 2 es (lookK x q no n)) (nthK es 1 q) r) no = some r := e
    cases hn : isNil es with
    | true =>
      rw [hn] at e0
      have := isNil_iff hn
      subst this
      exact .inr ⟨e0, fun σ kx d en _ _ h i => by cases h; rfl⟩
    | false =>
      rw [hn] at e0
      cases es <;> try (exact absurd e0 (by intro e; cases e))
      case cons y r1 =>
        have e1 : (eqK 9 y x fun r => Bool.rec (motive := fun _ => R) (dropK 2 (.cons y r1) (lookK x q no n)) (nthK (.cons y r1) 1 q) r) = some r := e0
        obtain ⟨z, e2, hz⟩ := keyEq_some e1
        cases r1 <;> try (cases z <;> exact absurd e2 (by intro e; cases e))
        case cons w rest =>
          cases z with
          | true =>
            refine .inl ⟨w, e2, fun σ kx d en hx hk h i => ?_⟩
            cases h with | @cons _ _ _ en0 l h1 h2 h3 =>
            refine ⟨i, en0.val, ?_, h2⟩
            simp only [Instr.findNow, (hz σ _ _ d h1 hx hk).1]
          | false =>
            have e3 : lookK x q no n rest = some r := e2
            rcases ih rest e3 with ⟨v, g1, g2⟩ | ⟨g1, g2⟩
            · refine .inl ⟨v, g1, fun σ kx d en hx hk h i => ?_⟩
              cases h with | @cons _ _ _ en0 l h1 h2 h3 =>
              simp only [Instr.findNow, (hz σ _ _ d h1 hx hk).1]
              exact g2 σ kx d l hx hk h3 (i + 1)
            · refine .inr ⟨g1, fun σ kx d en hx hk h i => ?_⟩
              cases h with | @cons _ _ _ en0 l h1 h2 h3 =>
              simp only [Instr.findNow, (hz σ _ _ d h1 hx hk).1]
              exact g2 σ kx d l hx hk h3 (i + 1)

theorem checkKey_run {kt : TypeId} {d : TypeDesc} {x : Value} (hd : P.underlying kt = some d) (hk : KeyOK d x) (b : Bool) (w : World) : (Instr.checkKey b 10000 kt x).run P w = .ok () w := by
  show (Instr.checkKey b (9999 + 1) kt x).run P w = .ok () w
  unfold Instr.checkKey
  rcases hk with ⟨q, k, n, rfl, rfl⟩ | ⟨s, rfl, rfl⟩ <;> simp [underlying, hd]

theorem mapI_spec {ty kt et : TypeId} (h : mapI P ty = some (kt, et)) : P.underlying ty = some (.map kt et) := by
  unfold mapI at h
  split at h <;> cases h
  assumption

theorem mapZ_spec {ty : TypeId} {z : V} (h : mapZ P ty = some z) : ∃ kt et d, mapI P ty = some (kt, et) ∧ keyT P kt = true ∧ P.underlying ty = some (.map kt et) ∧ P.underlying kt = some d ∧ zeroT P et = some z := by
  obtain ⟨⟨kt, et⟩, h1, h2⟩ := ob_some.1 h
  have h2 : (keyT P kt).rec (motive := fun _ => Option V) none (zeroT P et) = some z := h2
  cases hk : keyT P kt with
  | false => rw [hk] at h2; cases h2
  | true =>
    rw [hk] at h2
    have : ∃ d, P.underlying kt = some d := by
      unfold keyT at hk
      cases hu : P.underlying kt with
      | none => rw [hu] at hk; cases hk
      | some d => exact ⟨d, rfl⟩
    obtain ⟨d, hd⟩ := this
    exact ⟨kt, et, d, h1, hk, mapI_spec h1, hd, h2⟩

theorem oLookup_ok {ty : TypeId} {x y : Operand} {okk : Bool} (e : oLookup ty x y okk P nt s = .mk f) : LookF P nt (.lookup ty x y okk) s f := by
  rcases ocl_inv e with h | ⟨z, hz, e1⟩
  · exact LookF.dead h
  rcases cO_inv e1 with h | ⟨gx, hgx, e2⟩
  · exact LookF.dead h
  rcases cO_inv e2 with h | ⟨gy, hgy, e3⟩
  · exact LookF.dead h
  cases e3
  intro ih t h k r er
  obtain ⟨hkx, e4⟩ := bi_some.1 er
  obtain ⟨id, hv, e5⟩ := mapidK_some e4
  obtain ⟨es, e6, hg⟩ := mapK_some e5
  obtain ⟨kt, et, d, hmI, hkT, hu, hd, hzz⟩ := mapZ_spec hz
  obtain ⟨zv, hz1, hz2⟩ := zeroT_run hzz
  have base : ∀ (σ : Sg) (a : Act) (w : World), Ctx P σ → TR σ nt t a.tmps → HeapOK σ h.cl w → ∃ b en ck, a.eval x = .map (some b) ∧ w.heap[b]? = some (.map en ck) ∧ ER σ es en.toList ∧ KeyOK d (a.eval y) ∧ VR σ (gy t) (a.eval y) := by
    intro σ a w cx ht ok
    have h1 := hgx σ t a cx ht
    rw [hv] at h1
    have h2 := hgy σ t a cx ht
    generalize hx : a.eval x = p at h1
    cases h1 with | @m _ b sz hs hi =>
    obtain ⟨en, ck, g1, g2, _⟩ := ok.mapAt hi hs hg
    exact ⟨b, en, ck, rfl, g1, g2, keyX_ok hmI hkT hkx hd h2, h2⟩
  rcases lookK_some _ _ e6 with ⟨v, e7, hv7⟩ | ⟨e7, hv7⟩
  · refine ⟨_, e7, fun σ a w cx ht ok dst ty' pos after gd => ?_⟩
    obtain ⟨b, en, ck, g0, g1, g2, g3, g4⟩ := base σ a w cx ht ok
    obtain ⟨j, v', f1, f2⟩ := hv7 σ _ d _ g4 g3 g2 0
    refine ⟨if okk then .tuple #[v', .bool true] else v', ?_, ?_⟩
    · simp [execOp, Instr.lookup, underlying, hu, hd, g0, MapKept.run_getObj_map g1, checkKey_run hd g3, Instr.findKey, f1, Result.andThen]
    · cases okk
      · exact f2
      · exact .t (.cons f2 (.cons (.b true) .nil))
  · refine ⟨_, e7, fun σ a w cx ht ok dst ty' pos after gd => ?_⟩
    obtain ⟨b, en, ck, g0, g1, g2, g3, g4⟩ := base σ a w cx ht ok
    have f1 := hv7 σ _ d _ g4 g3 g2 0
    refine ⟨if okk then .tuple #[zv, .bool false] else zv, ?_, ?_⟩
    · simp [execOp, Instr.lookup, underlying, hu, hd, g0, MapKept.run_getObj_map g1, checkKey_run hd g3, Instr.findKey, f1, hz1, Result.andThen]
    · cases okk
      · exact hz2 σ
      · exact .t (.cons (hz2 σ) (.cons (.b false) .nil))

end
end Go.Ev
namespace Go.Ev
section
variable {P : Program} {nt : Nat} {s : S} {f : F}

theorem blt_lt {a b : Nat} (h : Nat.blt a b = true) : a < b := by simpa [Nat.blt_eq] using h

theorem putK_some {x v : V} {r : Res} : ∀ (n : Nat) (es : V) (q : KV), putK x v n es q = some r → ∃ es', q es' = some r ∧
    ∀ σ kx vv d (en : List MapEntry), VR σ x kx → VR σ v vv → KeyOK d kx → ER σ es en → ∀ i,
      (∃ j v0 e0, Instr.findNow d kx en i = some (some (i + j, v0)) ∧ en[j]? = some e0 ∧ Instr.sameBits 10000 e0.key kx = true ∧ ER σ es' (en.modify j fun e => { e with key := kx, val := vv })) ∨
      (Instr.findNow d kx en i = some none ∧ ∀ born, ER σ es' (en ++ [{ key := kx, val := vv, born }])) := by
  intro n
  induction n with
  | zero => intro es q e; cases e
  | succ n ih =>
    intro es q e
    have e0 : (isNil es).rec (motive := fun _ => R) (nthK es 0 fun y => nthK es 1 fun w => dropK 2 es fun rr => eqK 9 y x fun z => Bool.rec (motive := fun _ => R) (putK x v n rr fun r' => q (.cons y (.cons w r'))) (q (.cons x (.cons v rr))) z) (q (.cons x (.cons v .nil))) = some r := e
    cases hn : isNil es with
    | true =>
      rw [hn] at e0
      have := isNil_iff hn
      subst this
      refine ⟨_, e0, fun σ kx vv d en hx hv hk h i => .inr ?_⟩
      cases h
      exact ⟨rfl, fun born => .cons hx hv .nil⟩
    | false =>
      rw [hn] at e0
      obtain ⟨y, w, rest, rfl, e1⟩ := pair_some hn e0
      obtain ⟨z, e2, hz⟩ := keyEq_some e1
      cases z with
      | true =>
        refine ⟨_, e2, fun σ kx vv d en hx hv hk h i => .inl ?_⟩
        cases h with | @cons _ _ _ en0 l h1 h2 h3 =>
        obtain ⟨g1, g2⟩ := hz σ _ _ d h1 hx hk
        refine ⟨0, en0.val, en0, ?_, rfl, g2 rfl, ?_⟩
        · simp only [Instr.findNow, g1, Nat.add_zero]
        · exact .cons hx hv h3
      | false =>
        obtain ⟨es', e3, h4⟩ := ih rest _ e2
        refine ⟨_, e3, fun σ kx vv d en hx hv hk h i => ?_⟩
        cases h with | @cons _ _ _ en0 l h1 h2 h3 =>
        obtain ⟨g1, _⟩ := hz σ _ _ d h1 hx hk
        rcases h4 σ kx vv d l hx hv hk h3 (i + 1) with ⟨j, v0, e0', f1, f2, f3, f4⟩ | ⟨f1, f2⟩
        · refine .inl ⟨j + 1, v0, e0', ?_, f2, f3, .cons h1 h2 f4⟩
          simp only [Instr.findNow, g1, f1]
          rw [show i + 1 + j = i + (j + 1) by omega]
        · refine .inr ⟨?_, fun born => .cons h1 h2 (f2 born)⟩
          simp only [Instr.findNow, g1, f1]

theorem setBlock {w : World} {b : Nat} {o o' : Obj} (h : w.heap[b]? = some o) : ({ w with heap := w.heap.setIfInBounds b o' } : World).heap.size = w.heap.size ∧ ({ w with heap := w.heap.setIfInBounds b o' } : World).heap[b]? = some o' ∧
    ((∀ b', b' ≠ b → ({ w with heap := w.heap.setIfInBounds b o' } : World).heap[b']? = w.heap[b']?) ∧ Same w ({ w with heap := w.heap.setIfInBounds b o' } : World)) := by
  have hb : b < w.heap.size := (Array.getElem?_eq_some_iff.1 h).1
  refine ⟨Array.size_setIfInBounds .., ?_, fun b' hne => ?_, ⟨rfl, rfl, rfl⟩⟩
  · show (w.heap.setIfInBounds b o')[b]? = _
    simp [hb]
  · show (w.heap.setIfInBounds b o')[b']? = _
    rw [Array.getElem?_setIfInBounds_ne (Ne.symm hne)]

theorem map_tab {h : H} {id : Nat} (hi : id < 65536) {es : V} (hg : h.gt id = .map es) : h.cl id ≠ .dead ∧ ∀ n l', h.cl id ≠ .tab n l' := by
  rw [H.cl_gt h id hi, hg]
  exact ⟨fun e => (by cases e), fun _ _ e => (by cases e)⟩

theorem oMapSet_ok {ty : TypeId} {x y z : Operand} {op : Op} (hop : op = .mapUpdate ty x y z ∨ op = .insert ty x y z) (e : oMapSet ty x y z P nt s = .mk f) : HeapF P nt op s f := by
  rcases ocl_inv e with h | ⟨zz, hz, e1⟩
  · exact HeapF.dead h
  rcases cO_inv e1 with h | ⟨gx, hgx, e2⟩
  · exact HeapF.dead h
  rcases cO_inv e2 with h | ⟨gy, hgy, e3⟩
  · exact HeapF.dead h
  rcases cO_inv e3 with h | ⟨gz, hgz, e4⟩
  · exact HeapF.dead h
  cases e4
  intro ih t h k r er
  obtain ⟨hkx, e5⟩ := bi_some.1 er
  obtain ⟨id, hv, e6⟩ := mapidK_some e5
  obtain ⟨es, e7, hg⟩ := mapK_some e6
  obtain ⟨es', e8, hput⟩ := putK_some _ _ _ e7
  obtain ⟨kt, et, d, hmI, hkT, hu, hd, hzz⟩ := mapZ_spec hz
  refine ⟨_, _, e8, by rw [H.nx_set]; exact Nat.le_refl _, fun σ a w cx ht ok fr dst ty' pos after gd => ?_⟩
  have h1 := hgx σ t a cx ht
  rw [hv] at h1
  have h2 := hgy σ t a cx ht
  have h3 := hgz σ t a cx ht
  generalize hx : a.eval x = p at h1
  cases h1 with | @m _ b sz hs hi =>
  obtain ⟨en, ck, g1, g2, gb⟩ := ok.mapAt hi hs hg
  have hk := keyX_ok hmI hkT hkx hd h2
  obtain ⟨hdd, htab⟩ := map_tab hi hg
  have fin : ∀ o' : Obj, BOK σ (.map es') sz o' → (Instr.mapUpdate ty (.map (some b)) (a.eval y) (a.eval z)).run P w = .ok () { w with heap := w.heap.setIfInBounds b o' } →
      ∃ v' σ' w' nxt, (execOp a.eval ⟨dst, op, ty', pos, after, gd⟩).run P w = .ok nxt w' ∧ (nxt = .value v' ∨ nxt = .skip ∧ v' = undef) ∧ SExt σ h w σ' (h.set id (.map es')) w' ∧ HeapOK σ' (h.set id (.map es')).cl w' ∧ VR σ' undefV v' := by
    intro o' hbo hrun
    obtain ⟨s1, s2, s3⟩ := setBlock (o' := o') g1
    obtain ⟨ok', ext⟩ := ok.turn hi hs hdd htab s1 s2 hbo s3
    refine ⟨undef, σ, _, .skip, ?_, .inr ⟨rfl, rfl⟩, ext, ok', VR.undef σ⟩
    rcases hop with rfl | rfl <;> simp only [execOp, hx, Sem.run_bind, hrun, Result.andThen_ok, Sem.run_pure]
  rcases hput σ _ _ d _ h2 h3 hk g2 0 with ⟨j, v0, e0, f1, f2, f3, f4⟩ | ⟨f1, f2⟩
  · rw [Array.getElem?_toList] at f2
    refine fin (.map (en.modify j fun e => { e with key := a.eval y, val := a.eval z }) ck) ⟨_, _, rfl, by rw [Array.toList_modify]; exact f4, gb.set _ _ _⟩ ?_
    simp only [Instr.mapUpdate, Sem.run_bind, underlying, run_program, Result.andThen_ok, hu, Sem.run_pure, MapKept.run_getObj_map g1, checkKey_run hd hk, Instr.findKey, hd, f1, Nat.zero_add, f2, Option.map_some, Option.getD_some, Instr.keyThatStays, f3, if_true, MapKept.run_setObj_map _ g1]
  · refine fin (.map (en.push { key := a.eval y, val := a.eval z, born := ck }) (ck + 1)) ⟨_, _, rfl, by rw [Array.toList_push]; exact f2 ck, gb.push _ _⟩ ?_
    simp only [Instr.mapUpdate, Sem.run_bind, underlying, run_program, Result.andThen_ok, hu, Sem.run_pure, MapKept.run_getObj_map g1, checkKey_run hd hk, Instr.findKey, hd, f1, MapKept.run_setObj_map _ g1]

/-! ### a text gone through -/
theorem oNext_ok {x : Operand} {b0 : Bool} (e : oNext x b0 P nt s = .mk f) : HeapF P nt (.next x b0) s f := by
  cases b0 with
  | false => exact HeapF.dead (dead_of e)
  | true =>
    rcases cO_inv e with h | ⟨g, hg, e1⟩
    · exact HeapF.dead h
    cases e1
    intro ih t h k r er
    obtain ⟨id, off, hv, e2⟩ := ptrK_some er
    obtain ⟨hoff, e3⟩ := bi_some.1 e2
    have hoff : off = 0 := Nat.eq_of_beq_eq_true hoff
    subst hoff
    rw [H.getK_gt] at e3
    cases hgt : h.gt id <;> rw [hgt] at e3 <;> try (exact absurd e3 (by intro e; cases e))
    rename_i n l pos
    have e4 : (Nat.blt pos l).rec (motive := fun _ => R) (k (s (.t (.cons (.b false) .nil)) t) h)
      (force (Nat.mod (Nat.div n (Nat.pow 256 pos)) 256) fun c => bi (Nat.blt c 128) (k (s (.t (.cons (.b true) (.cons (.i 3 pos) (.cons (.i 2 c) .nil)))) t) (h.set id (.siter n l (Nat.succ pos))))) = some r := e3
    have base : ∀ (σ : Sg) (a : Act) (w : World), Ctx P σ → TR σ nt t a.tmps → HeapOK σ h.cl w → ∃ b sz bs, a.eval x = .pointer (some ⟨b, 0, none⟩) ∧ σ id = some (b, sz) ∧ id < 65536 ∧ w.heap[b]? = some (.stringIter bs pos) ∧ pk bs.data.toList = n ∧ bs.size = l ∧ h.cl id ≠ .dead ∧ ∀ n l', h.cl id ≠ .tab n l' := by
      intro σ a w cx ht ok
      have h1 := hg σ t a cx ht
      rw [hv] at h1
      generalize hx : a.eval x = p at h1
      cases h1 with | @p _ _ b sz hs hi =>
      have hc := H.cl_gt h id hi
      rw [hgt] at hc
      obtain ⟨b', sz', o, q1, q2, q3⟩ := ok.ok id (by rw [hc]; intro h; cases h)
      rw [hs] at q1
      obtain ⟨rfl, rfl⟩ := Prod.mk.inj (Option.some.inj q1)
      rw [hc] at q3
      obtain ⟨bs, rfl, q4, q5⟩ := q3
      exact ⟨b, sz, bs, rfl, hs, hi, q2, q4, q5, (by rw [hc]; intro h; cases h), (by rw [hc]; intro _ _ h; cases h)⟩
    cases hlt : Nat.blt pos l with
    | false =>
      rw [hlt] at e4
      have hnl : ¬ pos < l := by intro hh; rw [show Nat.blt pos l = true from by simpa [Nat.blt_eq] using hh] at hlt; cases hlt
      refine ⟨_, _, e4, Nat.le_refl _, fun σ a w cx ht ok fr dst ty' pos' after gd => ?_⟩
      obtain ⟨b, sz, bs, g0, g1, g2, g3, g4, g5, g6, g7⟩ := base σ a w cx ht ok
      refine ⟨.tuple #[.bool false], σ, w, _, ?_, .inl rfl, SExt.refl _ _ _, ok, .t (.cons (.b false) .nil)⟩
      have hge : (getObj b).run P w = .ok (.stringIter bs pos) w := by simp [getObj, Sem.run, g3]
      have : ¬ pos < bs.size := by omega
      simp [execOp, Instr.next, g0, hge, this, Result.andThen]
    | true =>
      rw [hlt] at e4
      have hl : pos < l := by simpa [Nat.blt_eq] using hlt
      have e5 : force (Nat.mod (Nat.div n (Nat.pow 256 pos)) 256) (fun c => bi (Nat.blt c 128) (k (s (.t (.cons (.b true) (.cons (.i 3 pos) (.cons (.i 2 c) .nil)))) t) (h.set id (.siter n l (Nat.succ pos))))) = some r := e4
      rw [force_eq] at e5
      obtain ⟨hc128, e6⟩ := bi_some.1 e5
      have hc : n / 256 ^ pos % 256 < 128 := blt_lt hc128
      refine ⟨_, _, e6, by rw [H.nx_set]; exact Nat.le_refl _, fun σ a w cx ht ok fr dst ty' pos' after gd => ?_⟩
      obtain ⟨b, sz, bs, g0, g1, g2, g3, g4, g5, g6, g7⟩ := base σ a w cx ht ok
      have hps : pos < bs.size := by omega
      have hpl : pos < bs.data.toList.length := by rw [Array.length_toList]; exact hps
      have hbyte := pk_get pos bs.data.toList hpl
      rw [g4] at hbyte
      have hget : (bs.get! pos).toNat = n / 256 ^ pos % 256 := by
        rw [← hbyte]
        have : bs.get! pos = bs.data.toList[pos] := by
          show bs.data[pos]! = _
          have hd : pos < bs.data.size := hps
          rw [getElem!_pos bs.data pos hd]; rfl
        rw [this]
      have hdec : Utf8.decode bs pos = (n / 256 ^ pos % 256, 1) := by
        unfold Utf8.decode
        simp only [Nat.add_zero, hget]
        rw [if_pos hc]
      have hge : (getObj b).run P w = .ok (.stringIter bs pos) w := by simp [getObj, Sem.run, g3]
      obtain ⟨s1, s2, s3⟩ := setBlock (o' := .stringIter bs (pos + 1)) g3
      have hse : (setObj b (.stringIter bs (pos + 1))).run P w = .ok () { w with heap := w.heap.setIfInBounds b (.stringIter bs (pos + 1)) } := by simp [setObj, Sem.run, g3]
      obtain ⟨ok', ext⟩ := ok.turn (bl := .siter n l (Nat.succ pos)) g2 g1 g6 g7 s1 s2 ⟨bs, rfl, g4, g5⟩ s3
      refine ⟨.tuple #[.bool true, goInt pos, .int .i32 (n / 256 ^ pos % 256 : Nat)], σ, _, _, ?_, .inl rfl, ext, ok', .t (.cons (.b true) (.cons (.i .i64 pos) (.cons (.i .i32 _) .nil)))⟩
      simp [execOp, Instr.next, g0, hge, hps, hdec, hse, Result.andThen]

end
end Go.Ev
set_option maxHeartbeats 2000000
namespace Go.Ev
section
variable {P : Program} {nt : Nat} {s : S} {f : F}

theorem bytesV_ok (σ : Sg) : ∀ l : List UInt8, VRs σ (bytesV l.length (pk l)) (l.map fun b => .int .u8 (b.toNat : Nat))
  | [] => .nil
  | b :: l => by
    have h1 : (pk (b :: l)) % 256 = b.toNat := by rw [pk_cons]; have := b.toNat_lt; omega
    have h2 : (pk (b :: l)) / 256 = pk l := by rw [pk_cons]; have := b.toNat_lt; omega
    show VRs σ (.cons (.i 4 (Nat.mod (pk (b :: l)) 256)) (bytesV l.length (Nat.div (pk (b :: l)) 256))) _
    have e1 : Nat.mod (pk (b :: l)) 256 = b.toNat := h1
    have e2 : Nat.div (pk (b :: l)) 256 = pk l := h2
    rw [e1, e2]
    exact .cons (.i .u8 _) (bytesV_ok σ l)

/-- what is appended, in the world -/
def AddOK (P : Program) (σ : Sg) (w : World) (es n : Nat) (cs : V) (x : Value) : Prop :=
  (∀ w', (Builtin.lenOf x).run P w' = .ok n w') ∧ ∃ l : List Value, VRs σ cs l ∧ l.length = n * es ∧ ∀ w' : World, w'.heap = w.heap → (Builtin.firstCells es n x).run P w' = .ok l.toArray w'

theorem cell_heap {w w' : World} (h : w'.heap = w.heap) (a : Addr) : w'.cell? a = w.cell? a := by simp only [World.cell?, h]

theorem addendK_some {es : Nat} {h : H} {q : Nat → V → R} {x : V} {r : Res} (e : addendK es h q x = some r) :
    ∃ n cs, q n cs = some r ∧ ∀ σ w xv, HeapOK σ h.cl w → VR σ x xv → AddOK P σ w es n cs xv := by
  cases x <;> try (exact absurd e (by intro e; cases e))
  case s p l =>
    obtain ⟨h1, e1⟩ := bi_some.1 e
    have hes : es = 1 := Nat.eq_of_beq_eq_true h1
    refine ⟨l, _, e1, fun σ w xv ok hx => ?_⟩
    cases hx with | s b =>
    have hl : b.data.toList.length = b.size := Array.length_toList
    have h2 := bytesV_ok σ b.data.toList
    rw [hl] at h2
    refine ⟨fun w' => rfl, _, h2, by rw [List.length_map, hl, hes]; omega, fun w' _ => ?_⟩
    have : b.extract 0 b.size = b := by simp
    simp only [Builtin.firstCells, Sem.run_pure, this]
    congr 1
    apply Array.toList_inj.1
    rw [Array.toList_map]
  case z tag =>
    obtain ⟨h1, e1⟩ := bi_some.1 e
    have ht : tag = 1 := Nat.eq_of_beq_eq_true h1
    subst ht
    refine ⟨0, _, e1, fun σ w xv ok hx => ?_⟩
    cases hx
    exact ⟨fun w' => rfl, [], .nil, by simp, fun w' _ => rfl⟩
  case l id off n ee =>
    obtain ⟨h1, e1⟩ := bi_some.1 e
    have hee : ee = es := Nat.eq_of_beq_eq_true h1
    subst hee
    obtain ⟨m, l, e2, hg⟩ := atK_some e1
    obtain ⟨r1, e3, h3⟩ := dropK_some e2
    obtain ⟨r2, e4, h4⟩ := takeK_some e3
    refine ⟨n, r2, e4, fun σ w xv ok hx => ?_⟩
    cases hx with
    | @l0 _ _ _ b sz o hs hi =>
      have h4' := takeK_some e3
      obtain ⟨C, hC⟩ := ok.row hi hs hg
      obtain ⟨g1, g2⟩ := h3 σ _ hC.rel
      obtain ⟨g3, g4⟩ := h4 σ _ g2
      refine ⟨fun w' => rfl, _, g4, by rw [List.length_take]; show min (0 * ee) _ = 0 * ee; simp, fun w' _ => ?_⟩
      have : Nat.mul 0 ee = 0 := Nat.zero_mul ee
      rw [this, List.take_zero]
      simp [Builtin.firstCells, loadCells, loadCellsFrom]
    | @l _ _ _ _ b sz cap hs hi hc hfit =>
      obtain ⟨C, hC⟩ := ok.row hi hs hg
      obtain ⟨g1, g2⟩ := h3 σ _ hC.rel
      obtain ⟨g3, g4⟩ := h4 σ _ g2
      have hlen : (((C.toList.take m).drop off).take (n * ee)).length = n * ee := by rw [List.length_take]; exact Nat.min_eq_left g3
      refine ⟨fun w' => rfl, _, g4, hlen, fun w' hw => ?_⟩
      have hrun := run_loadCells_list (P := P) (w := w') ⟨b, off, none⟩ (((C.toList.take m).drop off).take (n * ee)) (fun j v hj => by
        rw [add_none, cell_heap hw, hC.cell]
        rw [List.getElem?_take] at hj
        split at hj
        · rw [List.getElem?_drop, List.getElem?_take] at hj
          split at hj
          · rw [Array.getElem?_toList] at hj; exact hj
          · cases hj
        · cases hj)
      rw [hlen] at hrun
      exact hrun

  case k ee n xs =>
    obtain ⟨h1, e1⟩ := bi_some.1 e
    have hee : ee = es := Nat.eq_of_beq_eq_true h1
    subst hee
    cases n with
    | zero =>
      have e2 : q 0 .nil = some r := by
        have h0 : Nat.mul 0 ee = 0 := Nat.zero_mul ee
        have e1 : takeK (Nat.mul 0 ee) xs (q 0) = some r := e1
        rw [h0] at e1
        exact e1
      refine ⟨0, .nil, e2, fun σ w xv ok hx => ?_⟩
      cases hx <;> exact ⟨fun w' => rfl, [], .nil, by simp, fun w' _ => by simp [Builtin.firstCells, loadCells, loadCellsFrom]⟩
    | succ n =>
      obtain ⟨r2, e4, h4⟩ := takeK_some e1
      refine ⟨n + 1, r2, e4, fun σ w xv ok hx => ?_⟩
      cases hx with
      | @k _ _ b off cap m _ C hf hl hnm hc hxs =>
        obtain ⟨⟨e', fr, ho⟩, _⟩ := ok.fz b C hf
        obtain ⟨g3, g4⟩ := h4 σ _ hxs
        have hlen : (((C.drop off).take m).take ((n + 1) * ee)).length = (n + 1) * ee := by rw [List.length_take]; exact Nat.min_eq_left g3
        refine ⟨fun w' => rfl, _, g4, hlen, fun w' hw => ?_⟩
        have hrun := run_loadCells_list (P := P) (w := w') ⟨b, off, none⟩ (((C.drop off).take m).take ((n + 1) * ee)) (fun j v hj => by
          rw [add_none, cell_heap hw]
          have hcell : w.cell? ⟨b, off + j, none⟩ = C[off + j]? := by simp [World.cell?, ho]
          rw [hcell]
          rw [List.getElem?_take] at hj
          split at hj
          · rw [List.getElem?_take] at hj
            split at hj
            · rw [List.getElem?_drop] at hj; exact hj
            · cases hj
          · cases hj)
        rw [hlen] at hrun
        exact hrun

theorem growBy_le (n X : Nat) (hX : n + (n + 768) / 4 ≤ X) : ∀ (rounds c : Nat), c ≤ X → Builtin.growBy n rounds c ≤ X
  | 0, c, h => h
  | rounds + 1, c, h => by
    unfold Builtin.growBy
    split
    · exact h
    · exact growBy_le n X hX rounds _ (by omega)
theorem nextcap_le {n c : Nat} (h : c < n) : Builtin.nextslicecap n c ≤ 2 * n + 1000 := by
  unfold Builtin.nextslicecap
  split
  · omega
  · split
    · omega
    · exact growBy_le n _ (by omega) 4 c (by omega)

theorem fewT_spec {ty el : TypeId} (h : fewT P ty = true) (hu : P.underlying ty = some (.slice el)) : ∃ i, P.info? el = some i ∧ 1 ≤ i.bytes ∧ i.bytes ≤ 4096 := by
  unfold fewT at h
  cases hi : elemI P ty with
  | none => rw [hi] at h; cases h
  | some e =>
    have := elemI_spec hi
    rw [hu] at this
    cases this
    rw [hi] at h
    simp only at h
    split at h
    · rename_i i hi
      simp only [Bool.and_eq_true] at h
      exact ⟨i, hi, Nat.le_of_ble_eq_true h.1, Nat.le_of_ble_eq_true h.2⟩
    · cases h

theorem notInt_spec {t : TypeId} (h : notInt P t = true) : ∃ d, P.underlying t = some d ∧ ∀ k, d ≠ .int k := by
  unfold notInt at h
  cases hd : P.underlying t with
  | none => rw [hd] at h; cases h
  | some d =>
    rw [hd] at h
    refine ⟨d, rfl, fun k hk => ?_⟩
    subst hk
    cases h

theorem zeroOk_spec {ty el : TypeId} {es : Nat} (h : zeroOk P ty es = true) (hu : P.underlying ty = some (.slice el)) : ∃ zv : Value, (∀ w, (zeroValue el).run P w = .ok zv w) ∧ zv.cells.size = es := by
  unfold zeroOk at h
  split at h
  · rename_i z hz
    obtain ⟨el', hel', hz'⟩ := ob_some.1 hz
    have : el' = el := by have := elemI_spec hel'; rw [hu] at this; cases this; rfl
    subst this
    obtain ⟨zv, hz1, hz2⟩ := zeroT_run hz'
    refine ⟨zv, hz1, ?_⟩
    have hkn : knV z = true := by
      cases hk : knV z with
      | true => rfl
      | false => rw [hk] at h; cases h
    rw [hkn] at h
    have hc : cntV z = es := Nat.eq_of_beq_eq_true h
    have hv := hz2 ⟨fun _ => none, fun _ => none⟩
    cases hv <;> first | exact hc | cases hkn
  · cases h


theorem slcK_some {es : Nat} {x : V} {k : R} {r : Res} (e : slcK es x k = some r) : k = some r ∧ ∀ σ v, VR σ x v → ∃ b n c, v = .slice b n c ∧ n ≤ c := by
  cases x <;> try (exact absurd e (by intro e; cases e))
  case z tag =>
    obtain ⟨h, e1⟩ := bi_some.1 e
    have : tag = 1 := Nat.eq_of_beq_eq_true h
    subst this
    exact ⟨e1, fun σ v h => by cases h; exact ⟨_, _, _, rfl, Nat.le_refl _⟩⟩
  case l id off n ee =>
    obtain ⟨h, e1⟩ := bi_some.1 e
    refine ⟨e1, fun σ v h => ?_⟩
    cases h with
    | l _ _ hc _ => exact ⟨_, _, _, rfl, hc⟩
    | l0 _ _ => exact ⟨_, _, _, rfl, Nat.le_refl _⟩
  case k ee n xs =>
    obtain ⟨h, e1⟩ := bi_some.1 e
    refine ⟨e1, fun σ v h => ?_⟩
    cases h with
    | k _ _ _ hc _ => exact ⟨_, _, _, rfl, hc⟩
    | k0 => exact ⟨_, _, _, rfl, Nat.zero_le _⟩

theorem app_nil {ty ty2 el rt : TypeId} {es : Nat} {base : Option Addr} {sLen sCap : Nat} {x : Value} {w : World} {d : TypeDesc}
    (hu : P.underlying ty = some (.slice el)) (hsz : ∀ w, (sizeOf el).run P w = .ok es w) (hd : P.underlying ty2 = some d) (hni : ∀ k, d ≠ .int k) (hx : ∀ w', (Builtin.lenOf x).run P w' = .ok 0 w')
    (hf : (Builtin.firstCells es 0 x).run P w = .ok #[] w) (hc : sLen ≤ sCap) : (Builtin.append_ #[ty, ty2] rt #[.slice base sLen sCap, x]).run P w = .ok (.slice base sLen sCap) w := by
  cases d <;> first
    | (exact absurd rfl (hni _))
    | (cases base <;> simp [Builtin.append_, run_underlying hu, run_underlying hd, hsz, hx, hf, hc, storeCells])

theorem app_in {ty ty2 el rt : TypeId} {es n : Nat} {b : Addr} {sLen sCap : Nat} {x : Value} {w w' : World} {d : TypeDesc} {new : List Value}
    (hu : P.underlying ty = some (.slice el)) (hsz : ∀ w, (sizeOf el).run P w = .ok es w) (hd : P.underlying ty2 = some d) (hni : ∀ k, d ≠ .int k) (hx : ∀ w', (Builtin.lenOf x).run P w' = .ok n w')
    (hf : (Builtin.firstCells es n x).run P w = .ok new.toArray w) (hc : sLen + n ≤ sCap) (hst : (storeCells (b.add (sLen * es)) new).run P w = .ok () w') :
    (Builtin.append_ #[ty, ty2] rt #[.slice (some b) sLen sCap, x]).run P w = .ok (.slice (some b) (sLen + n) sCap) w' := by
  cases d <;> first
    | (exact absurd rfl (hni _))
    | (simp [Builtin.append_, run_underlying hu, run_underlying hd, hsz, hx, hf, hc, hst])

theorem app_new {ty ty2 el rt : TypeId} {es n : Nat} {base : Option Addr} {sLen sCap : Nat} {x zv : Value} {w : World} {d : TypeDesc} {i : TypeInfo} {old new : List Value}
    (hu : P.underlying ty = some (.slice el)) (hsz : ∀ w, (sizeOf el).run P w = .ok es w) (hd : P.underlying ty2 = some d) (hni : ∀ k, d ≠ .int k) (hx : ∀ w', (Builtin.lenOf x).run P w' = .ok n w')
    (hi : P.info? el = some i) (h1 : 1 ≤ i.bytes) (hz : ∀ w, (zeroValue el).run P w = .ok zv w)
    (hold : (Builtin.firstCells es sLen (.slice base sLen sCap)).run P w.drew = .ok old.toArray w.drew)
    (hf : (Builtin.firstCells es n x).run P w.drew = .ok new.toArray w.drew) (hc : ¬ sLen + n ≤ sCap) (h63 : ((sLen + n : Nat) : Int) ≤ 9223372036854775807) (hfit : Builtin.nextslicecap (sLen + n) sCap * i.bytes ≤ 281474976710656) :
    (Builtin.append_ #[ty, ty2] rt #[.slice base sLen sCap, x]).run P w =
      .ok (.slice (some ⟨w.heap.size, 0, none⟩) (sLen + n) (grownCap w (sLen + n) sCap el)) (w.drew.alloc (.cells (old.toArray ++ new.toArray ++ Builtin.zeroCells zv.cells (grownCap w (sLen + n) sCap el - (sLen + n))) el)) := by
  have h63' : ¬ (9223372036854775807 < (sLen : Int) + (n : Int)) := by omega
  have h48' : ¬ (281474976710656 < Builtin.nextslicecap (sLen + n) sCap * i.bytes) := by omega
  have hb : ¬ i.bytes = 0 := by omega
  cases d <;> first
    | (exact absurd rfl (hni _))
    | (simp [Builtin.append_, run_underlying hu, run_underlying hd, hsz, hx, hf, hold, hc, typeInfo, hi, h63', h48', hb, hz, Question.forced, newRow, grownCap, ← List.append_toArray])


theorem drew_nil (h : H) {σ : Sg} {w : World} (ok : HeapOK σ h.cl w) : HeapOK σ h.cl w.drew := ok.of_heap rfl

/-- a new block, with what was there and what is appended -/
theorem grow_ok {ty ty2 rt : TypeId} {es el : Nat} {d : TypeDesc} {i : TypeInfo} {zv : Value} (hu : P.underlying ty = some (.slice el)) (hsz : ∀ w, (sizeOf el).run P w = .ok es w) (hd : P.underlying ty2 = some d) (hni : ∀ k, d ≠ .int k)
    (hi : P.info? el = some i) (h1 : 1 ≤ i.bytes) (h4 : i.bytes ≤ 4096) (hz : ∀ w, (zeroValue el).run P w = .ok zv w) (hzs : zv.cells.size = es)
    {h h' : H} {σ : Sg} {w : World} {base : Option Addr} {m n cap : Nat} {xv : Value} {O L : List Value} {bl : V} (ok : HeapOK σ h.cl w) (hf : σ h.nx = none) (h0 : h.nx < 65536) (hnx : h'.nx = h.nx + 1)
    (hcl : h'.cl = fun x => if x = h.nx then .cells ((m + n) * es) bl else h.cl x) (hrel : VRs σ bl (O ++ L)) (hO : O.length = m * es) (hL : L.length = n * es) (hc : ¬ m + n ≤ cap) (hlt : m + n < 1048576)
    (hfo : ∀ w' : World, w'.heap = w.heap → (Builtin.firstCells es m (.slice base m cap)).run P w' = .ok O.toArray w') (a1 : ∀ w', (Builtin.lenOf xv).run P w' = .ok n w') (a4 : ∀ w' : World, w'.heap = w.heap → (Builtin.firstCells es n xv).run P w' = .ok L.toArray w') :
    ∃ v' σ' w', (Builtin.append_ #[ty, ty2] rt #[.slice base m cap, xv]).run P w = .ok v' w' ∧ SExt σ h w σ' h' w' ∧ HeapOK σ' h'.cl w' ∧ VR σ' (.l h.nx 0 (m + n) es) v' := by
  have hge := grownCap_ge w (m + n) cap el
  have hcap : Builtin.nextslicecap (m + n) cap * i.bytes ≤ 281474976710656 := growslice_fits (by omega) (by
    have := Nat.mul_le_mul (show m + n ≤ 1048576 by omega) h4
    omega)
  have hrun := app_new (rt := rt) hu hsz hd hni a1 hi h1 hz (hfo w.drew rfl) (a4 w.drew rfl) hc (by omega) hcap
  have hzc := size_zeroCells zv.cells (grownCap w (m + n) cap el - (m + n))
  rw [hzs] at hzc
  generalize hg : grownCap w (m + n) cap el = g at hrun hge hzc
  have hsize : (O.toArray ++ L.toArray ++ Builtin.zeroCells zv.cells (g - (m + n))).size = g * es := by
    rw [Array.size_append, Array.size_append, List.size_toArray, List.size_toArray, hzc, hO, hL]
    rw [← Nat.add_mul, ← Nat.add_mul]
    congr 1; omega
  have hOL : (O ++ L).length = (m + n) * es := by rw [List.length_append, hO, hL, Nat.add_mul]
  have hnew := HeapOK.new (h' := h') (b := .cells ((m + n) * es) bl) (o := .cells (O.toArray ++ L.toArray ++ Builtin.zeroCells zv.cells (g - (m + n))) el (0, 0)) (sz := g * es) (ok.of_heap (w' := w.drew) rfl) hf hnx hcl ⟨_, _, _, rfl, hsize, Nat.mul_le_mul_right _ (by omega), by
    have : ((O.toArray ++ L.toArray ++ Builtin.zeroCells zv.cells (g - (m + n))).toList).take ((m + n) * es) = O ++ L := by
      rw [Array.toList_append, Array.toList_append, List.take_append_of_le_length (by rw [hOL]; exact Nat.le_refl _)]
      exact List.take_of_length_le (by rw [hOL]; exact Nat.le_refl _)
    rw [this]
    exact hrel.mono (newSg_up hf), fun j _ hj => by omega⟩
  exact ⟨_, _, _, hrun, ⟨⟨hnew.2.up, hnew.2.size, hnew.2.keep, hnew.2.own, hnew.2.tabs, ⟨hnew.2.same.os, hnew.2.same.tape, hnew.2.same.output⟩, hnew.2.tabk, hnew.2.fzn, hnew.2.fzt⟩, hnew.2.nx, hnew.2.out⟩, hnew.1, .l (newSg_at _ _ _ _) h0 hge (by rw [Nat.zero_add]; exact Nat.le_refl _)⟩

theorem appV_ok {σ : Sg} {x y : V} {a b : List Value} (h : VRs σ x a) (g : VRs σ y b) : VRs σ (appV y x) (a ++ b) := by
  induction a generalizing x with
  | nil => cases h; exact g
  | cons v l ih => cases h with | cons h1 h2 => exact .cons h1 (ih h2)

theorem trimK_some {q want : Nat} {l : V} {k : KV} {r : Res} (e : trimK q want l k = some r) : ∃ x, k x = some r ∧ ∀ σ (C : List Value), q ≤ C.length → VRs σ l (C.take q) → want ≤ C.length ∧ VRs σ x (C.take want) := by
  unfold trimK at e
  cases hb : Nat.beq q want with
  | true =>
    rw [hb] at e
    obtain rfl := Nat.eq_of_beq_eq_true hb
    exact ⟨l, e, fun σ C h1 h2 => ⟨h1, h2⟩⟩
  | false =>
    rw [hb] at e
    obtain ⟨x, e1, h⟩ := takeK_some e
    refine ⟨x, e1, fun σ C h1 h2 => ?_⟩
    obtain ⟨g1, g2⟩ := h σ _ h2
    rw [List.length_take] at g1
    rw [List.take_take, Nat.min_eq_left (by omega)] at g2
    exact ⟨by omega, g2⟩

/-- 'append' -/
theorem append_ok {ty ty2 : TypeId} {es el : Nat} {d : TypeDesc} {i : TypeInfo} {zv : Value} (hu : P.underlying ty = some (.slice el)) (hsz : ∀ w, (sizeOf el).run P w = .ok es w) (hd : P.underlying ty2 = some d) (hni : ∀ k, d ≠ .int k)
    (hi : P.info? el = some i) (h1 : 1 ≤ i.bytes) (h4 : i.bytes ≤ 4096) (hz : ∀ w, (zeroValue el).run P w = .ok zv w) (hzs : zv.cells.size = es)
    {h : H} {s x : V} {k : KH} {r : Res} (e : appK es h s x k = some r) : ∃ v h', k v h' = some r ∧ h.nx ≤ h'.nx ∧
    ∀ (rt : TypeId) σ w sv xv, HeapOK σ h.cl w → Fr σ h.nx h'.nx → VR σ s sv → VR σ x xv → ∃ v' σ' w', (Builtin.append_ #[ty, ty2] rt #[sv, xv]).run P w = .ok v' w' ∧ SExt σ h w σ' h' w' ∧ HeapOK σ' h'.cl w' ∧ VR σ' v v' := by
  obtain ⟨n, cs, e1, hadd⟩ := addendK_some e
  cases hn : Nat.beq n 0 with
  | true =>
    have hn0 : n = 0 := Nat.eq_of_beq_eq_true hn
    subst hn0
    have e2 : slcK es s (k s h) = some r := e1
    obtain ⟨e3, hs⟩ := slcK_some e2
    refine ⟨s, h, e3, Nat.le_refl _, fun rt σ w sv xv ok fr hsv hxv => ?_⟩
    obtain ⟨a1, l, a2, a3, a4⟩ := hadd σ w xv ok hxv
    obtain ⟨b, m, c, rfl, hc⟩ := hs σ _ hsv
    have hl : l = [] := List.length_eq_zero_iff.1 (by rw [a3]; simp)
    subst hl
    exact ⟨_, σ, w, app_nil hu hsz hd hni a1 (a4 w rfl) hc, SExt.refl _ _ _, ok, hsv⟩
  | false =>
    have hnp : n ≠ 0 := fun e => by rw [e] at hn; cases hn
    have e2 : bi (ones cs) (appTo h k es n cs s) = some r := by
      have : (Nat.beq n 0).rec (motive := fun _ => R) (bi (ones cs) (appTo h k es n cs s)) (slcK es s (k s h)) = some r := e1
      rw [hn] at this; exact this
    obtain ⟨hones, e3⟩ := bi_some.1 e2
    cases s <;> try (exact absurd e3 (by intro e; cases e))
    case z tag =>
      obtain ⟨ht, e4⟩ := bi_some.1 e3
      have htag : tag = 1 := Nat.eq_of_beq_eq_true ht
      subst htag
      obtain ⟨hlt, e5⟩ := bi_some.1 e4
      have hlt : n < 1048576 := blt_lt hlt
      rw [force_eq] at e5
      obtain ⟨h0, h', e6, hnx, hcl⟩ := H.new_some e5
      refine ⟨_, h', e6, by omega, fun rt σ w sv xv ok fr hsv hxv => ?_⟩
      obtain ⟨a1, l, a2, a3, a4⟩ := hadd σ w xv ok hxv
      cases hsv
      have := grow_ok (rt := rt) (m := 0) (cap := 0) (base := none) (O := []) (L := l) (bl := cs) hu hsz hd hni hi h1 h4 hz hzs ok (fr h.nx (Nat.le_refl _) (by omega)) h0 hnx (by rw [Nat.zero_add]; exact hcl) a2 (by simp) a3 (by omega) (by omega)
        (fun w' _ => run_firstCells_none _ _ _ _ _) a1 a4
      rwa [Nat.zero_add] at this
    case l id off m ee =>
      obtain ⟨hee, e4⟩ := bi_some.1 e3
      have hee : ee = es := Nat.eq_of_beq_eq_true hee
      subst hee
      obtain ⟨hoff, e5⟩ := bi_some.1 e4
      have hoff : off = 0 := Nat.eq_of_beq_eq_true hoff
      subst hoff
      obtain ⟨q, bl0, e6, hg⟩ := rowK_some e5
      obtain ⟨bl, e7, htrim⟩ := trimK_some e6
      rw [force_eq] at e7
      obtain ⟨hlt, e8⟩ := bi_some.1 e7
      have hlt : m + n < 1048576 := blt_lt hlt
      rw [force_eq] at e8
      obtain ⟨h0, h', e9, hnx, hcl⟩ := H.new_some e8
      rw [H.nx_set] at h0 hnx hcl e9
      refine ⟨_, h', e9, by omega, fun rt σ w sv xv ok fr hsv hxv => ?_⟩
      obtain ⟨a1, l, a2, a3, a4⟩ := hadd σ w xv ok hxv
      have hfree := fr h.nx (Nat.le_refl _) (by omega)
      have hgrow : ∀ {b o cap sz : Nat}, σ id = some (b, sz) → id < 65536 → (m = 0 ∨ o = 0) → ¬ m + n ≤ cap → ∃ v' σ' w', (Builtin.append_ #[ty, ty2] rt #[.slice (some ⟨b, o, none⟩) m cap, xv]).run P w = .ok v' w' ∧ SExt σ h w σ' h' w' ∧ HeapOK σ' h'.cl w' ∧ VR σ' (.l h.nx 0 (m + n) ee) v' := by
        intro b o cap sz hs hi2 ho hc
        obtain ⟨C, el', frz, hC, hCs, hm0, hrel0, hnf⟩ := ok.rowW hi2 hs hg
        obtain ⟨hm, hrel⟩ := htrim σ C.toList (by rw [Array.length_toList, hCs]; exact hm0) hrel0
        have hm : m * ee ≤ sz := by rw [Array.length_toList, hCs] at hm; exact hm
        obtain ⟨hd1, htab⟩ := not_tab hi2 hg
        obtain ⟨ok2, ext2⟩ := ok.kill (w' := w) hi2 htab rfl (Same.refl _)
        have hCl : C.toList.length = C.size := Array.length_toList
        have hOl : (C.toList.take (m * ee)).length = m * ee := by rw [List.length_take, hCl, hCs]; omega
        obtain ⟨v', σ', w', r1, r2, r3, r4⟩ := grow_ok (rt := rt) (h := h.set id .dead) (h' := h') (base := some ⟨b, o, none⟩) (m := m) (n := n) (cap := cap) (O := C.toList.take (m * ee)) (L := l) (bl := appV cs bl) hu hsz hd hni hi h1 h4 hz hzs ok2 (by rw [H.nx_set]; exact hfree) (by rw [H.nx_set]; exact h0)
          (by rw [H.nx_set]; exact hnx) (by rw [H.nx_set]; exact hcl) (appV_ok hrel a2) hOl a3 hc hlt (fun w' hw => by
            have hcell : ∀ j v, (C.toList.take (m * ee))[j]? = some v → w'.cell? (Addr.add ⟨b, o, none⟩ j) = some v := fun j v hj => by
              have hjl : j < (C.toList.take (m * ee)).length := by
                rcases Nat.lt_or_ge j (C.toList.take (m * ee)).length with hh | hh
                · exact hh
                · rw [List.getElem?_eq_none hh] at hj; cases hj
              have ho : o = 0 := by
                rcases ho with rfl | ho
                · rw [hOl] at hjl; simp at hjl
                · exact ho
              subst ho
              rw [add_none, cell_heap hw]
              rw [List.getElem?_take] at hj
              split at hj
              · rw [Array.getElem?_toList] at hj
                simp only [World.cell?, hC, Nat.zero_add]; exact hj
              · cases hj
            exact run_firstCells_some w' ee m ⟨b, o, none⟩ m cap _ hOl hcell) a1 a4
        rw [H.nx_set] at r4
        exact ⟨v', σ', w', r1, ext2.trans r2, r3, r4⟩
      cases hsv with
      | @l0 _ _ _ b sz o hs hi2 => exact hgrow (o := o) (cap := 0) hs hi2 (.inl rfl) (by omega)
      | @l _ _ _ _ b sz cap hs hi2 hcm hfit =>
        by_cases hc : m + n ≤ cap
        · obtain ⟨C, el', frz, hC, hCs, hm0, hrel0, hnf⟩ := ok.rowW hi2 hs hg
          obtain ⟨hm, hrel⟩ := htrim σ C.toList (by rw [Array.length_toList, hCs]; exact hm0) hrel0
          have hm : m * ee ≤ sz := by rw [Array.length_toList, hCs] at hm; exact hm
          obtain ⟨hd1, htab⟩ := not_tab hi2 hg
          have hmul : (m + n) * ee ≤ cap * ee := Nat.mul_le_mul_right _ hc
          rw [Nat.add_mul] at hmul
          obtain ⟨w', D, r1, r2, r3, r4, r5, r6⟩ := store_run (P := P) (b := b) (off := m * ee) l 0 w C el' frz hC (by rw [a3, hCs]; omega) (by rw [hCs]; exact hnf) (ones_ok hones a2)
          have hbk : BOK (newSg σ h.nx b sz) (.cells ((m + n) * ee) (appV cs bl)) sz (.cells D el' frz) := by
            refine ⟨D, el', frz, rfl, by rw [r5, hCs], by rw [Nat.add_mul]; omega, ?_, hnf⟩
            have hCl : C.toList.length = C.size := Array.length_toList
            have : D.toList.take ((m + n) * ee) = C.toList.take (m * ee) ++ l := by
              rw [r4, ← List.append_assoc, Nat.add_zero]
              have hlen : (C.toList.take (m * ee) ++ l).length = (m + n) * ee := by rw [List.length_append, List.length_take, hCl, hCs, a3, Nat.add_mul]; omega
              rw [List.take_append_of_le_length (by rw [hlen]; exact Nat.le_refl _)]
              exact List.take_of_length_le (by rw [hlen]; exact Nat.le_refl _)
            rw [this]
            exact (appV_ok hrel a2).mono (newSg_up hfree)
          obtain ⟨ok', ext⟩ := ok.move hi2 hs hd1 htab hfree hnx hcl r2 r3 hbk r6
          refine ⟨_, _, _, app_in hu hsz hd hni a1 (a4 w rfl) hc (by rw [add_none, Nat.zero_add]; exact r1), ext, ok', .l (newSg_at _ _ _ _) h0 hc hfit⟩
        · exact hgrow (o := 0) hs hi2 (.inr rfl) hc

/-! ### zeros behind a nil slice -/
theorem intT_spec {t : TypeId} (h : intT P t = true) : ∃ k, P.underlying t = some (.int k) := by
  unfold intT at h
  split at h
  · exact ⟨_, by assumption⟩
  · cases h
theorem rep_zero {σ : Sg} {zc : V} {zv : Value} {es n : Nat} (z1 : zv.cells.size = es) (z2 : VRs σ zc zv.cells.toList) : VRs σ (rep zc n) (Builtin.zeroCells zv.cells n).toList := by
  have h1 := rep_rel z2 n
  rw [Array.length_toList, z1] at h1
  by_cases hb : n * es = 0
  · unfold Builtin.zeroCells
    rw [z1, hb]
    rw [hb] at h1
    simpa using h1
  · have : (Builtin.zeroCells zv.cells n).toList = (List.range (n * es)).map fun i => zv.cells.toList.getD (i % es) undef := by
      unfold Builtin.zeroCells
      rw [z1, Array.toList_map, Array.toList_range]
      apply List.map_congr_left
      intro j hj
      have hes0 : 0 < es := by rcases Nat.eq_zero_or_pos es with h | h; (· subst h; simp at hb); exact h
      have hlt : j % es < zv.cells.size := by rw [z1]; exact Nat.mod_lt _ hes0
      rw [List.getD_eq_getElem?_getD, Array.getElem?_toList, Array.getElem?_eq_getElem hlt]
      simp [hlt]
    rw [this]; exact h1
theorem zeroCells_nil {z : Array Value} {n : Nat} (h : n * z.size = 0) : Builtin.zeroCells z n = #[] := by unfold Builtin.zeroCells; rw [h]; simp
theorem app_newZ {ty ty2 el rt : TypeId} {es n : Nat} {kx k : IntKind} {zv : Value} {w : World} {i : TypeInfo}
    (hu : P.underlying ty = some (.slice el)) (hsz : ∀ w, (sizeOf el).run P w = .ok es w) (hd : P.underlying ty2 = some (.int k)) (hi : P.info? el = some i) (h1 : 1 ≤ i.bytes) (h4 : i.bytes ≤ 4096) (hz : ∀ w, (zeroValue el).run P w = .ok zv w) (hzs : zv.cells.size = es) (hn : 0 < n) (hlt : n < 65536) :
    (Builtin.append_ #[ty, ty2] rt #[.slice none 0 0, .int kx (Int.ofNat n)]).run P w =
      .ok (.slice (some ⟨w.heap.size, 0, none⟩) n (grownCap w n 0 el)) (w.drew.alloc (.cells (Builtin.zeroCells zv.cells n ++ Builtin.zeroCells zv.cells (grownCap w n 0 el - n)) el)) := by
  have hw : IntKind.i64.wrap (Int.ofNat n) = Int.ofNat n := wrap_pos (k := .i64) (by rw [top_eq]; show n < 9223372036854775808; omega)
  have hcap : Builtin.nextslicecap n 0 * i.bytes ≤ 281474976710656 := growslice_fits (by omega) (by
    have := Nat.mul_le_mul (show n ≤ 1048576 by omega) h4
    omega)
  have hcap' : ¬ (281474976710656 < Builtin.nextslicecap n 0 * i.bytes) := by omega
  have hb : ¬ i.bytes = 0 := by omega
  have t1 : ¬ ((n : Int) < 0) := by omega
  have t2 : ¬ (281474976710656 < (n : Int) * (i.bytes : Int)) := by
    have h1 : (n * i.bytes : Nat) ≤ 65536 * 4096 := Nat.mul_le_mul (by omega) h4
    have h2 : (n : Int) * (i.bytes : Int) = ((n * i.bytes : Nat) : Int) := by simp
    rw [h2]; omega
  have t3 : ¬ (9223372036854775807 < (n : Int)) := by omega
  have t4 : ¬ n = 0 := by omega
  have hw' : IntKind.i64.wrap (n : Int) = (n : Int) := hw
  by_cases hz0 : n * es = 0
  · have hze : Builtin.zeroCells zv.cells n = #[] := zeroCells_nil (by rw [hzs]; exact hz0)
    have hes : es = 0 := by rcases Nat.mul_eq_zero.1 hz0 with h | h <;> omega
    rw [hze]
    simp [Builtin.append_, run_underlying hu, run_underlying hd, hsz, asInt, asIntOf, hw', typeInfo, hi, t1, t2, t3, t4, hcap', hb, hz, hz0, hes, Question.forced, newRow, grownCap, Builtin.firstCells]
  · have hes : ¬ es = 0 := fun e => hz0 (by rw [e]; rfl)
    simp [Builtin.append_, run_underlying hu, run_underlying hd, hsz, asInt, asIntOf, hw', typeInfo, hi, t1, t2, t3, t4, hcap', hb, hz, hz0, hes, Question.forced, newRow, grownCap, Builtin.firstCells]
theorem appZ_ok {ty ty2 : TypeId} {es el : Nat} {i : TypeInfo} {zv : Value} {z : V} {kk : IntKind} (hu : P.underlying ty = some (.slice el)) (hsz : ∀ w, (sizeOf el).run P w = .ok es w) (hd : P.underlying ty2 = some (.int kk))
    (hi : P.info? el = some i) (h1 : 1 ≤ i.bytes) (h4 : i.bytes ≤ 4096) (hz : ∀ w, (zeroValue el).run P w = .ok zv w) (hzv : ∀ σ, VR σ z zv)
    {h : H} {s x : V} {k : KH} {r : Res} (e : appZ es z h s x k = some r) : ∃ v h', k v h' = some r ∧ h.nx ≤ h'.nx ∧
    ∀ (rt : TypeId) σ w sv xv, HeapOK σ h.cl w → Fr σ h.nx h'.nx → VR σ s sv → VR σ x xv → ∃ v' σ' w', (Builtin.append_ #[ty, ty2] rt #[sv, xv]).run P w = .ok v' w' ∧ SExt σ h w σ' h' w' ∧ HeapOK σ' h'.cl w' ∧ VR σ' v v' := by
  cases s <;> try (exact absurd e (by intro e; cases e))
  case z tag =>
    obtain ⟨ht, e1⟩ := bi_some.1 e
    have htag : tag = 1 := Nat.eq_of_beq_eq_true ht
    subst htag
    obtain ⟨c1, n, rfl, e2⟩ := numK_some e1
    obtain ⟨hn, e3⟩ := bi_some.1 e2
    have hn : 0 < n := blt_lt hn
    obtain ⟨hlt, e4⟩ := bi_some.1 e3
    have hlt : n < 65536 := blt_lt hlt
    obtain ⟨zn, zc, e5, hzc⟩ := cellsK_some e4
    obtain ⟨hzn, e6⟩ := bi_some.1 e5
    have hzn : zn = es := Nat.eq_of_beq_eq_true hzn
    subst hzn
    rw [force_eq] at e6
    obtain ⟨h0, h', e7, hnx, hcl⟩ := H.new_some e6
    refine ⟨_, h', e7, by omega, fun rt σ w sv xv ok fr hsv hxv => ?_⟩
    cases hsv
    obtain ⟨kx, _, rfl⟩ := hxv.int_i
    obtain ⟨z1, z2, _⟩ := hzc σ zv (hzv σ)
    have hf := fr h.nx (Nat.le_refl _) (Nat.zero_le _)
    have hrun := app_newZ (P := P) (rt := rt) (kx := kx) (w := w) hu hsz hd hi h1 h4 hz z1 hn hlt
    have hge := grownCap_ge w n 0 el
    generalize hg : grownCap w n 0 el = g at hrun hge
    have hs1 : (Builtin.zeroCells zv.cells n).size = n * zn := by rw [size_zeroCells, z1]
    have hs2 : (Builtin.zeroCells zv.cells (g - n)).size = (g - n) * zn := by rw [size_zeroCells, z1]
    have hsize : (Builtin.zeroCells zv.cells n ++ Builtin.zeroCells zv.cells (g - n)).size = g * zn := by
      rw [Array.size_append, hs1, hs2, ← Nat.add_mul]
      congr 1; omega
    have hnew := HeapOK.new (h' := h') (b := .cells (Nat.mul n zn) (rep zc n)) (o := .cells (Builtin.zeroCells zv.cells n ++ Builtin.zeroCells zv.cells (g - n)) el (0, 0)) (sz := g * zn) (ok.of_heap (w' := w.drew) rfl) hf hnx hcl ⟨_, _, _, rfl, hsize, Nat.mul_le_mul_right _ hge, by
      have : ((Builtin.zeroCells zv.cells n ++ Builtin.zeroCells zv.cells (g - n)).toList).take (Nat.mul n zn) = (Builtin.zeroCells zv.cells n).toList := by
        have hl : (Builtin.zeroCells zv.cells n).toList.length = n * zn := by rw [Array.length_toList, hs1]
        rw [Array.toList_append, List.take_append_of_le_length (by rw [hl]; exact Nat.le_refl _)]
        exact List.take_of_length_le (by rw [hl]; exact Nat.le_refl _)
      rw [this]
      exact (rep_zero z1 z2).mono (newSg_up hf), fun j _ hj => by omega⟩
    exact ⟨_, _, _, hrun, ⟨⟨hnew.2.up, hnew.2.size, hnew.2.keep, hnew.2.own, hnew.2.tabs, ⟨hnew.2.same.os, hnew.2.same.tape, hnew.2.same.output⟩, hnew.2.tabk, hnew.2.fzn, hnew.2.fzt⟩, hnew.2.nx, hnew.2.out⟩, hnew.1, .l (newSg_at _ _ _ _) h0 hge (by rw [Nat.zero_add]; exact Nat.le_refl _)⟩

end
end Go.Ev
namespace Go.Ev

/-- the heap that pure calls start with: tables alone -/
structure HpOK (P : Program) (hp : H) : Prop where
  tab : ∀ id, hp.cl id ≠ .dead → ∃ n l, hp.cl id = .tab n l
  glob : P.globals.size ≤ hp.nx
  lt : ∀ id, hp.cl id ≠ .dead → id < hp.nx

structure St (P : Program) (hp : H) (σ : Sg) (h : H) (w : World) : Prop where
  ctx : Ctx P σ
  ok : HeapOK σ h.cl w
  tabs : ∀ id n l, hp.cl id = .tab n l → h.cl id = .tab n l
  nx : hp.nx ≤ h.nx

theorem St.next {P : Program} {hp : H} {σ τ : Sg} {h h' : H} {w w' : World} (s : St P hp σ h w) (e : SExt σ h w τ h' w') (ok : HeapOK τ h'.cl w') : St P hp τ h' w' :=
  ⟨s.ctx.mono e.up, ok, fun id n l g => e.tabs _ _ _ (s.tabs id n l g), Nat.le_trans s.nx e.nx⟩
theorem Fr.tail {σ τ : Sg} {h h' : H} {w w' : World} {m : Nat} (e : SExt σ h w τ h' w') (f : Fr σ h.nx m) : Fr τ h'.nx m := fun id h1 h2 => by
  rw [e.out id (by have := e.nx; omega)]
  exact f id (Nat.le_trans e.nx h1) h2
theorem Fr.head {σ : Sg} {a b c : Nat} (f : Fr σ a c) (h : b ≤ c) : Fr σ a b := fun id h1 h2 => f id h1 (Nat.zero_le _)

/-- the fence: everything, in this round -/
def Fx (l : Option Nat) : Fence := { Fence.wide with round := l }

/-- how a call ends -/
def EndOK (σ : Sg) (h : H) (w : World) (x : V) (h' : H) (e : Ending) (w' : World) : Prop := ∃ v σ', e = .returned v ∧ SExt σ h w σ' h' w' ∧ HeapOK σ' h'.cl w' ∧ VR σ' x v
/-- a function that runs as it is -/
def RunsFn (P : Program) (f : FuncId) : Prop := ∃ fn, P.funcs[f]? = some fn ∧ fn.body.isNone = false ∧ (fn.name == "runtime.NumGoroutine") = false
theorem RunsFn.call {P : Program} {f : FuncId} (h : RunsFn P f) (args : Array Value) (w : World) : (callFunc f args).run P w = .ok (.enter f args) w := by
  obtain ⟨fn, h1, h2, h3⟩ := h
  simp only [callFunc, Sem.run_bind, run_program, Result.andThen_ok, h1, h2, h3, Sem.run_pure, Bool.false_eq_true, if_false]

/-- a world that has grown: nothing that lay there is turned -/
structure Grown (w w' : World) : Prop where
  size : w.heap.size ≤ w'.heap.size
  old : ∀ b, b < w.heap.size → w'.heap[b]? = w.heap[b]?
  same : Same w w'
/-- how a harmless call ends that was put off -/
def BenEnd (w : World) (e : Ending) (u : FrameMode) (w' : World) : Prop := (∃ v, e = .returned v) ∧ u = .returning ∧ Grown w w'
/-- a call put off that turns nothing -/
def BenD (P : Program) (d : Deferred) : Prop := ∃ fv cap f args, d.target = .fn fv cap ∧ (∀ w, (invoke d.target d.args).run P w = .ok (.enter f args) w) ∧ ∀ w, CallsDIn Fence.wide 0 P f args .returning w (BenEnd w)
/-- the calls put off: marks, in nobody else's blocks; harmless ones -/
structure MK (P : Program) (n0 : Nat) (σ : Sg) (c : Cm) (w : World) (ms : List Deferred) : Prop where
  each : ∀ d, d ∈ ms → (∃ r, d.target = .collected r ∧ n0 ≤ r ∧ w.heap[r]? = some (.deferred (some [])) ∧ ∀ id sz, c id ≠ .dead → σ id ≠ some (r, sz)) ∨ BenD P d
  apart : ms.Pairwise fun d d' => ∀ r r', d.target = .collected r → d'.target = .collected r' → r ≠ r'
theorem MK.nil (P : Program) (n0 : Nat) (σ : Sg) (c : Cm) (w : World) : MK P n0 σ c w [] := ⟨fun _ h => (by cases h), .nil⟩
theorem MK.next {P : Program} {n0 : Nat} {σ τ : Sg} {h h' : H} {w w' : World} {ms : List Deferred} (m : MK P n0 σ h.cl w ms) (e : SExt σ h w τ h' w') : MK P n0 τ h'.cl w' ms := by
  refine ⟨fun d hd => ?_, m.apart⟩
  rcases m.each d hd with ⟨r, h1, h2, h3, h4⟩ | hben
  case inr => exact .inr hben
  refine .inl ?_
  have hlt : r < w.heap.size := (Array.getElem?_eq_some_iff.1 h3).1
  refine ⟨r, h1, h2, by rw [e.keep r hlt h4]; exact h3, fun id sz hc hs => ?_⟩
  obtain ⟨i, z, g1, g2⟩ := e.own id r sz hc hs hlt
  exact h4 i z g1 g2

/-- how code ends -/
def PostOK (P : Program) (σ : Sg) (h : H) (w : World) (nt n0 : Nat) (r : Res) (e : Exit) (a' : Act) (w' : World) : Prop :=
  ∃ t' h' σ', (r = .nor t' h' ∧ e = .normal ∨ r = .ret t' h' ∧ e = .ret ∨ ∃ id, r = .exit id t' h' ∧ e = .exit id) ∧ SExt σ h w σ' h' w' ∧ HeapOK σ' h'.cl w' ∧ TR σ' nt t' a'.tmps ∧ MK P n0 σ' h'.cl w' a'.defers

/-- a loop, a round ahead -/
def LoopW (F : Fence) (n : Nat) (P : Program) (c : Code) (Q : Exit → Act → World → Prop) (a : Act) (w : World) : Prop :=
  ∀ (b : Frame) (k : List Item) (cs : List Frame), b.roundOf = F.round → F.fn b.fn → F.room (cs.length + 1 + n) →
    ∃ e a' w', Q e a' w' ∧ ArrivesIn (Machine.fenced P F) P (lone (b.atR a (.code c :: .inLoop c :: k)) cs w) b k cs e a' w'

def wpX (l : Option Nat) (P : Program) (c : Code) (Q : Exit → Act → World → Prop) (a : Act) (w : World) : Prop := c.wpIn (Fx l) 0 P Q a w ∧ ∀ c0, c = .loop c0 → LoopW (Fx l) 0 P c0 Q a w

def resOK (r : Res) (t' : T) (h' : H) : Prop := r = .nor t' h' ∨ r = .ret t' h' ∨ ∃ id, r = .exit id t' h'

/-- what is known of code whose end is told -/
def CodeG (P : Program) (hp : H) (rnd : Bool) (nt : Nat) (c : Code) (t : T) (h : H) (r : Res) : Prop := ∃ t' h', resOK r t' h' ∧ h.nx ≤ h'.nx ∧
  ∀ σ l a w n0, rnd = l.isSome → St P hp σ h w → Fr σ h.nx h'.nx → TR σ nt t a.tmps → MK P n0 σ h.cl w a.defers → n0 ≤ w.heap.size → wpX l P c (PostOK P σ h w nt n0 r) a w

structure IHOK (P : Program) (hp : H) (ih : IH) : Prop where
  call : ∀ f args h r, ih (.call f args h) = some r → ∃ x h', r = .val x h' ∧ h.nx ≤ h'.nx ∧ RunsFn P f ∧ ∀ σ w vs, St P hp σ h w → Fr σ h.nx h'.nx → VRs σ args vs.toList → CallsIn Fence.wide 0 P f vs w (EndOK σ h w x h')
  code : ∀ rnd nt c t h r, ih (.code rnd nt c t h) = some r → CodeG P hp rnd nt c t h r

/-- one operation, whatever it is -/
def LoudF (P : Program) (hp : H) (nt : Nat) (op : Op) (s : S) (f : F) : Prop := ∀ ih, IHOK P hp ih → ∀ t h k r, f ih t h k = some r → ∃ v h', k (s v t) h' = some r ∧ h.nx ≤ h'.nx ∧
  ∀ σ l a w, St P hp σ h w → TR σ nt t a.tmps → Fr σ h.nx h'.nx → ∀ (dst : Option Tmp) (ty : TypeId) (pos : String) (after : Array Edge) (gd : Option (Nat × Bool)) (K : Act → World → Prop) (Q : Exit → Act → World → Prop),
    (∀ v' w' σ', SExt σ h w σ' h' w' → HeapOK σ' h'.cl w' → VR σ' v v' → K (a.put dst v') w') → Oper.wpIn (Fx l) 0 P ⟨dst, op, ty, pos, after, gd⟩ a w K Q

section
variable {P : Program} {hp : H} {nt : Nat} {s : S} {f : F}
theorem LoudF.dead {op : Op} (h : Dead f) : LoudF P hp nt op s f := fun ih _ t hh k r e => by rw [h] at e; cases e

theorem HeapF.loud {op : Op} (hd : ∀ c, op ≠ .defer c) (h : HeapF P nt op s f) : LoudF P hp nt op s f := fun ih _ t hh k r e => by
  obtain ⟨v, h', h1, h2, h3⟩ := h ih t hh k r e
  refine ⟨v, h', h1, h2, fun σ l a w st ht fr dst ty pos after gd K Q hk => ⟨fun _ _ => trivial, ?_⟩⟩
  obtain ⟨v', σ', w', nxt, r1, r2, r3, r4, r5⟩ := h3 σ a w st.ctx ht st.ok fr dst ty pos after gd
  rw [Oper.semAt_eq _ _ _ hd, r1]
  have := hk v' w' σ' r3 r4 r5
  rcases r2 with rfl | ⟨rfl, rfl⟩
  · exact this
  · exact this

/-! ### 'append' as an operation -/
theorem oAppend_ok {x y : Operand} {tys : Array TypeId} (e : cBuiltin .append [x, y] tys.toList P nt s = .mk f) : HeapF P nt (.call ⟨.builtin .append, #[x, y], tys⟩) s f := by
  obtain ⟨tl⟩ := tys
  match tl, e with
  | [], e => exact HeapF.dead (dead_of e)
  | [_], e => exact HeapF.dead (dead_of e)
  | _ :: _ :: _ :: _, e => exact HeapF.dead (dead_of e)
  | [ty, ty2], e =>
    rcases bcl_inv e with h | ⟨hfew, e1⟩
    · exact HeapF.dead h
    cases hint : intT P ty2 with
    | false =>
      rw [hint] at e1
      rcases bcl_inv e1 with h | ⟨hni, e2⟩
      · exact HeapF.dead h
      rcases ocl_inv e2 with h | ⟨es, hes, e3⟩
      · exact HeapF.dead h
      rcases bcl_inv e3 with h | ⟨hzo, e4⟩
      · exact HeapF.dead h
      rcases cO_inv e4 with h | ⟨gx, hgx, e5⟩
      · exact HeapF.dead h
      rcases cO_inv e5 with h | ⟨gy, hgy, e6⟩
      · exact HeapF.dead h
      cases e6
      intro ih t h k r er
      obtain ⟨el, hu, hsz⟩ := elemT_spec hes
      obtain ⟨i, hi, h1, h4⟩ := fewT_spec hfew hu
      obtain ⟨d, hd, hnd⟩ := notInt_spec hni
      obtain ⟨zv, hz, hzs⟩ := zeroOk_spec hzo hu
      obtain ⟨v, h', e7, hnx, hrun⟩ := append_ok hu (sizeT_run hsz) hd hnd hi h1 h4 hz hzs er
      refine ⟨v, h', e7, hnx, fun σ a w cx ht ok fr dst ty' pos after gd => ?_⟩
      obtain ⟨v', σ', w', r1, r2, r3, r4⟩ := hrun ty' σ w (a.eval x) (a.eval y) ok fr (hgx σ t a cx ht) (hgy σ t a cx ht)
      refine ⟨v', σ', w', .value v', ?_, .inl rfl, r2, r3, r4⟩
      simp [execOp, resolve, invoke, builtin, r1]
    | true =>
      rw [hint] at e1
      rcases ocl_inv e1 with h | ⟨es, hes, e2⟩
      · exact HeapF.dead h
      rcases ocl_inv e2 with h | ⟨z, hzz, e4⟩
      · exact HeapF.dead h
      rcases cO_inv e4 with h | ⟨gx, hgx, e5⟩
      · exact HeapF.dead h
      rcases cO_inv e5 with h | ⟨gy, hgy, e6⟩
      · exact HeapF.dead h
      cases e6
      intro ih t h k r er
      obtain ⟨el, hu, hsz⟩ := elemT_spec hes
      obtain ⟨i, hi, h1, h4⟩ := fewT_spec hfew hu
      obtain ⟨kk, hd⟩ := intT_spec hint
      obtain ⟨el', hel', hz'⟩ := ob_some.1 hzz
      have : el' = el := by have := elemI_spec hel'; rw [hu] at this; cases this; rfl
      subst this
      obtain ⟨zv, hz1, hz2⟩ := zeroT_run hz'
      obtain ⟨v, h', e7, hnx, hrun⟩ := appZ_ok hu (sizeT_run hsz) hd hi h1 h4 hz1 hz2 er
      refine ⟨v, h', e7, hnx, fun σ a w cx ht ok fr dst ty' pos after gd => ?_⟩
      obtain ⟨v', σ', w', r1, r2, r3, r4⟩ := hrun ty' σ w (a.eval x) (a.eval y) ok fr (hgx σ t a cx ht) (hgy σ t a cx ht)
      refine ⟨v', σ', w', .value v', ?_, .inl rfl, r2, r3, r4⟩
      simp [execOp, resolve, invoke, builtin, r1]
end
end Go.Ev
namespace Go.Ev
section
variable {P : Program} {hp : H} {nt : Nat} {s : S} {f : F}

theorem valK_some {x : R} {k : KH} {r : Res} (e : valK x k = some r) : ∃ v h, x = some (.val v h) ∧ k v h = some r := by
  cases x with
  | none => cases e
  | some y => cases y <;> first | (exact ⟨_, _, rfl, e⟩) | (cases e)
theorem norK_some {x : R} {k : KT} {r : Res} (e : norK x k = some r) : ∃ v h, x = some (.nor v h) ∧ k v h = some r := by
  cases x with
  | none => cases e
  | some y => cases y <;> first | (exact ⟨_, _, rfl, e⟩) | (cases e)

theorem isNil_true {v : V} {σ : Sg} {l : List Value} (h : isNil v = true) (g : VRs σ v l) : l = [] := by
  cases g
  · rfl
  · cases h

/-- the parameters are laid -/
theorem setPs_some {ps : List Tmp} {vs : V} {t : T} {k : T → R} {r : Res} (e : setPs nt ps vs t k = some r) : ∃ t', k t' = some r ∧
    ∀ (σ : Sg) (tm : Array Value) (args : List Value), TR σ nt t tm → VRs σ vs args → args.length = ps.length ∧ TR σ nt t' ((ps.zip args).foldl (fun tm (q : Tmp × Value) => tm.setIfInBounds q.1 q.2) tm) := by
  induction ps generalizing vs t with
  | nil =>
    have e : (isNil vs).rec none (k t) = some r := e
    cases hn : isNil vs with
    | false => rw [hn] at e; cases e
    | true =>
      rw [hn] at e
      refine ⟨t, e, fun σ tm args ht hv => ?_⟩
      have := isNil_true hn hv
      subst this
      exact ⟨rfl, ht⟩
  | cons p ps ih =>
    have e : nthK vs 0 (fun v => dropK 1 vs fun r => bi (Nat.blt p nt) (setPs nt ps r (setT t p v) k)) = some r := e
    obtain ⟨v, e1, h1⟩ := nthK_some e
    obtain ⟨q, e2, h2⟩ := dropK_some e1
    obtain ⟨hlt, e3⟩ := bi_some.1 e2
    have hlt : p < nt := blt_lt hlt
    obtain ⟨t', e4, h4⟩ := ih e3
    refine ⟨t', e4, fun σ tm args ht hv => ?_⟩
    obtain ⟨g1, g2⟩ := h2 σ _ hv
    obtain ⟨y, hy, g3⟩ := h1 σ _ hv
    cases args with
    | nil => simp at g1
    | cons a args =>
      have : y = a := by simpa using hy.symm
      subst this
      have hput : TR σ nt (setT t p v) (tm.setIfInBounds p y) := TR.put (a := ⟨tm, []⟩) (d := some p) ht (fun n hn => by cases hn; exact hlt) g3
      obtain ⟨h5, h6⟩ := h4 σ _ args hput (by simpa using g2)
      exact ⟨by simp [h5], h6⟩

/-- how a round ended, and the jump it leaves -/
def JR (r0 : Res) (t : T) (h : H) (jump : Option Code) : Prop := (r0 = .nor t h ∧ jump = none) ∨ (r0 = .ret t h ∧ jump = some .ret) ∨ ∃ id, r0 = .exit id t h ∧ jump = some (.exit id)
theorem busyK_some {h : H} {l : Nat} {y : Nat → T → List Tmp → Code → Code → R} {r : Res} (e : busyK h l y = some r) :
    ∃ p nt t ps as bd, h.gt l = .loop 1 p nt t ps as bd ∧ y nt t ps as bd = some r := by
  unfold busyK at e
  rw [H.getK_gt] at e
  cases hb : h.gt l <;> rw [hb] at e <;> try (exact absurd e (by intro e; cases e))
  obtain ⟨h1, e1⟩ := bi_some.1 e
  have h1 := Nat.eq_of_beq_eq_true h1
  subst h1
  exact ⟨_, _, _, _, _, _, rfl, e1⟩
theorem endK_some {x : R} {l : Nat} {k : KH} {r : Res} (e : endK x l k = some r) : ∃ r0 t4 h4 jump p nt t ps as bd, x = some r0 ∧ JR r0 t4 h4 jump ∧ h4.gt l = .loop 1 p nt t ps as bd ∧
    k (.b jump.isNone) (h4.set l (.loop (stN (if jump.isNone then .ready else .done)) jump nt t ps as bd)) = some r := by
  cases x with
  | none => cases e
  | some y =>
    cases y with
    | val => cases e
    | nor t4 h4 =>
      obtain ⟨p, nt, t, ps, as, bd, h1, h2⟩ := busyK_some e
      exact ⟨_, t4, h4, none, p, nt, t, ps, as, bd, rfl, .inl ⟨rfl, rfl⟩, h1, h2⟩
    | ret t4 h4 =>
      obtain ⟨p, nt, t, ps, as, bd, h1, h2⟩ := busyK_some e
      exact ⟨_, t4, h4, some .ret, p, nt, t, ps, as, bd, rfl, .inr (.inl ⟨rfl, rfl⟩), h1, h2⟩
    | exit id t4 h4 =>
      obtain ⟨p, nt, t, ps, as, bd, h1, h2⟩ := busyK_some e
      exact ⟨_, t4, h4, some (.exit id), p, nt, t, ps, as, bd, rfl, .inr (.inr ⟨id, rfl, rfl⟩), h1, h2⟩

theorem HeapOK.loopAt {σ : Sg} {h : H} {w : World} (ok : HeapOK σ h.cl w) {id b sz st nt : Nat} {p : Option Code} {t : T} {ps : List Tmp} {as bd : Code} (hi : id < 65536) (hs : σ id = some (b, sz)) (hg : h.gt id = .loop st p nt t ps as bd) :
    ∃ L : Loop, w.heap[b]? = some (.loop L) ∧ stN L.state = st ∧ L.pending = p ∧ TR σ nt t L.tmps ∧ L.params.toList = ps ∧ L.assign = as ∧ L.body = bd := by
  have hc := H.cl_gt h id hi
  rw [hg] at hc
  obtain ⟨b', sz', o, h1, h2, h3⟩ := ok.ok id (by rw [hc]; intro h; cases h)
  rw [hs] at h1
  obtain ⟨rfl, rfl⟩ := Prod.mk.inj (Option.some.inj h1)
  rw [hc] at h3
  obtain ⟨L, rfl, a⟩ := h3
  exact ⟨L, h2, a⟩
theorem not_tab' {h : H} {id st nt : Nat} {p : Option Code} {t : T} {ps : List Tmp} {as bd : Code} (hi : id < 65536) (hg : h.gt id = .loop st p nt t ps as bd) : h.cl id ≠ .dead ∧ ∀ n l', h.cl id ≠ .tab n l' := by
  rw [H.cl_gt h id hi, hg]
  exact ⟨fun e => (by cases e), fun _ _ e => (by cases e)⟩

/-- the record is turned -/
theorem HeapOK.putLoop {σ : Sg} {h : H} {w : World} (ok : HeapOK σ h.cl w) {id b sz st nt : Nat} {p : Option Code} {t : T} {ps : List Tmp} {as bd : Code} {L L' : Loop} (hi : id < 65536) (hs : σ id = some (b, sz)) (hg : h.gt id = .loop st p nt t ps as bd)
    (hL : w.heap[b]? = some (.loop L)) (ht : TR σ nt t L'.tmps) (hp : L'.params.toList = ps) (ha : L'.assign = as) (hb : L'.body = bd) :
    HeapOK σ (h.set id (.loop (stN L'.state) L'.pending nt t ps as bd)).cl (w.putObj b (.loop L')) ∧ SExt σ h w σ (h.set id (.loop (stN L'.state) L'.pending nt t ps as bd)) (w.putObj b (.loop L')) := by
  obtain ⟨h1, h2⟩ := not_tab' hi hg
  exact ok.turn hi hs h1 h2 World.putObj_size (World.putObj_heap_same (Array.getElem?_eq_some_iff.1 hL).1) ⟨L', rfl, rfl, rfl, ht, hp, ha, hb⟩ ⟨fun b' hb' => World.putObj_heap_other hb', ⟨rfl, rfl, rfl⟩⟩

theorem stN_zero {s : LoopState} (h : stN s = 0) : s = .ready := by cases s <;> first | rfl | (cases h)
theorem stN_one {s : LoopState} (h : stN s = 1) : s = .busy := by cases s <;> first | rfl | (cases h)

/-- one round -/
theorem doYield_ok {ih : IH} (hih : IHOK P hp ih) {vs : V} {h : H} {k : KH} {l : Nat} {r : Res} (e : doYield ih vs h k l = some r) : ∃ x h', k x h' = some r ∧ h.nx ≤ h'.nx ∧
    ∀ σ w b sz args, σ l = some (b, sz) → l < 65536 → St P hp σ h w → Fr σ h.nx h'.nx → VRs σ vs args → ∃ fn tmps as bd, (Instr.yield b args.toArray).run P w = .ok (.round b fn tmps as bd) w ∧
      RoundIn Fence.wide 0 P b fn tmps as bd w (EndOK σ h w x h') := by
  unfold doYield at e
  rw [H.getK_gt] at e
  cases hb : h.gt l <;> rw [hb] at e <;> try (exact absurd e (by intro e; cases e))
  rename_i st p nt t ps as bd
  have e : doRound ih vs h l k st p nt t ps as bd = some r := e
  cases st with
  | succ n => exact absurd e (by intro e; cases e)
  | zero =>
    obtain ⟨t', e1, h1⟩ := setPs_some (show setPs nt ps vs t _ = some r from e)
    obtain ⟨t2, h2, e2, e3⟩ := norK_some e1
    rw [H.getK_gt] at e3
    cases hb2 : h2.gt l <;> rw [hb2] at e3 <;> try (exact absurd e3 (by intro e; cases e))
    rename_i st2 p2 nt2 t3 ps2 as2 bd2
    cases st2 with
    | succ n => exact absurd e3 (by intro e; cases e)
    | zero =>
      obtain ⟨r0, t4, h4, jump, p4, nt4, t5, ps4, as4, bd4, e4, hj, hb4, e5⟩ := endK_some (show endK (ih (.code true nt bd t2 (h2.set l (.loop 1 p2 nt2 t3 ps2 as2 bd2)))) l k = some r from e3)
      obtain ⟨ta, ha, c1, c2, c3⟩ := hih.code _ _ _ _ _ _ e2
      have hta : t2 = ta ∧ h2 = ha := by
        rcases c1 with h | h | ⟨_, h⟩ <;> cases h
        exact ⟨rfl, rfl⟩
      obtain ⟨rfl, rfl⟩ := hta
      obtain ⟨tb, hb', d1, d2, d3⟩ := hih.code _ _ _ _ _ _ e4
      have htb : t4 = tb ∧ h4 = hb' := by
        rcases d1 with h | h | ⟨_, h⟩ <;> rcases hj with ⟨g, _⟩ | ⟨g, _⟩ | ⟨_, g, _⟩ <;> rw [h] at g <;> cases g <;> exact ⟨rfl, rfl⟩
      obtain ⟨rfl, rfl⟩ := htb
      rw [H.nx_set] at d2 d3
      refine ⟨_, _, e5, by rw [H.nx_set]; omega, fun σ w b sz args hs hi stt fr hv => ?_⟩
      rw [H.nx_set] at fr
      obtain ⟨L, hL, g1, g2, g3, g4, g5, g6⟩ := stt.ok.loopAt hi hs hb
      obtain ⟨q1, q2⟩ := h1 σ L.tmps args g3 hv
      have hsz : args.toArray.size = L.params.size := by rw [List.size_toArray, q1, ← g4, Array.length_toList]
      refine ⟨L.fn, _, L.assign, L.body, run_yield hL hsz, ?_⟩
      refine roundIn_of_wpIn trivial ?_
      rw [g5, g6]
      have hfold : (L.params.zip args.toArray).foldl (fun t (x : Nat × Value) => t.setIfInBounds x.1 x.2) L.tmps = (ps.zip args).foldl (fun tm (q : Tmp × Value) => tm.setIfInBounds q.1 q.2) L.tmps := by
        rw [← Array.foldl_toList, Array.toList_zip, g4]
      rw [hfold]
      have hw := (c3 σ (some b) ⟨_, []⟩ w w.heap.size rfl stt (fr.head (by omega)) q2 (MK.nil _ _ _ _ _) (Nat.le_refl _)).1
      refine wpIn_mono hw fun e a1 w1 hpost => ?_
      obtain ⟨tx, hx, σ1, hr, x1, x2, x3, x4⟩ := hpost
      have : (tx = t2 ∧ hx = h2) ∧ e = .normal := by
        rcases hr with ⟨h, rfl⟩ | ⟨h, rfl⟩ | ⟨_, h, rfl⟩ <;> cases h
        exact ⟨⟨rfl, rfl⟩, rfl⟩
      obtain ⟨⟨rfl, rfl⟩, rfl⟩ := this
      have hs1 : σ1 l = some (b, sz) := x1.up _ _ hs
      obtain ⟨L1, hL1, k1, k2, k3, k4, k5, k6⟩ := x2.loopAt hi hs1 hb2
      refine ⟨_, run_beginRound hL1 (stN_zero k1), ?_⟩
      obtain ⟨ok2, ext2⟩ := x2.putLoop (L' := { L1 with state := .busy }) hi hs1 hb2 hL1 k3 k4 k5 k6
      have st1 := stt.next x1 x2
      have hset : (HeapOK σ1 (hx.set l (.loop 1 p2 nt2 t3 ps2 as2 bd2)).cl (w1.putObj b (.loop { L1 with state := .busy })) ∧ SExt σ1 hx w1 σ1 (hx.set l (.loop 1 p2 nt2 t3 ps2 as2 bd2)) (w1.putObj b (.loop { L1 with state := .busy }))) := by
        rw [show (1 : Nat) = stN ({ L1 with state := .busy } : Loop).state from rfl, ← k2]; exact ⟨ok2, ext2⟩
      obtain ⟨ok2, ext2⟩ := hset
      have st2 := st1.next ext2 ok2
      have fr1 : Fr σ1 hx.nx h4.nx := fr.tail x1
      have hw2 := (d3 σ1 (some b) a1 (w1.putObj b (.loop { L1 with state := .busy })) w.heap.size rfl st2 fr1 x3 (x4.next ext2) (Nat.le_trans x1.size ext2.size)).1
      refine wpIn_mono hw2 fun e a3 w3 hpost => ?_
      obtain ⟨tx, hx', σ3, hr, y1, y2, y3, y4⟩ := hpost
      have hs3 : σ3 l = some (b, sz) := y1.up _ _ hs1
      have hh4 : tx = t4 ∧ hx' = h4 := by
        rcases hr with ⟨h, _⟩ | ⟨h, _⟩ | ⟨_, h, _⟩ <;> rcases hj with ⟨g, _⟩ | ⟨g, _⟩ | ⟨_, g, _⟩ <;> rw [h] at g <;> cases g <;> exact ⟨rfl, rfl⟩
      obtain ⟨rfl, rfl⟩ := hh4
      obtain ⟨L3, hL3, m1, m2, m3, m4, m5, m6⟩ := y2.loopAt hi hs3 hb4
      have hfin : ∃ v w', (Instr.endRound b jump).run P w3 = .ok v w' ∧ EndOK σ h w (.b jump.isNone) (hx'.set l (.loop (stN (if jump.isNone then .ready else .done)) jump nt4 t5 ps4 as4 bd4)) (.returned v) w' := by
        obtain ⟨ok5, ext5⟩ := y2.putLoop (L' := { L3 with state := if jump.isNone then .ready else .done, pending := jump }) hi hs3 hb4 hL3 m3 m4 m5 m6
        exact ⟨_, _, run_endRound jump hL3, _, σ3, rfl, x1.trans (ext2.trans (y1.trans ext5)), ok5, .b _⟩
      rcases hj with ⟨g, gj⟩ | ⟨g, gj⟩ | ⟨id, g, gj⟩ <;> rcases hr with ⟨h, he⟩ | ⟨h, he⟩ | ⟨id', h, he⟩ <;> rw [h] at g <;> cases g <;> subst he <;> subst gj <;> exact hfin
end
end Go.Ev
namespace Go.Ev
section
variable {P : Program} {hp : H} {nt : Nat} {s : S} {f : F}

/-- a call of a value -/
theorem doCall_ok {ih : IH} (hih : IHOK P hp ih) {vs g : V} {h : H} {k : KH} {r : Res} (e : doCall ih vs h k g = some r) : ∃ x h', k x h' = some r ∧ h.nx ≤ h'.nx ∧
    ∀ σ w gv (args : Array Value), St P hp σ h w → Fr σ h.nx h'.nx → VR σ g gv → VRs σ vs args.toList →
      ∃ d, (∀ w', (Deferred.ofValue gv args).run P w' = .ok d w') ∧
        ((∃ fn cs, (invoke d.target d.args).run P w = .ok (.enter fn cs) w ∧ CallsIn Fence.wide 0 P fn cs w (EndOK σ h w x h')) ∨
         (∃ b fn tmps as bd, (invoke d.target d.args).run P w = .ok (.round b fn tmps as bd) w ∧ RoundIn Fence.wide 0 P b fn tmps as bd w (EndOK σ h w x h'))) := by
  cases g <;> try (exact absurd e (by intro e; cases e))
  case f fn first cap =>
    obtain ⟨x, h', e1, e2⟩ := valK_some (show valK (ih (.call fn (appV (appV cap vs) first) h)) k = some r from e)
    obtain ⟨x', h'', g1, g2, g3, g4⟩ := hih.call _ _ _ _ e1
    cases g1
    refine ⟨x, h', e2, g2, fun σ w gv args st fr hg hv => ?_⟩
    cases hg with | @f _ _ _ c d hx hy =>
    refine ⟨⟨.fn (.func fn) d, c ++ args⟩, fun w' => rfl, .inl ⟨fn, c ++ args ++ d, g3.call _ _, g4 σ w _ st fr ?_⟩⟩
    rw [Array.toList_append, Array.toList_append, List.append_assoc]
    exact VRs.app hx (VRs.app hv hy)
  case y l =>
    obtain ⟨x, h', e1, e2, e3⟩ := doYield_ok hih (show doYield ih vs h k l = some r from e)
    refine ⟨x, h', e1, e2, fun σ w gv args st fr hg hv => ?_⟩
    cases hg with | @y _ b sz hs hi =>
    obtain ⟨fn, tmps, as, bd, r1, r2⟩ := e3 σ w b sz args.toList hs hi st fr hv
    refine ⟨⟨.fn (.yield b) #[], args⟩, fun w' => by simp [Deferred.ofValue], .inr ⟨b, fn, tmps, as, bd, r1, r2⟩⟩

/-- the call of a range over a function -/
theorem doIter_ok {ih : IH} (hih : IHOK P hp ih) {vs g : V} {h : H} {k : KH} {r : Res} (e : doIter ih vs h k g = some r) : ∃ x h', k x h' = some r ∧ h.nx ≤ h'.nx ∧
    ∀ σ w gv (args : Array Value), St P hp σ h w → Fr σ h.nx h'.nx → VR σ g gv → VRs σ vs args.toList →
      ∃ d, (∀ w', (Deferred.ofValue gv args).run P w' = .ok d w') ∧ ∃ fn cs, (invoke d.target d.args).run P w = .ok (.enter fn cs) w ∧ CallsIn Fence.wide 0 P fn cs w (EndOK σ h w x h') := by
  cases g <;> try (exact absurd e (by intro e; cases e))
  case f fn first cap =>
    obtain ⟨x, h', e1, e2⟩ := valK_some (show valK (ih (.call fn (appV (appV cap vs) first) h)) k = some r from e)
    obtain ⟨x', h'', g1, g2, g3, g4⟩ := hih.call _ _ _ _ e1
    cases g1
    refine ⟨x, h', e2, g2, fun σ w gv args st fr hg hv => ?_⟩
    cases hg with | @f _ _ _ c d hx hy =>
    refine ⟨⟨.fn (.func fn) d, c ++ args⟩, fun w' => rfl, fn, c ++ args ++ d, g3.call _ _, g4 σ w _ st fr ?_⟩
    rw [Array.toList_append, Array.toList_append, List.append_assoc]
    exact VRs.app hx (VRs.app hv hy)

theorem cCallee0_ok {x : Operand} {args tys : Array _} (e : cCallee0 x args.toList P nt s = .mk f) : LoudF P hp nt (.call ⟨.value x, args, tys⟩) s f := by
  rcases cO_inv e with h | ⟨gf, hgf, e1⟩
  · exact LoudF.dead h
  rcases cOs_inv e1 with h | ⟨ga, hga, e2⟩
  · exact LoudF.dead h
  cases e2
  intro ih hih t h k r er
  obtain ⟨v, h', e3, e4, e5⟩ := doCall_ok hih er
  refine ⟨v, h', e3, e4, fun σ l a w st ht fr dst ty pos after gd K Q hk => ⟨fun _ _ => trivial, ?_⟩⟩
  have hargs : VRs σ (ga t) (args.map a.eval).toList := by rw [Array.toList_map]; exact hga σ t a st.ctx ht
  obtain ⟨d, r1, r2⟩ := e5 σ w (a.eval x) (args.map a.eval) st fr (hgf σ t a st.ctx ht) hargs
  rw [Oper.semAt_eq _ _ _ (fun c hc => by cases hc)]
  have hex : ∀ nxt w', (invoke d.target d.args).run P w = .ok nxt w' → (execOp a.eval ⟨dst, .call ⟨.value x, args, tys⟩, ty, pos, after, gd⟩).run P w = .ok nxt w' := fun nxt w' hr => by
    simp only [execOp, resolve, Sem.run_bind, r1, Result.andThen_ok, hr]
  rcases r2 with ⟨fn, cs, r3, r4⟩ | ⟨b, fn, tmps, as, bd, r3, r4⟩
  · rw [hex _ _ r3]
    refine ⟨fun hh => (by cases hh), CallsIn.mono (show CallsIn (Fx l) 0 P fn cs w _ from r4) fun e w' hR => ?_⟩
    obtain ⟨v', σ', rfl, q1, q2, q3⟩ := hR
    exact hk v' w' σ' q1 q2 q3
  · rw [hex _ _ r3]
    refine ⟨fun hh => (by cases hh), RoundIn.mono (show RoundIn (Fx l) 0 P b fn tmps as bd w _ from r4) fun e w' hR => ?_⟩
    obtain ⟨v', σ', rfl, q1, q2, q3⟩ := hR
    exact hk v' w' σ' q1 q2 q3

/-! ### pure calls -/
structure PUOK (P : Program) (hp : H) (pu : PU) : Prop where
  call : ∀ f vs x h', pu f vs = some (.val x h') → hp.nx ≤ h'.nx ∧ RunsFn P f ∧
    ∀ σ w args, St P hp σ hp w → Fr σ hp.nx h'.nx → VRs σ vs args.toList → CallsIn Fence.wide 0 P f args w (EndOK σ hp w x h')
  ben : ∀ g vs i t h', pu g vs = some (.exit i t h') → RunsFn P g ∧ ∀ σ (args : Array Value), VRs σ vs args.toList → ∀ w, CallsDIn Fence.wide 0 P g args .returning w (BenEnd w)

theorem normK_some {v : V} {k : KV} {r : Res} (e : normK v k = some r) : ∃ x, k x = some r ∧ ∀ σ τ y, VR σ v y → VR τ x y := by
  cases v <;> try (exact absurd e (by intro e; cases e))
  case b x =>
    cases x
    · exact ⟨_, e, fun σ τ y h => by cases h; exact .b _⟩
    · exact ⟨_, e, fun σ τ y h => by cases h; exact .b _⟩
  case i c n =>
    have e : force c (fun c => force n fun n => k (.i c n)) = some r := e
    rw [force_eq, force_eq] at e
    exact ⟨_, e, fun σ τ y h => by cases h; exact .i _ _⟩
  case j c n =>
    have e : force c (fun c => force n fun n => k (.j c n)) = some r := e
    rw [force_eq, force_eq] at e
    exact ⟨_, e, fun σ τ y h => by cases h; exact .j _ _⟩
  case s n l =>
    have e : force n (fun n => force l fun l => k (.s n l)) = some r := e
    rw [force_eq, force_eq] at e
    exact ⟨_, e, fun σ τ y h => by cases h; exact .s _⟩
theorem normsK_some {v : V} {k : KV} {r : Res} (e : normsK v k = some r) : ∃ x, k x = some r ∧ ∀ σ τ y, VRs σ v y → VRs τ x y := by
  induction v generalizing k with
  | nil => exact ⟨.nil, e, fun σ τ y h => by cases h; exact .nil⟩
  | cons a b _ ih =>
    obtain ⟨x, e1, h1⟩ := normK_some (show normK a (fun x => normsK b fun r => k (.cons x r)) = some r from e)
    obtain ⟨y, e2, h2⟩ := ih e1
    exact ⟨_, e2, fun σ τ l h => by cases h with | cons p q => exact .cons (h1 σ τ _ p) (h2 σ τ _ q)⟩
  | _ => cases e

theorem scal_ok {v : V} (h : scal v = true) {σ τ : Sg} {y : Value} (g : VR σ v y) : VR τ v y := by
  cases g <;> first | (constructor; done) | (cases h)
theorem scals_ok {v : V} (h : scals v = true) {σ τ : Sg} {y : List Value} (g : VRs σ v y) : VRs τ v y := by
  induction y generalizing v with
  | nil => cases g; exact .nil
  | cons a l ih =>
    cases g with | @cons x r _ _ hx hr =>
    have h' : (scal x).rec false (scals r) = true := h
    cases h1 : scal x <;> rw [h1] at h'
    · cases h'
    · exact .cons (scal_ok h1 hx) (ih h' hr)
theorem scalR_ok {v : V} (h : scalR v = true) {σ τ : Sg} {y : Value} (g : VR σ v y) : VR τ v y := by
  cases g with
  | t hl => exact .t (scals_ok h hl)
  | _ => first | (constructor; done) | (cases h)

/-- the world of a pure call, within the world -/
def cutSg (σ : Sg) (n : Nat) : Sg := ⟨fun id => if id < n then σ id else none, σ.fz⟩
/-- and what it froze, back in the world -/
def backSg (σ σ' : Sg) : Sg := ⟨σ.at_, σ'.fz⟩
theorem St.cut {σ : Sg} {h : H} {w : World} (hpo : HpOK P hp) (st : St P hp σ h w) : St P hp (cutSg σ hp.nx) hp w := by
  refine ⟨fun g hg => ?_, ⟨fun id hc => ?_, fun id id' b s1 s2 h1 h2 e1 e2 => ?_, fun b C hf => ⟨(st.ok.fz b C hf).1, fun id sz hc hs => ?_⟩⟩, fun _ _ _ h => h, Nat.le_refl _⟩
  · obtain ⟨sz, hs⟩ := st.ctx g hg
    exact ⟨sz, by have := hpo.glob; simp only [cutSg]; rw [if_pos (by omega)]; exact hs⟩
  · obtain ⟨n, l, hn⟩ := hpo.tab id hc
    have hh := st.tabs id n l hn
    obtain ⟨b, sz, o, g1, g2, g3⟩ := st.ok.ok id (by rw [hh]; intro h; cases h)
    refine ⟨b, sz, o, by simp only [cutSg]; rw [if_pos (hpo.lt id hc)]; exact g1, g2, ?_⟩
    rw [hh] at g3
    rw [hn]
    exact g3
  · obtain ⟨n, l, hn⟩ := hpo.tab id h1
    obtain ⟨n', l', hn'⟩ := hpo.tab id' h2
    simp only [cutSg, if_pos (hpo.lt id h1)] at e1
    simp only [cutSg, if_pos (hpo.lt id' h2)] at e2
    exact st.ok.inj id id' b s1 s2 (by rw [st.tabs _ _ _ hn]; intro h; cases h) (by rw [st.tabs _ _ _ hn']; intro h; cases h) e1 e2
  · obtain ⟨n, l, hn⟩ := hpo.tab id hc
    simp only [cutSg, if_pos (hpo.lt id hc)] at hs
    exact (st.ok.fz b C hf).2 id sz (by rw [st.tabs _ _ _ hn]; intro h; cases h) hs
theorem cut_fr (σ : Sg) (n m : Nat) : Fr (cutSg σ n) n m := fun id h _ => by simp only [cutSg]; rw [if_neg (by omega)]
theorem St.back {σ σ' : Sg} {h h' : H} {w w' : World} (hpo : HpOK P hp) (st : St P hp σ h w) (x : SExt (cutSg σ hp.nx) hp w σ' h' w') (ok : HeapOK σ' h'.cl w') : SExt σ h w (backSg σ σ') h w' ∧ HeapOK (backSg σ σ') h.cl w' := by
  have up : Up σ (backSg σ σ') := ⟨fun _ _ e => e, x.up.fz⟩
  have keep : ∀ b, b < w.heap.size → (∀ id sz, hp.cl id ≠ .dead → cutSg σ hp.nx id ≠ some (b, sz)) → w'.heap[b]? = w.heap[b]? := x.keep
  have hcl : ∀ id sz b, hp.cl id ≠ .dead → cutSg σ hp.nx id = some (b, sz) → h.cl id ≠ .dead ∧ σ id = some (b, sz) := fun id sz b hc hs => by
    obtain ⟨n, l, hn⟩ := hpo.tab id hc
    simp only [cutSg, if_pos (hpo.lt id hc)] at hs
    exact ⟨by rw [st.tabs _ _ _ hn]; (intro h; cases h), hs⟩
  have old : ∀ b C, σ'.fz b = some C → b < w.heap.size → σ.fz b = some C := fun b C h1 hb => by
    cases h2 : σ.fz b with
    | some C' => rw [x.up.fz b C' h2] at h1; exact h1
    | none =>
      obtain ⟨id, sz, g1, g2⟩ := x.fzn b C h1 h2 hb
      obtain ⟨n, l, hn⟩ := hpo.tab id g1
      exact h2.symm.trans (x.fzt id n l b sz C hn g2 h1)
  refine ⟨⟨⟨up, x.size, fun b hb hn => keep b hb fun id sz hc hs => ?_, fun id b sz hc hs _ => ⟨id, sz, hc, hs⟩, fun _ _ _ h => h, x.same, fun id n l b sz hc hs hb => ?_, fun b C h1 h2 hb => absurd (h2.symm.trans (old b C h1 hb)) (fun h => nomatch h), fun id n l b sz C hc hs hf => old b C hf (st.ok.lt (by rw [hc]; intro h; cases h) hs)⟩, Nat.le_refl _, fun _ _ => rfl⟩, ⟨fun id hc => ?_, st.ok.inj, fun b C hf => ⟨(ok.fz b C hf).1, fun id sz hc hs => (st.ok.fz b C (old b C hf (st.ok.lt hc hs))).2 id sz hc hs⟩⟩⟩
  · obtain ⟨g1, g2⟩ := hcl id sz b hc hs
    exact hn id sz g1 g2
  · by_cases hx : ∃ id' sz', hp.cl id' ≠ .dead ∧ cutSg σ hp.nx id' = some (b, sz')
    · obtain ⟨id', sz', q1, q2⟩ := hx
      obtain ⟨n', l', hn'⟩ := hpo.tab id' q1
      exact x.tabk id' n' l' b sz' hn' q2 hb
    · exact keep b hb fun id' sz' q1 q2 => hx ⟨id', sz', q1, q2⟩
  · obtain ⟨b, sz, o, g1, g2, g3⟩ := st.ok.ok id hc
    by_cases hx : ∃ id' sz', hp.cl id' ≠ .dead ∧ cutSg σ hp.nx id' = some (b, sz')
    · obtain ⟨id', sz', q1, q2⟩ := hx
      obtain ⟨q3, q4⟩ := hcl id' sz' b q1 q2
      have : id = id' := st.ok.inj _ _ _ _ _ hc q3 g1 q4
      subst this
      obtain ⟨n, l, hn⟩ := hpo.tab id q1
      have hh := st.tabs id n l hn
      have hh' := x.tabs id n l hn
      obtain ⟨b2, sz2, o2, u1, u2, u3⟩ := ok.ok id (by rw [hh']; intro h; cases h)
      rw [x.up _ _ q2] at u1
      obtain ⟨rfl, rfl⟩ := Prod.mk.inj (Option.some.inj u1)
      rw [g1] at q4
      obtain ⟨_, rfl⟩ := Prod.mk.inj (Option.some.inj q4)
      refine ⟨_, _, o2, g1, u2, ?_⟩
      rw [hh'] at u3
      rw [hh]
      exact u3
    · refine ⟨b, sz, o, g1, ?_, g3.mono up⟩
      rw [keep b (Array.getElem?_eq_some_iff.1 g2).1 fun id' sz' q1 q2 => hx ⟨id', sz', q1, q2⟩]
      exact g2

theorem cPureTo_ok {pu : PU} (hpo : HpOK P hp) (hpu : PUOK P hp pu) {fn : Nat} {args : Array Operand} {tys : Array TypeId} (e : cPureTo pu fn args.toList P nt s = .mk f) : LoudF P hp nt (.call ⟨.value (.func fn), args, tys⟩) s f := by
  rcases cOs_inv e with h | ⟨ga, hga, e2⟩
  · exact LoudF.dead h
  cases e2
  intro ih hih t h k r er
  obtain ⟨vs, e3, hvs⟩ := normsK_some (show normsK (ga t) _ = some r from er)
  obtain ⟨v, h', e4, e5⟩ := valK_some e3
  obtain ⟨g2, g3, g4⟩ := hpu.call _ _ _ _ e4
  cases hsc : scalR v with
  | false =>
    have : (scalR v).rec (motive := fun _ => R) none (k (s v t) h) = some r := e5
    rw [hsc] at this; cases this
  | true =>
    have e6 : k (s v t) h = some r := by
      have : (scalR v).rec (motive := fun _ => R) none (k (s v t) h) = some r := e5
      rw [hsc] at this; exact this
    refine ⟨v, h, e6, Nat.le_refl _, fun σ l a w st ht fr dst ty pos after gd K Q hk => ⟨fun _ _ => trivial, ?_⟩⟩
    have hargs : VRs (cutSg σ hp.nx) vs (args.map a.eval).toList := by rw [Array.toList_map]; exact hvs σ _ _ (hga σ t a st.ctx ht)
    have hc := g4 _ w _ (st.cut hpo) (cut_fr _ _ _) hargs
    rw [Oper.semAt_eq _ _ _ (fun c hc => by cases hc)]
    have hex : (execOp a.eval ⟨dst, .call ⟨.value (.func fn), args, tys⟩, ty, pos, after, gd⟩).run P w = .ok (.enter fn (args.map a.eval)) w := by
      have := g3.call (args.map a.eval) w
      simp [execOp, resolve, Act.eval, Deferred.ofValue, invoke, this]
    rw [hex]
    refine ⟨fun hh => (by cases hh), CallsIn.mono (show CallsIn (Fx l) 0 P fn _ w _ from hc) fun e w' hR => ?_⟩
    obtain ⟨v', σ', rfl, q1, q2, q3⟩ := hR
    obtain ⟨q4, q5⟩ := st.back hpo q1 q2
    exact hk v' w' _ q4 q5 (scalR_ok hsc q3)
end
end Go.Ev
namespace Go.Ev
section
variable {P : Program} {hp : H} {nt : Nat} {s : S} {f : F} {pu : PU}

theorem cBuiltin_pure {b : Builtin} {args : Array Operand} {tys : Array TypeId} (hc : cls (.call ⟨.builtin b, args, tys⟩) = 0) (e : cBuiltin b args.toList tys.toList P nt s = .mk f) : PureF P nt (.call ⟨.builtin b, args, tys⟩) s f := by
  obtain ⟨al⟩ := args
  obtain ⟨tl⟩ := tys
  cases b <;> try (cases hc; done)
  case len =>
    match al, e with
    | [], e => exact PureF.dead (dead_of e)
    | _ :: _ :: _, e => exact PureF.dead (dead_of e)
    | [x], e =>
      match tl, e with
      | [], e => exact PureF.dead (dead_of e)
      | ty :: r0, e =>
        rcases cO_inv e with h | ⟨g, hg, e1⟩
        · exact PureF.dead h
        cases e1
        exact lenK_ok hg
  case max =>
    match al, e with
    | [], e => exact PureF.dead (dead_of e)
    | [_], e => exact PureF.dead (dead_of e)
    | _ :: _ :: _ :: _, e => exact PureF.dead (dead_of e)
    | [x, y], e =>
      rcases cO_inv e with h | ⟨g, hg, e1⟩
      · exact PureF.dead h
      rcases cO_inv e1 with h | ⟨g', hg', e2⟩
      · exact PureF.dead h
      cases e2
      exact maxN_ok hg hg'
  case min =>
    match al, e with
    | [], e => exact PureF.dead (dead_of e)
    | [_], e => exact PureF.dead (dead_of e)
    | _ :: _ :: _ :: _, e => exact PureF.dead (dead_of e)
    | [x, y], e =>
      rcases cO_inv e with h | ⟨g, hg, e1⟩
      · exact PureF.dead h
      rcases cO_inv e1 with h | ⟨g', hg', e2⟩
      · exact PureF.dead h
      cases e2
      exact minN_ok hg hg'

theorem cOp_pure {op : Op} (hc : cls op = 0) (e : cOp pu op P nt s = .mk f) : PureF P nt op s f := by
  cases op
  case move => exact oMove_ok (.inl rfl) e
  case assign => exact oMove_ok (.inr rfl) e
  case pick => exact oPick_ok e
  case build => exact oBuild_ok e
  case nilCheck => exact oNil_ok e
  case binOp => exact oBin_ok e
  case unOp => exact oUn_ok e
  case convert => exact oConv_ok e
  case makeFunc => exact oFunc_ok e
  case slice => exact oSlice_ok e
  case fieldAddr => exact oFieldAddr_ok e
  case field => exact oField_ok e
  case indexAddr => exact oIndexAddr_ok e
  case index => exact oIndex_ok e
  case extract => exact oExtract_ok e
  case call c =>
    obtain ⟨callee, args, tys⟩ := c
    cases callee
    case value => cases hc
    case invoke => cases hc
    case builtin b => exact cBuiltin_pure hc e
  all_goals (cases hc)

theorem cOp_look {op : Op} (hc : cls op = 1) (e : cOp pu op P nt s = .mk f) : LookF P nt op s f := by
  cases op
  case load => exact oLoad_ok e
  case lookup => exact oLookup_ok e
  case call c =>
    obtain ⟨callee, args, tys⟩ := c
    cases callee
    case value => cases hc
    case invoke => cases hc
    case builtin b => cases b <;> cases hc
  all_goals (cases hc)

theorem cOp_new {op : Op} (hc : cls op = 2) (e : cOp pu op P nt s = .mk f) : NewF P nt op s f := by
  cases op
  case alloc => exact oAlloc_ok e
  case box => exact oBox_ok e
  case buildSlice => exact oBuildSlice_ok e
  case makeMap => exact oMakeMap_ok e
  case makeSlice => exact oMakeSlice_ok e
  case range => exact oRange_ok e
  case mapEntry => exact NewF.dead (dead_of e)
  case call c =>
    obtain ⟨callee, args, tys⟩ := c
    cases callee
    case value => cases hc
    case invoke => cases hc
    case builtin b => cases b <;> cases hc
  all_goals (cases hc)

theorem LookF.loud {op : Op} (hd : ∀ c, op ≠ .defer c) (h : LookF P nt op s f) : LoudF P hp nt op s f := HeapF.loud hd h.heap
theorem cBuiltin_loud {b : Builtin} {args : Array Operand} {tys : Array TypeId} (e : cBuiltin b args.toList tys.toList P nt s = .mk f) : LoudF P hp nt (.call ⟨.builtin b, args, tys⟩) s f := by
  have hd : ∀ c, (Op.call ⟨.builtin b, args, tys⟩) ≠ .defer c := fun c hc => by cases hc
  cases hc : cls (.call ⟨.builtin b, args, tys⟩) with
  | zero => exact HeapF.loud hd (PureF.look (cBuiltin_pure hc e)).heap
  | succ n =>
    cases b <;> try (cases hc; done)
    case append =>
      obtain ⟨al⟩ := args
      match al, e with
      | [], e => exact LoudF.dead (dead_of e)
      | [_], e => exact LoudF.dead (dead_of e)
      | _ :: _ :: _ :: _, e => exact LoudF.dead (dead_of e)
      | [x, y], e => exact HeapF.loud hd (oAppend_ok e)
    case cap =>
      obtain ⟨al⟩ := args
      obtain ⟨tl⟩ := tys
      match al, e with
      | [], e => exact LoudF.dead (dead_of e)
      | _ :: _ :: _, e => exact LoudF.dead (dead_of e)
      | [x], e =>
        match tl, e with
        | [], e => exact LoudF.dead (dead_of e)
        | ty :: r0, e =>
          rcases bcl_inv e with h | ⟨hst, e0⟩
          · exact LoudF.dead h
          rcases cO_inv e0 with h | ⟨g, hg, e1⟩
          · exact LoudF.dead h
          cases e1
          exact HeapF.loud hd (PureF.look (capK_ok hst hg)).heap
    all_goals (exact LoudF.dead (dead_of e))

theorem cOp_ok (hpo : HpOK P hp) (hpu : PUOK P hp pu) {op : Op} (e : cOp pu op P nt s = .mk f) : LoudF P hp nt op s f := by
  by_cases hdef : ∃ c, op = .defer c
  · obtain ⟨c, rfl⟩ := hdef
    exact LoudF.dead (dead_of e)
  have hd : ∀ c, op ≠ .defer c := fun c hc => hdef ⟨c, hc⟩
  by_cases h0 : cls op = 0
  · exact HeapF.loud hd (cOp_pure h0 e).look.heap
  by_cases h1 : cls op = 1
  · exact HeapF.loud hd (cOp_look h1 e).heap
  by_cases h2 : cls op = 2
  · exact HeapF.loud hd (cOp_new h2 e).heap
  cases op
  case store => exact HeapF.loud hd (oStore_ok e)
  case insert => exact HeapF.loud hd (oMapSet_ok (.inr rfl) e)
  case mapUpdate => exact HeapF.loud hd (oMapSet_ok (.inl rfl) e)
  case next => exact HeapF.loud hd (oNext_ok e)
  case call c =>
    obtain ⟨callee, args, tys⟩ := c
    cases callee
    case invoke => exact LoudF.dead (dead_of e)
    case builtin b => exact cBuiltin_loud e
    case value x =>
      cases x
      case tmp => exact cCallee0_ok e
      case const => exact cCallee0_ok e
      case global => exact cCallee0_ok e
      case func fn =>
        have e : (sigPure P fn).rec (motive := fun _ => Cl) (cCallee0 (.func fn) args.toList P nt s) (cPureTo pu fn args.toList P nt s) = .mk f := e
        cases hs : sigPure P fn <;> rw [hs] at e
        · exact cCallee0_ok e
        · exact cPureTo_ok hpo hpu e
  all_goals first
    | (exact absurd rfl h0)
    | (exact absurd rfl h1)
    | (exact absurd rfl h2)
    | (exact LoudF.dead (dead_of e))
end
end Go.Ev
namespace Go.Ev

/-- one operation of a region, taken -/
def Stp (P : Program) (l : Option Nat) (ops : Array Oper) (o : Oper) (a : Act) (w : World) (G : Act → World → Prop) : Prop :=
  ∀ (K : Act → World → Prop) (Q : Exit → Act → World → Prop), (∀ a' w', G a' w' → K a' w') →
    if Region.wanted o (yielded ops a.tmps) then o.wpIn (Fx l) 0 P a w K Q else (∀ f, o.about P w a.eval = some f → (Fx l).fn f) ∧ K (a.put o.dst undef) w

def OLoud (P : Program) (hp : H) (nt : Nat) (ops : Array Oper) (o : Oper) (f : F) : Prop := ∀ ih, IHOK P hp ih → ∀ t h k r, f ih t h k = some r → ∃ v h', k (putT t o.dst v) h' = some r ∧ h.nx ≤ h'.nx ∧
  ∀ σ l a w, St P hp σ h w → TR σ nt t a.tmps → Fr σ h.nx h'.nx → Stp P l ops o a w fun a' w' => ∃ v' σ', a' = a.put o.dst v' ∧ SExt σ h w σ' h' w' ∧ HeapOK σ' h'.cl w' ∧ VR σ' v v'

section
variable {P : Program} {hp : H} {nt : Nat} {s : S} {f : F} {pu : PU} {ops : Array Oper}

theorem wantV_some {w : Bool} {no yes : R} {v : V} {r : Res} (e : wantV w no yes v = some r) : (v = .b w ∧ yes = some r) ∨ ((∀ x, v = .b x → x ≠ w) ∧ v ≠ .un ∧ no = some r) := by
  cases v with
  | b x =>
    have e : x.rec (motive := fun _ => R) (w.rec yes no) (w.rec no yes) = some r := e
    cases x <;> cases w <;> first | (exact .inl ⟨rfl, e⟩) | (exact .inr ⟨fun x h => (by cases h; (intro h; cases h)), (fun h => by cases h), e⟩)
  | un => have e : (none : R) = some r := e; cases e
  | _ => exact .inr ⟨fun x h => (by cases h), (fun h => by cases h), e⟩

theorem wanted_of {o : Oper} {j d : Nat} {w : Bool} {tm : Array Value} (hg : o.guard = some (j, w)) (hd : (ops[j]?).bind (·.dst) = some d) (hlt : d < tm.size) :
    Region.wanted o (yielded ops tm) = true ↔ tm.getD d undef = .bool w := by
  unfold Region.wanted
  rw [hg]
  simp only [yielded, hd, Option.bind_some]
  have : tm[d]? = some (tm.getD d undef) := by simp [Array.getD, hlt]
  rw [this]
  generalize tm.getD d undef = y
  cases y <;> simp

theorem cOper_cases {o : Oper} (e : cOper pu P nt ops o = .mk f) : Dead f ∨ ∃ s f0, SOK nt o.dst s ∧ cOp pu o.op P nt s = .mk f0 ∧
    ((o.guard = none ∧ f = f0) ∨ ∃ j w d, o.guard = some (j, w) ∧ (ops[j]?).bind (·.dst) = some d ∧ d < nt ∧ f = fun ih t h k => wantV w (k (s undefV t) h) (f0 ih t h k) (getT t d)) := by
  obtain ⟨dst, op, ty, pos, after, gd⟩ := o
  rcases cD_inv (show cD nt dst (fun s => cWant nt ops gd s (cOp pu op P nt s)) = .mk f from e) with h | ⟨s, hs, e1⟩
  · exact .inl h
  cases hop : cOp pu op P nt s with | mk f0 =>
  cases gd with
  | none =>
    have e1 : cOp pu op P nt s = .mk f := e1
    rw [hop] at e1
    cases e1
    exact .inr ⟨s, f, hs, hop, .inl ⟨rfl, rfl⟩⟩
  | some g =>
    obtain ⟨j, w⟩ := g
    rw [hop] at e1
    rcases ocl_inv (show ocl ((ops[j]?).bind (·.dst)) _ = .mk f from e1) with h | ⟨d, hd, e2⟩
    · exact .inl h
    rcases cG_inv e2 with h | ⟨hlt, e3⟩
    · exact .inl h
    cases e3
    exact .inr ⟨s, f0, hs, hop, .inr ⟨j, w, d, rfl, hd, hlt, rfl⟩⟩

theorem cOper_ok (hpo : HpOK P hp) (hpu : PUOK P hp pu) {o : Oper} (e : cOper pu P nt ops o = .mk f) : OLoud P hp nt ops o f := by
  rcases cOper_cases e with h | ⟨s, f0, hs, hop, hg⟩
  · exact fun ih _ t hh k r e => by rw [h] at e; cases e
  have hl := cOp_ok (hp := hp) hpo hpu hop
  rcases hg with ⟨hg, rfl⟩ | ⟨j, w0, d, hg, hd, hlt, rfl⟩
  · intro ih hih t h k r er
    obtain ⟨v, h', e1, e2, e3⟩ := hl ih hih t h k r er
    rw [hs.eq] at e1
    refine ⟨v, h', e1, e2, fun σ l a w st ht fr K Q hk => ?_⟩
    have : Region.wanted o (yielded ops a.tmps) = true := by unfold Region.wanted; rw [hg]
    rw [if_pos this]
    exact e3 σ l a w st ht fr o.dst o.type o.pos o.after o.guard K Q fun v' w' σ' h1 h2 h3 => hk _ _ ⟨v', σ', rfl, h1, h2, h3⟩
  · intro ih hih t h k r er
    rcases wantV_some er with ⟨hv, er⟩ | ⟨hv, hun, er⟩
    · obtain ⟨v, h', e1, e2, e3⟩ := hl ih hih t h k r er
      rw [hs.eq] at e1
      refine ⟨v, h', e1, e2, fun σ l a w st ht fr K Q hk => ?_⟩
      have hat := ht.at_ d hlt
      rw [hv] at hat
      have hval : a.tmps.getD d undef = .bool w0 := by
        generalize a.tmps.getD d undef = y at hat
        cases hat; rfl
      rw [if_pos ((wanted_of hg hd (by rw [ht.size]; exact hlt)).2 hval)]
      exact e3 σ l a w st ht fr o.dst o.type o.pos o.after o.guard K Q fun v' w' σ' h1 h2 h3 => hk _ _ ⟨v', σ', rfl, h1, h2, h3⟩
    · have er : k (s undefV t) h = some r := er
      rw [hs.eq] at er
      refine ⟨undefV, h, er, Nat.le_refl _, fun σ l a w st ht fr K Q hk => ?_⟩
      have hat := ht.at_ d hlt
      have hval : ¬ a.tmps.getD d undef = .bool w0 := fun hx => by
        rw [hx] at hat
        generalize hgv : getT t d = y at hat
        cases hat
        · exact hv _ hgv rfl
        · exact hun hgv
      rw [if_neg (fun hx => hval ((wanted_of hg hd (by rw [ht.size]; exact hlt)).1 hx))]
      exact ⟨fun _ _ => trivial, hk _ _ ⟨undef, σ, rfl, SExt.refl _ _ _, st.ok, VR.undef σ⟩⟩

/-- a call put off -/
theorem putOff_some {o : Oper} {n : Nat} (h : putOff o = some n) : ∃ args tys ty pos after, o = ⟨none, .defer ⟨.value (.tmp n), args, tys⟩, ty, pos, after, none⟩ ∧ args = #[] := by
  unfold putOff at h
  split at h
  · rename_i n' args tys ty pos after
    split at h
    · rename_i hl
      cases h
      exact ⟨args, tys, ty, pos, after, rfl, Array.toList_eq_nil_iff.1 hl⟩
    · cases h
  · cases h
theorem benK_some {k : R} {v : V} {r : Res} (e : benK pu k v = some r) : ∃ g first cap i t h, v = .f g first cap ∧ pu g (appV cap first) = some (.exit i t h) ∧ k = some r := by
  cases v <;> try (exact absurd e (by intro e; cases e))
  case f g first cap =>
    have e' : exitK (pu g (appV cap first)) k = some r := e
    cases hq : pu g (appV cap first) with
    | none => rw [hq] at e'; cases e'
    | some y =>
      rw [hq] at e'
      cases y with
      | exit i t h => exact ⟨g, first, cap, i, t, h, rfl, hq, e'⟩
      | _ => cases e'
theorem cOper1_cases {rnd : Bool} {o : Oper} {f : F} (e : cOper1 rnd pu P nt ops o = .mk f) : cOper pu P nt ops o = .mk f ∨ (rnd = false ∧ ∃ n, putOff o = some n ∧ cPutOff pu nt n = .mk f) := by
  unfold cOper1 at e
  cases rnd with
  | true => exact .inl e
  | false =>
    cases hp : putOff o with
    | none => rw [hp] at e; exact .inl e
    | some n => rw [hp] at e; exact .inr ⟨rfl, n, rfl, e⟩

/-- a row of operations, in order -/
theorem cOps_ok (hpo : HpOK P hp) (hpu : PUOK P hp pu) {rnd : Bool} : ∀ {l : List Oper} {i : Nat} {f : F}, cOps rnd pu P nt ops l = .mk f → (∀ q, l[q]? = ops[i + q]?) → ∀ ih, IHOK P hp ih → ∀ t h k r, f ih t h k = some r →
    ∃ t' h', k t' h' = some r ∧ h.nx ≤ h'.nx ∧ ∀ σ ro a w n0 (Q : Exit → Act → World → Prop), rnd = ro.isSome → St P hp σ h w → TR σ nt t a.tmps → Fr σ h.nx h'.nx → MK P n0 σ h.cl w a.defers →
      (∀ a' w' σ', SExt σ h w σ' h' w' → HeapOK σ' h'.cl w' → TR σ' nt t' a'.tmps → MK P n0 σ' h'.cl w' a'.defers → Q .normal a' w') → wpOpsIn (Fx ro) 0 P ops Q (List.range' i l.length) a w
  | [], i, f, e, hl, ih, hih, t, h, k, r, er => by
    cases e
    exact ⟨t, h, er, Nat.le_refl _, fun σ ro a w n0 Q _ st ht fr mk hk => hk a w σ (SExt.refl _ _ _) st.ok ht mk⟩
  | o :: l, i, f, e, hl, ih, hih, t, h, k, r, er => by
    cases ho : cOper1 rnd pu P nt ops o with | mk f0 =>
    cases hr : cOps rnd pu P nt ops l with | mk g0 =>
    have e' : (cOper1 rnd pu P nt ops o).rec (motive := fun _ => Cl) (fun f => (cOps rnd pu P nt ops l).rec (motive := fun _ => Cl) fun g => .mk fun ih t h k => f ih t h fun t h => g ih t h k) = .mk f := e
    rw [ho, hr] at e'
    cases e'
    have hi : ops[i]? = some o := by have := hl 0; simpa using this.symm
    have hrest : ∀ q, l[q]? = ops[(i + 1) + q]? := fun q => by have := hl (q + 1); rw [List.getElem?_cons_succ] at this; rw [this]; congr 1; omega
    rcases cOper1_cases ho with ho | ⟨rfl, n, hpn, ho⟩
    · obtain ⟨v, h1, e1, e2, e3⟩ := cOper_ok (hp := hp) hpo hpu ho ih hih t h _ r er
      obtain ⟨t', h', e4, e5, e6⟩ := cOps_ok hpo hpu (i := i + 1) hr hrest ih hih _ h1 k r e1
      refine ⟨t', h', e4, Nat.le_trans e2 e5, fun σ ro a w n0 Q hro st ht fr mk hk => ?_⟩
      rw [List.length_cons, List.range'_succ]
      simp only [wpOpsIn, hi]
      have hdst : ∀ n, o.dst = some n → n < nt := by
        rcases cOper_cases ho with hdead | ⟨s, f1, hs, _⟩
        · have er' : f0 ih t h _ = some r := er
          rw [hdead] at er'; cases er'
        · exact hs.lt
      exact e3 σ ro a w st ht (fr.head e5) (wpOpsIn (Fx ro) 0 P ops Q (List.range' (i + 1) l.length)) Q fun a' w' ⟨v', σ', ha, x1, x2, x3⟩ => by
        subst ha
        refine e6 σ' ro _ w' n0 Q hro (st.next x1 x2) ((ht.mono x1.up).put hdst x3) (fr.tail x1) ?_ fun a2 w2 σ2 y1 y2 y3 y4 => hk a2 w2 σ2 (x1.trans y1) y2 y3 y4
        have : (a.put o.dst v').defers = a.defers := by cases o.dst <;> rfl
        rw [this]
        exact mk.next x1
    · obtain ⟨args, tys, ty, pos, after, rfl, rfl⟩ := putOff_some hpn
      rcases cG_inv (show cG nt n (fun g => .mk fun _ t h k => benK pu (k t h) (g t)) = .mk f0 from ho) with hd | ⟨hlt, e1⟩
      · have er' : f0 ih t h _ = some r := er
        rw [hd] at er'; cases er'
      cases e1
      obtain ⟨g, first, cap, ix, tx, hx, b1, b2, b3⟩ := benK_some (show benK pu (g0 ih t h k) (getT t n) = some r from er)
      obtain ⟨q1, q2⟩ := hpu.ben _ _ _ _ _ b2
      obtain ⟨t', h', e4, e5, e6⟩ := cOps_ok hpo hpu (i := i + 1) hr hrest ih hih t h k r b3
      refine ⟨t', h', e4, e5, fun σ ro a w n0 Q hro st ht fr mk hk => ?_⟩
      obtain rfl : ro = none := by cases ro with | none => rfl | some x => cases hro
      rw [List.length_cons, List.range'_succ]
      simp only [wpOpsIn, hi]
      have hw : Region.wanted (⟨none, .defer ⟨.value (.tmp n), #[], tys⟩, ty, pos, after, none⟩ : Oper) (yielded ops a.tmps) = true := by unfold Region.wanted; rfl
      rw [if_pos hw]
      have hat := ht.at_ n hlt
      rw [b1] at hat
      generalize hv : a.tmps.getD n undef = y at hat
      cases hat with | @f _ _ _ c d hc hd =>
      have hex : (execOp a.eval ⟨none, .defer ⟨.value (.tmp n), #[], tys⟩, ty, pos, after, none⟩).run P w = .ok (.defer ⟨.fn (.func g) d, c⟩) w := by
        simp [execOp, resolve, Act.eval, hv, Deferred.ofValue]
      refine ⟨fun _ _ => trivial, ?_⟩
      rw [show (Fx none).round = none from rfl, Oper.semAt_none, hex]
      refine e6 σ none _ w n0 Q rfl st ?_ fr ?_ hk
      · exact ht
      · refine ⟨fun d' hd' => ?_, List.pairwise_cons.2 ⟨fun d' _ r r' hr => (by cases hr), mk.apart⟩⟩
        rcases List.mem_cons.1 hd' with rfl | hd'
        · refine .inr ⟨_, _, g, c ++ d, rfl, fun w' => q1.call _ _, q2 σ _ ?_⟩
          rw [Array.toList_append]
          exact VRs.app hc hd
        · exact mk.each d' hd'
end
end Go.Ev
namespace Go.Ev
section
variable {P : Program} {hp : H} {nt : Nat} {pu : PU} {rnd : Bool} {c x y : Code} {t : T} {h : H} {r : Res}

theorem CodeG.of (hc : ∀ c0, c ≠ .loop c0) {t' : T} {h' : H} (h1 : resOK r t' h') (h2 : h.nx ≤ h'.nx)
    (h3 : ∀ σ l a w n0, rnd = l.isSome → St P hp σ h w → Fr σ h.nx h'.nx → TR σ nt t a.tmps → MK P n0 σ h.cl w a.defers → n0 ≤ w.heap.size → c.wpIn (Fx l) 0 P (PostOK P σ h w nt n0 r) a w) : CodeG P hp rnd nt c t h r :=
  ⟨t', h', h1, h2, fun σ l a w n0 g1 g2 g3 g4 g5 g6 => ⟨h3 σ l a w n0 g1 g2 g3 g4 g5 g6, fun c0 e => absurd e (hc c0)⟩⟩

/-- compiled code: how it ends is known, and what goes on -/
def CodeF (P : Program) (hp : H) (rnd : Bool) (nt : Nat) (c : Code) (f : F) : Prop := ∀ ih, IHOK P hp ih → ∀ t h k r, f ih t h k = some r → ∃ r0, CodeG P hp rnd nt c t h r0 ∧ (∀ t' h', r0 = .nor t' h' → k t' h' = some r) ∧ ((∀ t' h', r0 ≠ .nor t' h') → r = r0)
theorem CodeF.dead {f : F} (h : Dead f) : CodeF P hp rnd nt c f := fun ih _ t hh k r e => by rw [h] at e; cases e

theorem PostOK.then_ {σ τ : Sg} {h1 h2 : H} {w1 w2 : World} {n0 : Nat} {r : Res} (e : SExt σ h1 w1 τ h2 w2) {ex : Exit} {a' : Act} {w' : World} (p : PostOK P τ h2 w2 nt n0 r ex a' w') : PostOK P σ h1 w1 nt n0 r ex a' w' := by
  obtain ⟨t', h', σ', a, b, c⟩ := p
  exact ⟨t', h', σ', a, e.trans b, c⟩

theorem resOK.inj {t1 t2 : T} {h1 h2 : H} (a : resOK r t1 h1) (b : resOK r t2 h2) : t1 = t2 ∧ h1 = h2 := by
  rcases a with e | e | ⟨_, e⟩ <;> subst e <;> rcases b with e | e | ⟨_, e⟩ <;> cases e <;> exact ⟨rfl, rfl⟩

/-- of code that ends so, what else comes -/
theorem CodeG.bind {d : Code} {t1 : T} {h1 : H} (g : CodeG P hp rnd nt c t h (.nor t1 h1)) {r : Res} (hc : ∀ c0, d ≠ .loop c0) {t2 : T} {h2 : H} (hr : resOK r t2 h2) (hn : h1.nx ≤ h2.nx)
    (hd : ∀ σ l a w n0, rnd = l.isSome → (∀ n, n ≤ h2.nx → Fr σ h.nx h2.nx) → c.wpIn (Fx l) 0 P (fun e a' w' => e = .normal ∧ ∃ τ, St P hp τ h1 w' ∧ SExt σ h w τ h1 w' ∧ Fr τ h1.nx h2.nx ∧ TR τ nt t1 a'.tmps ∧ MK P n0 τ h1.cl w' a'.defers ∧ n0 ≤ w'.heap.size) a w → d.wpIn (Fx l) 0 P (PostOK P σ h w nt n0 r) a w) :
    CodeG P hp rnd nt d t h r := by
  obtain ⟨t', h', a1, a2, a3⟩ := g
  obtain ⟨rfl, rfl⟩ : t1 = t' ∧ h1 = h' := resOK.inj (.inl rfl) a1
  refine CodeG.of hc hr (Nat.le_trans a2 hn) fun σ l a w n0 g1 g2 g3 g4 g5 g6 => hd σ l a w n0 g1 (fun _ _ => g3) ?_
  refine wpIn_mono (a3 σ l a w n0 g1 g2 (g3.head hn) g4 g5 g6).1 fun e a' w' hp' => ?_
  obtain ⟨t', h', σ', b1, b2, b3, b4, b5⟩ := hp'
  rcases b1 with ⟨q, rfl⟩ | ⟨q, rfl⟩ | ⟨_, q, rfl⟩ <;> cases q
  exact ⟨rfl, σ', g2.next b2 b3, b2, g3.tail b2, b4, b5, Nat.le_trans g6 b2.size⟩

theorem CodeG.seq {t1 : T} {h1 : H} (g : CodeG P hp rnd nt x t h (.nor t1 h1)) (g' : CodeG P hp rnd nt y t1 h1 r) : CodeG P hp rnd nt (.seq x y) t h r := by
  obtain ⟨t2, h2, b1, b2, b3⟩ := g'
  refine g.bind (fun _ e => (by cases e)) b1 b2 fun σ l a w n0 hl hf hx => wpIn_seq ?_
  refine wpIn_mono hx fun e a' w' hq => ?_
  obtain ⟨rfl, τ, s1, s2, s3, s4, s5, s6⟩ := hq
  exact wpIn_mono (b3 τ l a' w' n0 hl s1 s3 s4 s5 s6).1 fun _ _ _ p => p.then_ s2
theorem CodeG.seq_out (g : CodeG P hp rnd nt x t h r) (hn : ∀ t' h', r ≠ .nor t' h') : CodeG P hp rnd nt (.seq x y) t h r := by
  obtain ⟨t1, h1, a1, a2, a3⟩ := g
  refine CodeG.of (fun _ e => (by cases e)) a1 a2 fun σ l a w n0 g1 g2 g3 g4 g5 g6 => wpIn_seq ?_
  refine wpIn_mono (a3 σ l a w n0 g1 g2 g3 g4 g5 g6).1 fun e a' w' hp' => ?_
  have hq := hp'
  obtain ⟨t', h', σ', b1, b2⟩ := hp'
  rcases b1 with ⟨q, rfl⟩ | ⟨q, rfl⟩ | ⟨_, q, rfl⟩
  · exact absurd q (hn _ _)
  · exact hq
  · exact hq

theorem CodeG.cond {o : Operand} {b : Bool} {g : G} (hg : GOK P nt o g) (hb : g t = .b b) (g' : CodeG P hp rnd nt (if b then x else y) t h r) : CodeG P hp rnd nt (.cond o x y) t h r := by
  obtain ⟨t1, h1, a1, a2, a3⟩ := g'
  refine CodeG.of (fun _ e => (by cases e)) a1 a2 fun σ l a w n0 g1 g2 g3 g4 g5 g6 => ?_
  have hv := hg σ t a g2.ctx g4
  rw [hb] at hv
  have : a.eval o = .bool b := by generalize a.eval o = q at hv; cases hv; rfl
  exact wpIn_cond this (a3 σ l a w n0 g1 g2 g3 g4 g5 g6).1

theorem boolK_some' {v : V} {k : Bool → R} (e : boolK v k = some r) : ∃ b, v = .b b ∧ k b = some r := by
  cases v <;> first | (exact ⟨_, rfl, e⟩) | (cases e)

theorem blkK_some {id : Nat} {q : R} {k : KT} (e : blkK id q k = some r) : ∃ r0, q = some r0 ∧ ((∃ t' h', r0 = .nor t' h' ∧ k t' h' = some r) ∨ (∃ t' h', r0 = .ret t' h' ∧ r = .ret t' h') ∨
    (∃ j t' h', r0 = .exit j t' h' ∧ ((j = id ∧ k t' h' = some r) ∨ (j ≠ id ∧ r = .exit j t' h')))) := by
  cases q with
  | none => cases e
  | some y =>
    cases y with
    | val => cases e
    | nor t' h' => exact ⟨_, rfl, .inl ⟨_, _, rfl, e⟩⟩
    | ret t' h' => exact ⟨_, rfl, .inr (.inl ⟨_, _, rfl, by cases e; rfl⟩)⟩
    | exit j t' h' =>
      have e : (Nat.beq j id).rec (motive := fun _ => R) (some (.exit j t' h')) (k t' h') = some r := e
      refine ⟨_, rfl, .inr (.inr ⟨j, t', h', rfl, ?_⟩)⟩
      cases hb : Nat.beq j id <;> rw [hb] at e
      · exact .inr ⟨Nat.ne_of_beq_eq_false hb, by cases e; rfl⟩
      · exact .inl ⟨Nat.eq_of_beq_eq_true hb, e⟩

theorem CodeG.block {id : Nat} {r0 : Res} (g : CodeG P hp rnd nt x t h r0) {t' : T} {h' : H} (hr0 : resOK r0 t' h') (hr : r = (match r0 with | .exit j t h => if j = id then .nor t h else .exit j t h | r => r)) : CodeG P hp rnd nt (.block id x) t h r := by
  obtain ⟨t1, h1, a1, a2, a3⟩ := g
  obtain ⟨rfl, rfl⟩ := hr0.inj a1
  have hr1 : resOK r t' h' := by
    rcases a1 with e | e | ⟨j, e⟩ <;> subst e <;> subst hr
    · exact .inl rfl
    · exact .inr (.inl rfl)
    · by_cases hj : j = id
      · exact .inl (by simp [hj])
      · exact .inr (.inr ⟨j, by simp [hj]⟩)
  refine CodeG.of (fun _ e => (by cases e)) hr1 a2 fun σ l a w n0 g1 g2 g3 g4 g5 g6 => wpIn_block ?_
  refine wpIn_mono (a3 σ l a w n0 g1 g2 g3 g4 g5 g6).1 fun e a' w' hp' => ?_
  obtain ⟨t', h', σ', b1, b2⟩ := hp'
  rcases b1 with ⟨q, rfl⟩ | ⟨q, rfl⟩ | ⟨j, q, rfl⟩ <;> subst q <;> subst hr
  · exact ⟨t', h', σ', .inl ⟨rfl, rfl⟩, b2⟩
  · exact ⟨t', h', σ', .inr (.inl ⟨rfl, rfl⟩), b2⟩
  · by_cases hj : j = id
    · have : Exit.inBlock id (PostOK P σ h w nt n0 (if j = id then .nor t' h' else .exit j t' h')) (.exit j) a' w' := by
        simp only [Exit.inBlock, hj, if_true]
        exact ⟨t', h', σ', .inl ⟨rfl, rfl⟩, b2⟩
      exact this
    · have : Exit.inBlock id (PostOK P σ h w nt n0 (if j = id then .nor t' h' else .exit j t' h')) (.exit j) a' w' := by
        simp only [Exit.inBlock, hj, if_false]
        exact ⟨t', h', σ', .inr (.inr ⟨j, rfl, rfl⟩), b2⟩
      exact this

/-! ### loops -/
theorem LoopW.wp {l : Option Nat} {Q : Exit → Act → World → Prop} {a : Act} {w : World} (g : LoopW (Fx l) 0 P c Q a w) : (Code.loop c).wpIn (Fx l) 0 P Q a w := fun b k cs hro hb hr =>
  let ⟨e, a', w', hq, harr⟩ := g b k cs hro hb hr
  ⟨e, a', w', hq, .of_steps (.one (fenced_calm hb hr rfl) stepR_loop) harr⟩
theorem LoopW.round {l : Option Nat} {Q : Exit → Act → World → Prop} {a : Act} {w : World} (g : c.wpIn (Fx l) 0 P (Exit.then (LoopW (Fx l) 0 P c Q) Q) a w) : LoopW (Fx l) 0 P c Q a w := fun b k cs hro hb hr => by
  obtain ⟨e, a₁, w₁, hq, harr⟩ := g b (.inLoop c :: k) cs hro hb hr
  cases e with
  | normal =>
    obtain ⟨e₂, a₂, w₂, hq₂, harr₂⟩ := hq b k cs hro hb hr
    exact ⟨e₂, a₂, w₂, hq₂, .of_steps (StepsIn.trans harr (.one (fenced_calm hb hr rfl) stepR_inLoop)) harr₂⟩
  | exit id => exact ⟨_, a₁, w₁, hq, .pass (x := .inLoop c) rfl (fun _ _ => .inl (by simp)) harr⟩
  | goto l => exact ⟨_, a₁, w₁, hq, .pass (x := .inLoop c) rfl (fun _ _ => .inl (by simp)) harr⟩
  | ret => exact ⟨_, a₁, w₁, hq, .pass (x := .inLoop c) rfl (fun _ _ => .inl (by simp)) harr⟩
  | panic ch => exact ⟨_, a₁, w₁, hq, .pass (x := .inLoop c) rfl (fun _ _ => .inl (by simp)) harr⟩
  | outgrown => exact ⟨_, a₁, w₁, hq, .pass (x := .inLoop c) rfl (fun _ _ => .inl (by simp)) harr⟩

theorem CodeG.of_loop {t' : T} {h' : H} (h1 : resOK r t' h') (h2 : h.nx ≤ h'.nx)
    (h3 : ∀ σ l a w n0, rnd = l.isSome → St P hp σ h w → Fr σ h.nx h'.nx → TR σ nt t a.tmps → MK P n0 σ h.cl w a.defers → n0 ≤ w.heap.size → LoopW (Fx l) 0 P c (PostOK P σ h w nt n0 r) a w) : CodeG P hp rnd nt (.loop c) t h r :=
  ⟨t', h', h1, h2, fun σ l a w n0 g1 g2 g3 g4 g5 g6 => ⟨(h3 σ l a w n0 g1 g2 g3 g4 g5 g6).wp, fun c0 e => by cases e; exact h3 σ l a w n0 g1 g2 g3 g4 g5 g6⟩⟩
theorem LoopW.mono {l : Option Nat} {Q Q' : Exit → Act → World → Prop} {a : Act} {w : World} (g : LoopW (Fx l) 0 P c Q a w) (hq : ∀ e a w, Q e a w → Q' e a w) : LoopW (Fx l) 0 P c Q' a w := fun b k cs hro hb hr =>
  let ⟨e, a', w', q, harr⟩ := g b k cs hro hb hr
  ⟨e, a', w', hq _ _ _ q, harr⟩

theorem CodeG.loop {t1 : T} {h1 : H} (g : CodeG P hp rnd nt c t h (.nor t1 h1)) (g' : CodeG P hp rnd nt (.loop c) t1 h1 r) : CodeG P hp rnd nt (.loop c) t h r := by
  obtain ⟨t', h', a1, a2, a3⟩ := g
  obtain ⟨rfl, rfl⟩ : t1 = t' ∧ h1 = h' := resOK.inj (.inl rfl) a1
  obtain ⟨t2, h2, b1, b2, b3⟩ := g'
  refine CodeG.of_loop b1 (Nat.le_trans a2 b2) fun σ l a w n0 g1 g2 g3 g4 g5 g6 => LoopW.round ?_
  refine wpIn_mono (a3 σ l a w n0 g1 g2 (g3.head b2) g4 g5 g6).1 fun e a' w' hp' => ?_
  obtain ⟨t', h', σ', c1, c2, c3, c4, c5⟩ := hp'
  rcases c1 with ⟨q, rfl⟩ | ⟨q, rfl⟩ | ⟨_, q, rfl⟩ <;> cases q
  exact ((b3 σ' l a' w' n0 g1 (g2.next c2 c3) (g3.tail c2) c4 c5 (Nat.le_trans g6 c2.size)).2 c rfl).mono fun _ _ _ p => p.then_ c2
theorem CodeG.loop_out (g : CodeG P hp rnd nt c t h r) (hn : ∀ t' h', r ≠ .nor t' h') : CodeG P hp rnd nt (.loop c) t h r := by
  obtain ⟨t1, h1, a1, a2, a3⟩ := g
  refine CodeG.of_loop a1 a2 fun σ l a w n0 g1 g2 g3 g4 g5 g6 => LoopW.round ?_
  refine wpIn_mono (a3 σ l a w n0 g1 g2 g3 g4 g5 g6).1 fun e a' w' hp' => ?_
  have hq := hp'
  obtain ⟨t', h', σ', b1, b2⟩ := hp'
  rcases b1 with ⟨q, rfl⟩ | ⟨q, rfl⟩ | ⟨_, q, rfl⟩
  · exact absurd q (hn _ _)
  · exact hq
  · exact hq
theorem resK_some {q : R} {k : KT} (e : resK q k = some r) : ∃ r0, q = some r0 ∧ ((∃ t' h', r0 = .nor t' h' ∧ k t' h' = some r) ∨ ((∀ t' h', r0 ≠ .nor t' h') ∧ r = r0)) := by
  cases q with
  | none => cases e
  | some y =>
    cases y with
    | val => cases e
    | nor t' h' => exact ⟨_, rfl, .inl ⟨_, _, rfl, e⟩⟩
    | ret t' h' => exact ⟨_, rfl, .inr ⟨fun _ _ h => (by cases h), (by cases e; rfl)⟩⟩
    | exit j t' h' => exact ⟨_, rfl, .inr ⟨fun _ _ h => (by cases h), (by cases e; rfl)⟩⟩
end
end Go.Ev
end
