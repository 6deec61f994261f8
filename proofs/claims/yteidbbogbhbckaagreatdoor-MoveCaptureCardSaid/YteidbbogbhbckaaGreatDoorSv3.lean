/- The evaluator of translated Go, part 3: The evaluator: a range over a function; all code; functions. · The evaluator: functions; the whole. · The evaluator: one operation of a drawn region, by its kind. · The evaluator: a drawn region's plan, gone through. · The evaluator: a drawn region: what the plan's check says. · The evaluator: a drawn region: the chain of heaps, what is claimed, the virtual temporaries. · The evaluator: a drawn region, in whatever order. · The evaluator: a drawn region: each step. · The evaluator: a drawn region: quiet steps and loud ones. · The evaluator: a drawn region: loud steps; all orders. · The evaluator: THE WHOLE. · The evaluator: a drawn region whose last stores stand in no order; THE WHOLE. · The evaluator: the last stores of a drawn region in every order; THE WHOLE. · The evaluator: a call from a heap of tables alone. · The evaluator: a start heap with one table, at number g. · The evaluator: a pure call without arguments that is known to be true is not reckoned again. · The evaluator, each level's calls looked at by a table first. · what a pure function has made, frozen: its blocks are nobody's any more, its values hold what they hold · calls whose arguments are frozen: what they give is frozen too, and the heap is as it was · The range over a map, operation by operation, by what lies in the heap (no program in sight). -/
import Derived.Test.YteidbbogbhbckaaGreatDoorSv2
import Derived.Below
import Derived.Sort.MapsRangeIn
import Derived.Maps.RangeRun
set_option linter.unusedVariables false
set_option linter.unusedSimpArgs false
noncomputable section
namespace Go.Ev
section
variable {P : Program} {hp : H} {nt : Nat} {pu : PU} {rnd : Bool} {t : T} {h : H} {r : Res}

theorem pendR_some {t : T} {h : H} {k : KT} {p : Option Code} (e : pendR t h k p = some r) : (p = none ∧ k t h = some r) ∨ (p = some .ret ∧ r = .ret t h) ∨ ∃ id, p = some (.exit id) ∧ r = .exit id t h := by
  unfold pendR at e
  split at e
  · exact .inl ⟨rfl, e⟩
  · cases e; exact .inr (.inl ⟨rfl, rfl⟩)
  · cases e; exact .inr (.inr ⟨_, rfl, rfl⟩)
  · cases e
theorem overK2_some {t : T} {k : KT} {h : H} {id : Nat} (e : overK2 t k h id = some r) : ∃ st p nt t2 ps as bd, h.gt id = .loop st p nt t2 ps as bd ∧ st ≠ 1 ∧ pendR t (h.set id .dead) k p = some r := by
  unfold overK2 at e
  rw [H.getK_gt] at e
  cases hb : h.gt id <;> rw [hb] at e <;> try (exact absurd e (by intro e; cases e))
  rename_i st p nt t2 ps as bd
  obtain ⟨h1, h2⟩ := bi_some.1 e
  refine ⟨st, p, nt, t2, ps, as, bd, rfl, fun hst => ?_, h2⟩
  subst hst
  cases h1

theorem MK.cons {n0 : Nat} {σ : Sg} {c : Cm} {w : World} {ms : List Deferred} (m : MK P n0 σ c w ms) {b : Nat} (hb : w.heap[b]? = some (.deferred (some []))) (h0 : n0 ≤ b) (hc : ∀ id sz, c id ≠ .dead → σ id ≠ some (b, sz))
    (hnew : ∀ d, d ∈ ms → ∀ r, d.target = .collected r → r ≠ b) : MK P n0 σ c w ({ target := .collected b, args := #[] } :: ms) := by
  refine ⟨fun d hd => ?_, List.pairwise_cons.2 ⟨fun d hd r r' h1 h2 => ?_, m.apart⟩⟩
  · rcases List.mem_cons.1 hd with rfl | hd
    · exact .inl ⟨b, rfl, h0, hb, hc⟩
    · exact m.each d hd
  · cases h1
    exact fun e => hnew d hd r' h2 e.symm

/-- the statement 'for .. range g' over a function, in no round -/
theorem cRange_ok {g : Operand} {ps : Array Tmp} {assign body : Code} {f : F} (e : cRange P nt g ps.toList assign body = .mk f) : CodeF P hp false nt (.rangeFunc g ps assign body) f := by
  rcases cO_inv e with h | ⟨gg, hgg, e1⟩
  · exact CodeF.dead h
  cases e1
  intro ih hih t h k r er
  obtain ⟨h0, h1, e2, hn, hcl⟩ := H.new_some er
  obtain ⟨x, h2, e3, e4, e5⟩ := doIter_ok hih e2
  obtain ⟨st, p, nt2, t2, ps2, as2, bd2, hg2, hst, e6⟩ := overK2_some e3
  obtain ⟨r0, hr0, hk⟩ : ∃ r0, ((p = none ∧ r0 = .nor t (h2.set h.nx .dead)) ∨ (p = some .ret ∧ r0 = .ret t (h2.set h.nx .dead)) ∨ ∃ id, p = some (.exit id) ∧ r0 = .exit id t (h2.set h.nx .dead)) ∧
      ((∀ t' h', r0 = .nor t' h' → k t' h' = some r) ∧ ((∀ t' h', r0 ≠ .nor t' h') → r = r0)) := by
    rcases pendR_some e6 with ⟨hp, hk⟩ | ⟨hp, hr⟩ | ⟨id, hp, hr⟩
    · exact ⟨_, .inl ⟨hp, rfl⟩, fun t' h' e => by cases e; exact hk, fun hh => absurd rfl (hh _ _)⟩
    · exact ⟨_, .inr (.inl ⟨hp, rfl⟩), fun t' h' e => (by cases e), fun _ => hr⟩
    · exact ⟨_, .inr (.inr ⟨id, hp, rfl⟩), fun t' h' e => (by cases e), fun _ => hr⟩
  have hres : resOK r0 t (h2.set h.nx .dead) := by
    rcases hr0 with ⟨_, h⟩ | ⟨_, h⟩ | ⟨id, _, h⟩
    · exact .inl h
    · exact .inr (.inl h)
    · exact .inr (.inr ⟨id, h⟩)
  refine ⟨r0, CodeG.of (fun _ e => (by cases e)) hres (by rw [H.nx_set]; omega) fun σ l a w n0 g1 g2 g3 g4 g5 g6 => ?_, hk.1, hk.2⟩
  have hl : l = none := by cases l <;> first | rfl | (cases g1)
  subst hl
  rw [H.nx_set] at g3
  have hfree : σ h.nx = none := g3 _ (Nat.le_refl _) (by omega)
  refine wpIn_rangeFunc (F := Fx none) fun fn _ => ?_
  have hent := run_enterLoop_outer (P := P) (w := w) fn a.tmps ps assign body
  obtain ⟨rec, hrec⟩ : ∃ rec : Loop, rec = { state := .ready, pending := none, fn, tmps := a.tmps, params := ps, assign, body, defers := w.heap.size } := ⟨_, rfl⟩
  rw [← hrec] at hent
  obtain ⟨wa, hwa⟩ : ∃ wa, wa = w.alloc (.deferred (some [])) := ⟨_, rfl⟩
  rw [← hwa] at hent
  have hsa : wa.heap.size = w.heap.size + 1 := by rw [hwa]; simp
  have oka : HeapOK σ h.cl wa := ⟨fun id hc => by
    obtain ⟨b, sz, o, q1, q2, q3⟩ := g2.ok.ok id hc
    exact ⟨b, sz, o, q1, by rw [hwa, alloc_old (g2.ok.lt hc q1)]; exact q2, q3⟩, g2.ok.inj, fun b C hf => by
    obtain ⟨⟨e, fr, q1⟩, q2⟩ := g2.ok.fz b C hf
    exact ⟨⟨e, fr, by rw [hwa, alloc_old (Array.getElem?_eq_some_iff.1 q1).1]; exact q1⟩, q2⟩⟩
  have exta : SExt σ h w σ h wa := ⟨⟨Up.refl _, by omega, fun b hb _ => by rw [hwa]; exact alloc_old hb, fun id b sz hc hs _ => ⟨id, sz, hc, hs⟩, fun _ _ _ h => h, by rw [hwa]; exact ⟨rfl, rfl, rfl⟩, fun _ _ _ _ _ _ _ hb => by rw [hwa]; exact alloc_old hb, fun _ _ h1 h2 _ => absurd (h2.symm.trans h1) (fun h => nomatch h), fun _ _ _ _ _ _ _ _ h => h⟩, Nat.le_refl _, fun _ _ => rfl⟩
  have hda : wa.heap[w.heap.size]? = some (.deferred (some [])) := by rw [hwa]; exact alloc_new _ _
  obtain ⟨okb, extb⟩ := oka.new (h' := h1) (b := .loop 0 none nt t ps.toList assign body) (o := .loop rec) (sz := 0) hfree hn hcl ⟨rec, rfl, by rw [hrec]; rfl, by rw [hrec], by rw [hrec]; exact g4.mono (newSg_up hfree), by rw [hrec], by rw [hrec], by rw [hrec]⟩
  rw [hsa] at okb extb
  have ext1 := exta.trans extb
  have st1 := g2.next ext1 okb
  have hy : VRs (newSg σ h.nx (w.heap.size + 1) 0) (.cons (.y h.nx) .nil) (#[.func (.yield (w.heap.size + 1)) #[] #[]] : Array Value).toList := .cons (.y (newSg_at _ _ _ _) h0) .nil
  have hmk : MK P n0 (newSg σ h.nx (w.heap.size + 1) 0) h1.cl (wa.alloc (.loop rec)) ({ target := .collected w.heap.size, args := #[] } :: a.defers) := by
    refine (g5.next ext1).cons (by rw [alloc_old (by omega)]; exact hda) g6 (fun id sz hc hs => ?_) fun d hd r hr => ?_
    · obtain ⟨b', sz', o', q1, q2, q3⟩ := okb.ok id hc
      rw [hs] at q1
      obtain ⟨rfl, rfl⟩ := Prod.mk.inj (Option.some.inj q1)
      rw [alloc_old (by omega), hda] at q2
      cases q2
      generalize h1.cl id = bb at hc q3
      cases bb with
      | cells => obtain ⟨_, _, _, q, _⟩ := q3; cases q
      | tab => obtain ⟨_, _, _, q, _⟩ := q3; cases q
      | map => obtain ⟨_, _, q, _⟩ := q3; cases q
      | siter => obtain ⟨_, q, _⟩ := q3; cases q
      | loop => obtain ⟨_, q, _⟩ := q3; cases q
      | dead => exact hc rfl
    · rcases g5.each d hd with ⟨r', q1, q2, q3, q4⟩ | ⟨fv, cap, f', args', q1, _⟩
      · rw [hr] at q1
        cases q1
        have := (Array.getElem?_eq_some_iff.1 q3).1
        omega
      · rw [hr] at q1
        cases q1
  obtain ⟨d, r1, fn', cs, r3, r4⟩ := e5 _ (wa.alloc (.loop rec)) (a.eval g) #[.func (.yield (w.heap.size + 1)) #[] #[]] st1 (g3.tail ext1) ((hgg σ t a g2.ctx g4).mono ext1.up) hy
  refine ⟨w.heap.size + 1, _, wa.alloc (.loop rec), d, wa.alloc (.loop rec), fn', cs, wa.alloc (.loop rec), hent, ?_, fun _ _ => trivial, r3, fun hh => (by cases hh), ?_⟩
  · simp only [resolve]
    rw [show Array.map a.eval #[Operand.const (Value.func (Fn.yield (w.heap.size + 1)) #[] #[])] = #[Value.func (Fn.yield (w.heap.size + 1)) #[] #[]] from by simp [Act.eval]]
    exact r1 _
  · refine CallsIn.mono (show CallsIn (Fx none) 0 P fn' cs _ _ from r4) fun e w' hR => ?_
    obtain ⟨v', σ', rfl, q1, q2, q3⟩ := hR
    have hs2 : σ' h.nx = some (w.heap.size + 1, 0) := q1.up _ _ (newSg_at _ _ _ _)
    obtain ⟨L, hL, m1, m2, m3⟩ := q2.loopAt h0 hs2 hg2
    obtain ⟨k1, k2⟩ := not_tab' h0 hg2
    have hne : L.state ≠ .busy := fun hb => hst (by rw [← m1, hb]; rfl)
    have hend := run_endLoop (P := P) hL hne
    have hdead : HeapOK σ' (h2.set h.nx .dead).cl (w'.putObj (w.heap.size + 1) (.loop { L with state := .exhausted })) ∧ SExt σ' h2 w' σ' (h2.set h.nx .dead) (w'.putObj (w.heap.size + 1) (.loop { L with state := .exhausted })) :=
      q2.turn h0 hs2 k1 k2 World.putObj_size (World.putObj_heap_same (Array.getElem?_eq_some_iff.1 hL).1) trivial ⟨fun b' hb' => World.putObj_heap_other hb', ⟨rfl, rfl, rfl⟩⟩
    have mk3 := (hmk.next q1).next hdead.2
    have ext3 := ext1.trans (q1.trans hdead.2)
    have ht3 : TR σ' nt t a.tmps := g4.mono ext3.up
    refine ⟨p, _, by rw [← m2]; exact hend, ?_⟩
    rcases hr0 with ⟨rfl, rfl⟩ | ⟨rfl, rfl⟩ | ⟨id, rfl, rfl⟩
    · exact ⟨_, _, σ', .inl ⟨rfl, rfl⟩, ext3, hdead.1, ht3, mk3⟩
    · exact wpIn_ret ⟨_, _, σ', .inr (.inl ⟨rfl, rfl⟩), ext3, hdead.1, ht3, mk3⟩
    · exact wpIn_exit ⟨_, _, σ', .inr (.inr ⟨id, rfl, rfl⟩), ext3, hdead.1, ht3, mk3⟩

/-- a region that draws its order -/
def DrawOK (P : Program) (hp : H) (nt : Nat) (ops : Array Oper) (f : F) : Prop := ∀ ih, IHOK P hp ih → ∀ t h k r, f ih t h k = some r → ∃ t' h', k t' h' = some r ∧ h.nx ≤ h'.nx ∧
  ∀ σ l a w n0 id, St P hp σ h w → Fr σ h.nx h'.nx → TR σ nt t a.tmps → MK P n0 σ h.cl w a.defers → n0 ≤ w.heap.size → (Code.region id ops true).wpIn (Fx l) 0 P (PostOK P σ h w nt n0 (.nor t' h')) a w

theorem cCode_ok (hpo : HpOK P hp) (hpu : PUOK P hp pu) (hdraw : ∀ ops f, cDraw pu P nt ops = .mk f → DrawOK P hp nt ops f) : ∀ {c : Code} {f : F}, cCode pu P rnd nt c = .mk f → CodeF P hp rnd nt c f := by
  intro c
  induction c with
  | skip => intro f e; cases e; exact fun ih hih t h k r er => ⟨.nor t h, CodeG.of (fun _ e => (by cases e)) (.inl rfl) (Nat.le_refl _) fun σ l a w n0 g1 g2 g3 g4 g5 g6 => wpIn_skip ⟨t, h, σ, .inl ⟨rfl, rfl⟩, SExt.refl _ _ _, g2.ok, g4, g5⟩, fun t' h' e => by cases e; exact er, fun hh => absurd rfl (hh _ _)⟩
  | label l0 => intro f e; cases e; exact fun ih hih t h k r er => ⟨.nor t h, CodeG.of (fun _ e => (by cases e)) (.inl rfl) (Nat.le_refl _) fun σ l a w n0 g1 g2 g3 g4 g5 g6 => wpIn_label ⟨t, h, σ, .inl ⟨rfl, rfl⟩, SExt.refl _ _ _, g2.ok, g4, g5⟩, fun t' h' e => by cases e; exact er, fun hh => absurd rfl (hh _ _)⟩
  | exit id => intro f e; cases e; exact fun ih hih t h k r er => ⟨.exit id t h, CodeG.of (fun _ e => (by cases e)) (.inr (.inr ⟨id, rfl⟩)) (Nat.le_refl _) fun σ l a w n0 g1 g2 g3 g4 g5 g6 => wpIn_exit ⟨t, h, σ, .inr (.inr ⟨id, rfl, rfl⟩), SExt.refl _ _ _, g2.ok, g4, g5⟩, fun t' h' e => (by cases e), fun hh => (by cases er; rfl)⟩
  | ret => intro f e; cases e; exact fun ih hih t h k r er => ⟨.ret t h, CodeG.of (fun _ e => (by cases e)) (.inr (.inl rfl)) (Nat.le_refl _) fun σ l a w n0 g1 g2 g3 g4 g5 g6 => wpIn_ret ⟨t, h, σ, .inr (.inl ⟨rfl, rfl⟩), SExt.refl _ _ _, g2.ok, g4, g5⟩, fun t' h' e => (by cases e), fun hh => (by cases er; rfl)⟩
  | region id ops draw =>
    intro f e
    cases draw with
    | true =>
      intro ih hih t h k r er
      obtain ⟨t', h', e1, e2, e3⟩ := hdraw ops f e ih hih t h k r er
      exact ⟨.nor t' h', CodeG.of (fun _ e => (by cases e)) (.inl rfl) e2 fun σ l a w n0 g1 g2 g3 g4 g5 g6 => e3 σ l a w n0 id g2 g3 g4 g5 g6, fun t' h' e => by cases e; exact e1, fun hh => absurd rfl (hh _ _)⟩
    | false =>
      intro ih hih t h k r er
      obtain ⟨t', h', e1, e2, e3⟩ := cOps_ok (hp := hp) hpo hpu (i := 0) (show cOps rnd pu P nt ops ops.toList = .mk f from e) (fun q => by simp) ih hih t h k r er
      refine ⟨.nor t' h', CodeG.of (fun _ e => (by cases e)) (.inl rfl) e2 fun σ l a w n0 g1 g2 g3 g4 g5 g6 => wpIn_region ?_, fun t' h' e => by cases e; exact e1, fun hh => absurd rfl (hh _ _)⟩
      rw [List.range_eq_range', ← Array.length_toList]
      exact e3 σ l a w n0 _ g1 g2 g4 g3 g5 fun a' w' σ' x1 x2 x3 x4 => ⟨t', h', σ', .inl ⟨rfl, rfl⟩, x1, x2, x3, x4⟩
  | seq x y hx hy =>
    intro f e
    cases h1 : cCode pu P rnd nt x with | mk fx =>
    cases h2 : cCode pu P rnd nt y with | mk fy =>
    have e : (cCode pu P rnd nt x).rec (motive := fun _ => Cl) (fun f => (cCode pu P rnd nt y).rec (motive := fun _ => Cl) fun g => .mk fun ih t h k => f ih t h fun t h => g ih t h k) = .mk f := e
    rw [h1, h2] at e
    cases e
    intro ih hih t h k r er
    obtain ⟨r0, a1, a2, a3⟩ := hx h1 ih hih t h _ r er
    by_cases hn : ∃ t' h', r0 = .nor t' h'
    · obtain ⟨t', h', rfl⟩ := hn
      obtain ⟨r1, b1, b2, b3⟩ := hy h2 ih hih _ _ k r (a2 _ _ rfl)
      exact ⟨r1, a1.seq b1, b2, b3⟩
    · have hn' : ∀ t' h', r0 ≠ .nor t' h' := fun t' h' e => hn ⟨t', h', e⟩
      exact ⟨r0, a1.seq_out hn', fun t' h' e => absurd e (hn' _ _), a3⟩
  | cond o x y hx hy =>
    intro f e
    rcases cO_inv (show cO P nt o (fun gx => (cCode pu P rnd nt x).rec (motive := fun _ => Cl) fun f => (cCode pu P rnd nt y).rec (motive := fun _ => Cl) fun g => .mk fun ih t h k => boolK (gx t) fun r => r.rec (g ih t h k) (f ih t h k)) = .mk f from e) with hd | ⟨g, hg, e⟩
    · exact CodeF.dead hd
    cases h1 : cCode pu P rnd nt x with | mk fx =>
    cases h2 : cCode pu P rnd nt y with | mk fy =>
    rw [h1, h2] at e
    cases e
    intro ih hih t h k r er
    obtain ⟨b, hb, e1⟩ := boolK_some' er
    cases b with
    | true =>
      obtain ⟨r0, a1, a2, a3⟩ := hx h1 ih hih t h k r e1
      exact ⟨r0, CodeG.cond hg hb a1, a2, a3⟩
    | false =>
      obtain ⟨r0, a1, a2, a3⟩ := hy h2 ih hih t h k r e1
      exact ⟨r0, CodeG.cond hg hb a1, a2, a3⟩
  | block id x hx =>
    intro f e
    cases h1 : cCode pu P rnd nt x with | mk fx =>
    have e : (cCode pu P rnd nt x).rec (motive := fun _ => Cl) (fun f => .mk fun ih t h k => blkK id (f ih t h norT) k) = .mk f := e
    rw [h1] at e
    cases e
    intro ih hih t h k r er
    obtain ⟨r1, e1, e2⟩ := blkK_some er
    obtain ⟨r0, a1, a2, a3⟩ := hx h1 ih hih t h norT r1 e1
    have hr : r1 = r0 := by
      by_cases hn : ∃ t' h', r0 = .nor t' h'
      · obtain ⟨t', h', rfl⟩ := hn
        have := a2 _ _ rfl
        cases this; rfl
      · exact a3 fun t' h' e => hn ⟨t', h', e⟩
    subst hr
    rcases e2 with ⟨t', h', rfl, hk⟩ | ⟨t', h', rfl, hk⟩ | ⟨j, t', h', rfl, hk⟩
    · exact ⟨.nor t' h', a1.block (.inl rfl) rfl, fun t1 h1 e => by cases e; exact hk, fun hh => absurd rfl (hh _ _)⟩
    · exact ⟨.ret t' h', a1.block (.inr (.inl rfl)) rfl, fun t1 h1 e => (by cases e), fun hh => hk⟩
    · rcases hk with ⟨hj, hk⟩ | ⟨hj, hk⟩
      · exact ⟨.nor t' h', a1.block (.inr (.inr ⟨j, rfl⟩)) (by simp [hj]), fun t1 h1 e => by cases e; exact hk, fun hh => absurd rfl (hh _ _)⟩
      · exact ⟨.exit j t' h', a1.block (.inr (.inr ⟨j, rfl⟩)) (by simp [hj]), fun t1 h1 e => (by cases e), fun hh => hk⟩
  | loop x hx =>
    intro f e
    cases h1 : cCode pu P rnd nt x with | mk fx =>
    have e : (cCode pu P rnd nt x).rec (motive := fun _ => Cl) (fun f => .mk fun ih t h k => resK (f ih t h fun t h => ih (.code rnd nt (.loop x) t h)) k) = .mk f := e
    rw [h1] at e
    cases e
    intro ih hih t h k r er
    obtain ⟨r1, e1, e2⟩ := resK_some er
    obtain ⟨r0, a1, a2, a3⟩ := hx h1 ih hih t h _ r1 e1
    have hg : CodeG P hp rnd nt (.loop x) t h r1 := by
      by_cases hn : ∃ t' h', r0 = .nor t' h'
      · obtain ⟨t', h', rfl⟩ := hn
        exact a1.loop (hih.code _ _ _ _ _ _ (a2 _ _ rfl))
      · have hn' : ∀ t' h', r0 ≠ .nor t' h' := fun t' h' e => hn ⟨t', h', e⟩
        have := a3 hn'
        subst this
        exact a1.loop_out hn'
    rcases e2 with ⟨t', h', rfl, hk⟩ | ⟨hn, hk⟩
    · exact ⟨_, hg, fun t1 h1 e => by cases e; exact hk, fun hh => absurd rfl (hh _ _)⟩
    · exact ⟨_, hg, fun t1 h1 e => absurd e (hn _ _), fun _ => hk⟩
  | rangeFunc g ps assign body _ _ =>
    intro f e
    cases rnd with
    | true => exact CodeF.dead (dead_of e)
    | false => exact cRange_ok e
  | _ => intro f e; exact CodeF.dead (dead_of e)
end
end Go.Ev
namespace Go.Ev
section
variable {P : Program} {hp : H} {nt : Nat} {pu : PU} {t : T} {h : H} {r : Res}

theorem setAll_at {l : V} {σ : Sg} {vs : List Value} (h : VRs σ l vs) : ∀ (n : Nat) (t : T), n + vs.length ≤ 256 → ∀ x, x < 256 →
    (x < n ∨ n + vs.length ≤ x → getT (setAll l n t) x = getT t x) ∧ ∀ y, n ≤ x → vs[x - n]? = some y → VR σ (getT (setAll l n t) x) y := by
  induction vs generalizing l with
  | nil => cases h; exact fun n t _ x hx => ⟨fun _ => rfl, fun y _ e => (by cases e)⟩
  | cons v vs ih =>
    cases h with | @cons a b _ _ h1 h2 =>
    intro n t hn x hx
    rw [List.length_cons] at hn
    have hs : setAll (.cons a b) n t = setAll b (Nat.succ n) (setT t n a) := rfl
    rw [hs]
    obtain ⟨g1, g2⟩ := ih h2 (Nat.succ n) (setT t n a) (by omega) x hx
    refine ⟨fun hh => ?_, fun y hle hy => ?_⟩
    · rw [List.length_cons] at hh
      rw [g1 (by omega), getT_setT _ _ _ _ (by omega) hx, if_neg (by omega)]
    · by_cases hxn : x = n
      · subst hxn
        rw [Nat.sub_self, List.getElem?_cons_zero] at hy
        cases hy
        rw [g1 (by omega), getT_setT _ _ _ _ (by omega) hx, if_pos rfl]
        exact h1
      · refine g2 y (by omega) ?_
        rw [show x - n = (x - Nat.succ n) + 1 by omega, List.getElem?_cons_succ] at hy
        exact hy

theorem TR.start {σ : Sg} {l : V} {vs : Array Value} (h : VRs σ l vs.toList) (hn : vs.size ≤ nt) (h256 : nt ≤ 256) : TR σ nt (setAll l 0 Te) (vs ++ Array.replicate (nt - vs.size) undef) := by
  refine ⟨by simp; omega, h256, fun x hx => ?_⟩
  have hl : vs.toList.length = vs.size := Array.length_toList
  obtain ⟨g1, g2⟩ := setAll_at h 0 Te (by omega) x (by omega)
  by_cases hlt : x < vs.size
  · have hv : (vs ++ Array.replicate (nt - vs.size) undef).getD x undef = vs[x] := by
      rw [Array.getD_eq_getD_getElem?, Array.getElem?_append_left hlt, Array.getElem?_eq_getElem hlt]; rfl
    rw [hv]
    exact g2 _ (Nat.zero_le _) (by rw [Nat.sub_zero, Array.getElem?_toList, Array.getElem?_eq_getElem hlt])
  · have hv : (vs ++ Array.replicate (nt - vs.size) undef).getD x undef = undef := by
      rw [Array.getD_eq_getD_getElem?, Array.getElem?_append_right (by omega)]
      rw [Array.getElem?_replicate]
      split <;> rfl
    rw [hv, g1 (by omega), getT_Te]
    exact VR.undef σ

/-- what a function gives back -/
def resOne (tmps : Array Value) : ResultVar → Sem Value
  | .tmp t => pure (tmps.getD t undef)
  | .cell a t => do loadVar t (← asAddr (tmps.getD a undef))
def RsOK (P : Program) (nt : Nat) (l : List ResultVar) (rs : Rs) : Prop := ∀ t h q r, rs t h q = some r → ∃ vs, q vs = some r ∧ ∀ σ w tmps, HeapOK σ h.cl w → TR σ nt t tmps → ∃ out, (l.mapM (resOne tmps)).run P w = .ok out w ∧ VRs σ vs out
theorem cRes_inv {l : List ResultVar} {k : Rs → Cl} {f : F} (e : cRes P nt l k = .mk f) : Dead f ∨ ∃ rs, RsOK P nt l rs ∧ k rs = .mk f := by
  induction l generalizing k with
  | nil => exact .inr ⟨_, fun t h q r er => ⟨.nil, er, fun σ w tmps _ _ => ⟨[], by simp, .nil⟩⟩, e⟩
  | cons x l ih =>
    cases x with
    | tmp n =>
      rcases cG_inv (show cG nt n (fun g => cRes P nt l fun f => k fun t h q => f t h fun r => q (.cons (g t) r)) = .mk f from e) with h | ⟨hlt, e1⟩
      · exact .inl h
      rcases ih e1 with h | ⟨rs, hrs, e2⟩
      · exact .inl h
      refine .inr ⟨_, fun t h q r er => ?_, e2⟩
      obtain ⟨vs, e3, h3⟩ := hrs _ _ _ _ er
      refine ⟨_, e3, fun σ w tmps ok ht => ?_⟩
      obtain ⟨out, h4, h5⟩ := h3 σ w tmps ok ht
      refine ⟨_ :: out, ?_, .cons (ht.at_ n hlt) h5⟩
      rw [List.mapM_cons]
      simp only [Sem.run_bind, resOne, Sem.run_pure, Result.andThen_ok, h4]
    | cell n ty =>
      rcases cG_inv (show cG nt n (fun g => ocl (shape P ty) fun sh => sh.rec (motive := fun _ => Cl) fun m agg => cRes P nt l fun f => k fun t h q => loadK m agg h (g t) fun v => f t h fun r => q (.cons v r)) = .mk f from e) with h | ⟨hlt, e1⟩
      · exact .inl h
      rcases ocl_inv e1 with h | ⟨sh, hsh, e2⟩
      · exact .inl h
      cases sh with | mk m agg =>
      rcases ih e2 with h | ⟨rs, hrs, e3⟩
      · exact .inl h
      refine .inr ⟨_, fun t h q r er => ?_, e3⟩
      obtain ⟨v, e4, hv⟩ := loadK_some er
      obtain ⟨vs, e5, h3⟩ := hrs _ _ _ _ e4
      obtain ⟨hsz, hagg⟩ := shape_spec hsh
      refine ⟨_, e5, fun σ w tmps ok ht => ?_⟩
      obtain ⟨out, h4, h5⟩ := h3 σ w tmps ok ht
      obtain ⟨b, off, hp, h1, h2⟩ := hv σ w _ ok (ht.at_ n hlt)
      cases agg with
      | true =>
        obtain ⟨cs, hl, hcs, hvr⟩ := h1 rfl
        refine ⟨.agg cs.toArray :: out, ?_, .cons hvr h5⟩
        have hrun := run_loadCells_list (P := P) (w := w) ⟨b, off, none⟩ cs (fun j v hj => by rw [add_none]; exact hcs j v hj)
        rw [hl] at hrun
        rw [List.mapM_cons]
        simp only [Sem.run_bind, resOne, hp, asAddr, Sem.run_pure, Result.andThen_ok, loadVar, aggT_run hagg, if_true, sizeT_run hsz, hrun, h4]
      | false =>
        obtain ⟨y, hy, hvr⟩ := h2 rfl
        refine ⟨y :: out, ?_, .cons hvr h5⟩
        rw [List.mapM_cons]
        simp only [Sem.run_bind, resOne, hp, asAddr, Sem.run_pure, Result.andThen_ok, loadVar, aggT_run hagg, Bool.false_eq_true, if_false, run_load, hy, h4]

def outV (l : List Value) : Value := match l with | [v] => v | l => .tuple l.toArray
theorem results_run {fn : Func} {tmps : Array Value} {w : World} {out : List Value} (h : (fn.results.toList.mapM (resOne tmps)).run P w = .ok out w) :
    (results fn tmps).run P w = .ok (outV out) w := by
  show (do let vs ← fn.results.mapM (resOne tmps); pure (if h : vs.size = 1 then vs[0] else .tuple vs) : Sem Value).run P w = _
  rw [Array.mapM_eq_mapM_toList]
  simp only [Sem.run_bind, Sem.run_map, h, Result.andThen_ok, Sem.run_pure]
  match out with
  | [] => rfl
  | [v] => rfl
  | _ :: _ :: _ => rfl

theorem oneV_ok {σ : Sg} {vs : V} {out : List Value} (h : VRs σ vs out) : VR σ (oneV vs) (outV out) := by
  cases h with
  | nil => exact .t (c := #[]) .nil
  | cons h1 h2 =>
    cases h2 with
    | nil => exact h1
    | cons h3 h4 => exact .t (c := (_ :: _ :: _).toArray) (.cons h1 (.cons h3 h4))

theorem HeapOK.grown {σ : Sg} {c : Cm} {w w' : World} (ok : HeapOK σ c w) (g : Grown w w') : HeapOK σ c w' :=
  ⟨fun id hc => by
    obtain ⟨b, sz, o, q1, q2, q3⟩ := ok.ok id hc
    exact ⟨b, sz, o, q1, by rw [g.old b (Array.getElem?_eq_some_iff.1 q2).1]; exact q2, q3⟩, ok.inj, fun b C hf => by
    obtain ⟨⟨e, fr, q1⟩, q2⟩ := ok.fz b C hf
    exact ⟨⟨e, fr, by rw [g.old b (Array.getElem?_eq_some_iff.1 q1).1]; exact q1⟩, q2⟩⟩
theorem SExt.grown {σ τ : Sg} {h h' : H} {w w' w'' : World} (e : SExt σ h w τ h' w') (g : Grown w' w'') : SExt σ h w τ h' w'' :=
  ⟨⟨e.up, Nat.le_trans e.size g.size, fun b hb hn => by rw [g.old b (Nat.lt_of_lt_of_le hb e.size)]; exact e.keep b hb hn, e.own, e.tabs, e.same.trans g.same, fun id n l b sz hc hs hb => by rw [g.old b (Nat.lt_of_lt_of_le hb e.size)]; exact e.tabk id n l b sz hc hs hb, e.fzn, e.fzt⟩, e.nx, e.out⟩
theorem MK.tail {n0 : Nat} {σ : Sg} {c : Cm} {w : World} {d : Deferred} {ms : List Deferred} (m : MK P n0 σ c w (d :: ms)) : MK P n0 σ c w ms := ⟨fun d' hd => m.each d' (List.mem_cons_of_mem _ hd), (List.pairwise_cons.1 m.apart).2⟩
theorem MK.grown {n0 : Nat} {σ : Sg} {c : Cm} {w w' : World} {ms : List Deferred} (m : MK P n0 σ c w ms) (g : Grown w w') : MK P n0 σ c w' ms :=
  ⟨fun d hd => by
    rcases m.each d hd with ⟨r, h1, h2, h3, h4⟩ | hben
    · exact .inl ⟨r, h1, h2, by rw [g.old r (Array.getElem?_eq_some_iff.1 h3).1]; exact h3, h4⟩
    · exact .inr hben, m.apart⟩

/-- the marks are taken, one by one -/
theorem leaves_marks {fn : Func} {tmps : Array Value} {R : Ending → World → Prop} {σ0 σ : Sg} {h0 h : H} {w0 : World} : ∀ {ms : List Deferred} {w : World}, HeapOK σ h.cl w → SExt σ0 h0 w0 σ h w → MK P w0.heap.size σ h.cl w ms →
    (∀ w', HeapOK σ h.cl w' → SExt σ0 h0 w0 σ h w' → ∃ v, (results fn tmps).run P w' = .ok v w' ∧ R (.returned v) w') → LeavesInM Fence.wide 0 P fn tmps R ms .returning w
  | [], w, ok, ext, mk, hfin => hfin w ok ext
  | d :: ms, w, ok, ext, mk, hfin => by
    have hap := List.pairwise_cons.1 mk.apart
    rcases mk.each d (List.mem_cons_self ..) with ⟨b, hb1, hb2, hb3, hb4⟩ | ⟨fv, cap, f, args, d1, d2, d3⟩
    case inr =>
      refine ⟨fun h => (by cases h), .inr ⟨fun hh => (by cases hh), fv, cap, f, args, d1, d2 w, fun _ _ => trivial, (d3 w).mono fun e u' w' ⟨⟨v, hv⟩, hu, hg⟩ => ?_⟩⟩
      subst hv hu
      exact leaves_marks (ok.grown hg) (ext.grown hg) ((mk.tail).grown hg) hfin
    refine ⟨fun h => (by cases h), .inl ⟨b, _, hb1, run_takeDeferred hb3, leaves_marks ?_ ?_ ?_ hfin⟩⟩
    · refine ⟨fun id hc => ?_, ok.inj, fun x C hf => ?_⟩
      · obtain ⟨b', sz, o, q1, q2, q3⟩ := ok.ok id hc
        exact ⟨b', sz, o, q1, by rw [World.putObj_heap_other fun e => hb4 id sz hc (by rw [← e]; exact q1)]; exact q2, q3⟩
      · obtain ⟨⟨e, fr, q1⟩, q2⟩ := ok.fz x C hf
        exact ⟨⟨e, fr, by rw [World.putObj_heap_other fun e => by subst e; rw [hb3] at q1; cases q1]; exact q1⟩, q2⟩
    · refine ⟨⟨ext.up, by rw [World.putObj_size]; exact ext.size, fun b' hb' hn => ?_, ext.own, ext.tabs, ext.same.trans ⟨rfl, rfl, rfl⟩, fun id n l b' sz hc hs hb' => ?_, ext.fzn, ext.fzt⟩, ext.nx, ext.out⟩
      · rw [World.putObj_heap_other (by omega)]
        exact ext.keep b' hb' hn
      · rw [World.putObj_heap_other (by omega)]
        exact ext.tabk id n l b' sz hc hs hb'
    · refine ⟨fun d' hd' => ?_, hap.2⟩
      rcases mk.each d' (List.mem_cons_of_mem _ hd') with ⟨r', q1, q2, q3, q4⟩ | hben
      · exact .inl ⟨r', q1, q2, by rw [World.putObj_heap_other fun e => hap.1 d' hd' b r' hb1 q1 e.symm]; exact q3, q4⟩
      · exact .inr hben

theorem cFunG_ok {fid : FuncId} {fn : Func} (hfn : P.funcs[fid]? = some fn) {c : Code} (hc : fn.body = some c) (h256 : fn.ntmps ≤ 256) {fc : F} (hcf : CodeF P hp false fn.ntmps c fc) {f : F}
    (e2 : (cRes P fn.ntmps fn.results.toList fun rs => .mk fun ih t h _ => endR (fc ih t h norT) fun t h => rs t h fun vs => some (.val (oneV vs) h)) = .mk f)
    {ih : IH} (hih : IHOK P hp ih) {args : V} {h : H} {r : Res} (er : f ih (setAll args 0 Te) h norT = some r) : fn.body.isNone = false ∧ ∃ x h', r = .val x h' ∧ h.nx ≤ h'.nx ∧
      ∀ σ w vs, St P hp σ h w → Fr σ h.nx h'.nx → VRs σ args vs.toList → vs.size ≤ fn.ntmps → CallsIn Fence.wide 0 P fid vs w (EndOK σ h w x h') := by
  refine ⟨by rw [hc]; rfl, ?_⟩
  rcases cRes_inv e2 with hd | ⟨rs, hrs, e3⟩
  · rw [hd] at er; cases er
  cases e3
  obtain ⟨r1, e4, e5⟩ : ∃ r1, fc ih (setAll args 0 Te) h norT = some r1 ∧ ((∃ t' h', (r1 = .nor t' h' ∨ r1 = .ret t' h') ∧ rs t' h' (fun vs => some (.val (oneV vs) h')) = some r)) := by
    have er : endR (fc ih (setAll args 0 Te) h norT) (fun t h => rs t h fun vs => some (.val (oneV vs) h)) = some r := er
    cases hq : fc ih (setAll args 0 Te) h norT with
    | none => rw [hq] at er; cases er
    | some y =>
      rw [hq] at er
      cases y with
      | val => cases er
      | nor t' h' => exact ⟨_, rfl, t', h', .inl rfl, er⟩
      | ret t' h' => exact ⟨_, rfl, t', h', .inr rfl, er⟩
      | exit => cases er
  obtain ⟨t', h', hr1, e6⟩ := e5
  obtain ⟨vs, e7, e8⟩ := hrs _ _ _ _ e6
  cases e7
  obtain ⟨r0, a1, a2, a3⟩ := hcf ih hih _ _ _ _ e4
  have hr0 : r1 = r0 := by
    by_cases hn : ∃ t' h', r0 = .nor t' h'
    · obtain ⟨t', h', rfl⟩ := hn
      have := a2 _ _ rfl
      cases this; rfl
    · exact a3 fun t' h' e => hn ⟨t', h', e⟩
  subst hr0
  obtain ⟨t2, h2, b1, b2, b3⟩ := a1
  obtain ⟨rfl, rfl⟩ : t' = t2 ∧ h' = h2 := resOK.inj (hr1.elim .inl fun h => .inr (.inl h)) b1
  refine ⟨_, h', rfl, b2, fun σ w va st fr hv hsz => callsIn_of_wp_marks hfn hc trivial ?_⟩
  have hw := (b3 σ none ⟨va ++ Array.replicate (fn.ntmps - va.size) undef, []⟩ w w.heap.size rfl st fr (TR.start hv hsz h256) (MK.nil _ _ _ _ _) (Nat.le_refl _)).1
  refine wpIn_mono (F := Fence.wide) hw fun e a' w' hpost => ?_
  obtain ⟨t2, h2, σ', c1, c2, c3, c4, c5⟩ := hpost
  have hth : (t2 = t' ∧ h2 = h') ∧ (e = .normal ∨ e = .ret) := by
    rcases c1 with ⟨q, he⟩ | ⟨q, he⟩ | ⟨_, q, he⟩ <;> rcases hr1 with g | g <;> rw [g] at q <;> cases q
    · exact ⟨⟨rfl, rfl⟩, .inl he⟩
    · exact ⟨⟨rfl, rfl⟩, .inr he⟩
  obtain ⟨⟨rfl, rfl⟩, he⟩ := hth
  have hleave : LeavesInM Fence.wide 0 P fn a'.tmps (EndOK σ h w (oneV vs) h2) a'.defers .returning w' := leaves_marks c3 c2 c5 fun w2 ok2 ext2 => by
    obtain ⟨out, q1, q2⟩ := e8 σ' w2 a'.tmps ok2 c4
    exact ⟨_, results_run q1, _, σ', rfl, ext2, ok2, oneV_ok q2⟩
  rcases he with rfl | rfl
  · exact hleave
  · exact hleave

theorem cFun_ok (hpo : HpOK P hp) (hpu : PUOK P hp pu) (hdraw : ∀ nt ops f, cDraw pu P nt ops = .mk f → DrawOK P hp nt ops f) {fid : FuncId} {fn : Func} (hfn : P.funcs[fid]? = some fn) {f : F} (e : cFun pu P fn = .mk f)
    {ih : IH} (hih : IHOK P hp ih) {args : V} {h : H} {r : Res} (er : f ih (setAll args 0 Te) h norT = some r) : fn.body.isNone = false ∧ ∃ x h', r = .val x h' ∧ h.nx ≤ h'.nx ∧
      ∀ σ w vs, St P hp σ h w → Fr σ h.nx h'.nx → VRs σ args vs.toList → vs.size ≤ fn.ntmps → CallsIn Fence.wide 0 P fid vs w (EndOK σ h w x h') := by
  rcases bcl_inv e with hd | ⟨h256, e1⟩
  · rw [hd] at er; cases er
  have h256 : fn.ntmps ≤ 256 := Nat.le_of_ble_eq_true h256
  rcases ocl_inv e1 with hd | ⟨c, hc, e2⟩
  · rw [hd] at er; cases er
  cases h1 : cCode pu P false fn.ntmps c with | mk fc =>
  rw [h1] at e2
  exact cFunG_ok hfn hc h256 (cCode_ok hpo hpu (hdraw fn.ntmps) h1) e2 hih er

theorem step_ok (hpo : HpOK P hp) (hpu : PUOK P hp pu) (hdraw : ∀ nt ops f, cDraw pu P nt ops = .mk f → DrawOK P hp nt ops f) {ih : IH} (hih : IHOK P hp ih) : IHOK P hp (step pu P ih) := by
  refine ⟨fun fid args h r er => ?_, fun rnd nt c t h r er => ?_⟩
  · obtain ⟨hfit, e1⟩ := bi_some.1 (show bi (fits P fid args) ((cFn pu P fid).rec (motive := fun _ => R) fun g => g ih (setAll args 0 Te) h norT) = some r from er)
    cases hc : cFn pu P fid with | mk f =>
    rw [hc] at e1
    have e1 : f ih (setAll args 0 Te) h norT = some r := e1
    rcases ocl_inv hc with hd | ⟨fn, hfn, e2⟩
    · rw [hd] at e1; cases e1
    obtain ⟨g1, x, h', g2, g3, g4⟩ := cFun_ok hpo hpu hdraw hfn e2 hih e1
    unfold fits at hfit
    rw [hfn] at hfit
    simp only [Bool.and_eq_true, Bool.not_eq_true'] at hfit
    refine ⟨x, h', g2, g3, ⟨fn, hfn, g1, hfit.2⟩, fun σ w vs st fr hv => g4 σ w vs st fr hv ?_⟩
    have := Nat.le_of_ble_eq_true hfit.1
    rw [hv.len, Array.length_toList] at this
    exact this
  · cases hc : cCode pu P rnd nt c with | mk f =>
    have er : (cCode pu P rnd nt c).rec (motive := fun _ => R) (fun g => g ih t h norT) = some r := er
    rw [hc] at er
    obtain ⟨r0, a1, a2, a3⟩ := cCode_ok hpo hpu (hdraw nt) hc ih hih _ _ _ _ er
    have hr0 : r = r0 := by
      by_cases hn : ∃ t' h', r0 = .nor t' h'
      · obtain ⟨t', h', rfl⟩ := hn
        have := a2 _ _ rfl
        cases this; rfl
      · exact a3 fun t' h' e => hn ⟨t', h', e⟩
    rw [hr0]; exact a1

/-- **THE EVALUATOR TELLS WHAT THE MACHINE DOES** -/
theorem ev_ok (hpo : HpOK P hp) (hpu : PUOK P hp pu) (hdraw : ∀ nt ops f, cDraw pu P nt ops = .mk f → DrawOK P hp nt ops f) : ∀ n, IHOK P hp (ev pu P n)
  | 0 => ⟨fun _ _ _ _ e => (by cases e), fun _ _ _ _ _ _ e => (by cases e)⟩
  | n + 1 => step_ok hpo hpu hdraw (ev_ok hpo hpu hdraw n)

theorem PUOK.none : PUOK P hp fun _ _ => none := ⟨fun _ _ _ _ e => (by cases e), fun _ _ _ _ _ e => (by cases e)⟩
theorem PUOK.of {ih : IH} (hih : IHOK P hp ih) : PUOK P hp fun f vs => ih (.call f vs hp) := by
  refine ⟨fun f vs x h' e => ?_, fun g vs i t h' e => ?_⟩
  · obtain ⟨x, h', h1, h2, h3, h4⟩ := hih.call _ _ _ _ e
    cases h1
    exact ⟨h2, h3, fun σ w args st fr hv => h4 σ w args st fr hv⟩
  · obtain ⟨x, h', h1, _⟩ := hih.call _ _ _ _ e
    cases h1
/-- a function of n arguments that is known to be harmless where it is put off -/
def withBen (b n : Nat) (hp : H) (pu : PU) : PU := fun f vs => (Nat.beq f b).rec (pu f vs) ((Nat.beq (lenV vs) n).rec none (some (.exit 0 Te hp)))
theorem PUOK.withBen {b n : Nat} (h : PUOK P hp pu) (hr : RunsFn P b) (hb : ∀ args : Array Value, args.size = n → ∀ w, CallsDIn Fence.wide 0 P b args .returning w (BenEnd w)) : PUOK P hp (withBen b n hp pu) := by
  have key : ∀ f vs r, Go.Ev.withBen b n hp pu f vs = some r → pu f vs = some r ∨ (f = b ∧ lenV vs = n ∧ r = .exit 0 Te hp) := fun f vs r e => by
    unfold Go.Ev.withBen at e
    cases hf : Nat.beq f b with
    | false => rw [hf] at e; exact .inl e
    | true =>
      rw [hf] at e
      cases hl : Nat.beq (lenV vs) n with
      | false => rw [hl] at e; cases e
      | true => rw [hl] at e; cases e; exact .inr ⟨Nat.eq_of_beq_eq_true hf, Nat.eq_of_beq_eq_true hl, rfl⟩
  refine ⟨fun f vs x h' e => ?_, fun g vs i t h' e => ?_⟩
  · rcases key _ _ _ e with e | ⟨_, _, e⟩
    · exact h.call _ _ _ _ e
    · cases e
  · rcases key _ _ _ e with e | ⟨rfl, hl, _⟩
    · exact h.ben _ _ _ _ _ e
    · refine ⟨hr, fun σ args hv => hb args ?_⟩
      rw [← hl, hv.len, Array.length_toList]
end
end Go.Ev
namespace Go.Ev
section
variable {P : Program} {hp : H} {nt : Nat} {f : F} {pu : PU} {ops : Array Oper}

/-- the step by the other temporaries: those looked at are the same -/
theorem Stp.move {l : Option Nat} {o : Oper} {a b : Act} {w : World} {X : Value → World → Prop} (hs : ∀ cs c, o.op ≠ .select cs c) (hd : ∀ c, o.op ≠ .defer c)
    (h : Stp P l ops o a w fun a' w' => ∃ v', a' = a.put o.dst v' ∧ X v' w') (ho : ∀ x ∈ o.op.operands, a.eval x = b.eval x) (hsz : a.tmps.size = b.tmps.size) (hnd : ∀ d, o.dst = some d → d < a.tmps.size)
    (hg : Region.wanted o (yielded ops a.tmps) = Region.wanted o (yielded ops b.tmps)) : Stp P l ops o b w fun a' w' => ∃ v', a' = b.put o.dst v' ∧ X v' w' := by
  have hput : ∀ v v', a.put o.dst v = a.put o.dst v' → b.put o.dst v = b.put o.dst v' := fun v v' e => by
    cases hdst : o.dst with
    | none => rfl
    | some d =>
      rw [hdst] at e
      have hlt := hnd d hdst
      have e1 : a.tmps.setIfInBounds d v = a.tmps.setIfInBounds d v' := congrArg Act.tmps e
      have e2 : (a.tmps.setIfInBounds d v)[d]? = (a.tmps.setIfInBounds d v')[d]? := by rw [e1]
      rw [Array.getElem?_setIfInBounds_self_of_lt hlt, Array.getElem?_setIfInBounds_self_of_lt hlt] at e2
      cases e2; rfl
  intro K Q hk
  have h0 := h (fun a' w' => ∃ v', a' = a.put o.dst v' ∧ X v' w') (fun _ _ _ => False) fun _ _ h => h
  rw [hg] at h0
  have hK : ∀ v w', (∃ v', a.put o.dst v = a.put o.dst v' ∧ X v' w') → K (b.put o.dst v) w' := fun v w' ⟨v', e, hx⟩ => hk _ _ ⟨v', hput _ _ e, hx⟩
  by_cases hw : Region.wanted o (yielded ops b.tmps) = true
  · rw [if_pos hw] at h0 ⊢
    refine ⟨fun _ _ => trivial, ?_⟩
    have h1 := h0.2
    rw [Oper.semAt_eq _ _ _ hd, execOp_congr o hs ho] at h1
    rw [Oper.semAt_eq _ _ _ hd]
    generalize (execOp b.eval o).run P w = r at h1 ⊢
    cases r with
    | ok x w' =>
      cases x <;> simp only [Oper.uponIn] at h1 ⊢ <;>
        first
          | exact hK _ _ h1
          | exact ⟨h1.1, CallsIn.mono h1.2 (fun e w'' he => by cases e <;> first | exact hK _ _ he | exact he.elim | (obtain ⟨_, _, h⟩ := he; exact h.elim))⟩
          | exact ⟨h1.1, RowsIn.mono h1.2 (fun _ _ he => hK _ _ he)⟩
          | exact ⟨h1.1, RoundIn.mono h1.2 (fun e w'' he => by cases e <;> first | exact hK _ _ he | exact he.elim | (obtain ⟨_, _, h⟩ := he; exact h.elim))⟩
          | (exfalso
             obtain ⟨v', e, _⟩ := h1
             have e1 := congrArg Act.defers e
             have e2 : ∀ (c : Act) v, (c.put o.dst v).defers = c.defers := fun c v => by cases o.dst <;> rfl
             rw [e2, e2] at e1
             exact absurd (congrArg List.length e1) (by simp))
    | halt x w' => cases x <;> simp only [Oper.uponIn] at h1 ⊢
  · rw [if_neg hw] at h0 ⊢
    exact ⟨fun _ _ => trivial, hK _ _ h0.2⟩

/-- an operation that needs nothing of the heap, or looks at it, or makes a block -/
structure Quiet (P : Program) (nt : Nat) (ops : Array Oper) (o : Oper) (t : T) (h h' : H) (v : V) (Y : Sg → World → Prop) : Prop where
  nx : h.nx ≤ h'.nx ∧ h'.nx ≤ h.nx + 1
  cl : h'.cl = fun x => if h'.nx = h.nx + 1 ∧ x = h.nx then h'.cl x else h.cl x
  step : ∀ σ l a w, Ctx P σ → TR σ nt t a.tmps → σ h.nx = none → Y σ w → ∃ v' w' σ', Stp P l ops o a w (fun a1 w1 => ∃ v1, a1 = a.put o.dst v1 ∧ v1 = v' ∧ w1 = w') ∧ VR σ' v v' ∧
    ((h'.nx = h.nx ∧ w' = w ∧ σ' = σ) ∨ (h'.nx = h.nx + 1 ∧ ∃ obj sz, w' = w.alloc obj ∧ σ' = newSg σ h.nx w.heap.size sz ∧ BOK σ' (h'.cl h.nx) sz obj))

theorem stp_exec {l : Option Nat} {o : Oper} {a : Act} {w w' : World} {v' : Value} (hd : ∀ c, o.op ≠ .defer c) (hw : Region.wanted o (yielded ops a.tmps) = true) (h : (execOp a.eval o).run P w = .ok (.value v') w') :
    Stp P l ops o a w fun a1 w1 => ∃ v1, a1 = a.put o.dst v1 ∧ v1 = v' ∧ w1 = w' := fun K Q hk => by
  rw [if_pos hw]
  refine ⟨fun _ _ => trivial, ?_⟩
  rw [Oper.semAt_eq _ _ _ hd, h]
  exact hk _ _ ⟨v', rfl, rfl, rfl⟩
theorem stp_skip {l : Option Nat} {o : Oper} {a : Act} {w : World} (hw : ¬ Region.wanted o (yielded ops a.tmps) = true) :
    Stp P l ops o a w fun a1 w1 => ∃ v1, a1 = a.put o.dst v1 ∧ v1 = undef ∧ w1 = w := fun K Q hk => by
  rw [if_neg hw]
  exact ⟨fun _ _ => trivial, hk _ _ ⟨undef, rfl, rfl, rfl⟩⟩

theorem cls_defer {op : Op} (h : cls op ≠ 3) : ∀ c, op ≠ .defer c := fun c e => by subst e; exact h rfl

/-- by the guard: what is wanted is done, what is not is passed over -/
theorem quiet_guard {o : Oper} (e : cOper pu P nt ops o = .mk f) {ih : IH} {t : T} {h : H} {k : KT} {r : Res} (er : f ih t h k = some r) :
    ∃ s f0, SOK nt o.dst s ∧ cOp pu o.op P nt s = .mk f0 ∧
      ((f0 ih t h k = some r ∧ ∀ σ tm, TR σ nt t tm → Region.wanted o (yielded ops tm) = true) ∨ (k (putT t o.dst undefV) h = some r ∧ ∀ σ tm, TR σ nt t tm → ¬ Region.wanted o (yielded ops tm) = true)) := by
  rcases cOper_cases e with hd | ⟨s, f0, hs, hop, hg⟩
  · rw [hd] at er; cases er
  refine ⟨s, f0, hs, hop, ?_⟩
  rcases hg with ⟨hg, rfl⟩ | ⟨j, w0, d, hg, hd, hlt, rfl⟩
  · exact .inl ⟨er, fun σ tm _ => by unfold Region.wanted; rw [hg]⟩
  · rcases wantV_some er with ⟨hv, er⟩ | ⟨hv, hun, er⟩
    · refine .inl ⟨er, fun σ tm ht => (wanted_of hg hd (by rw [ht.size]; exact hlt)).2 ?_⟩
      have hat := ht.at_ d hlt
      rw [hv] at hat
      generalize tm.getD d undef = y at hat
      cases hat; rfl
    · have er : k (s undefV t) h = some r := er
      rw [hs.eq] at er
      refine .inr ⟨er, fun σ tm ht hw => ?_⟩
      have hx := (wanted_of hg hd (by rw [ht.size]; exact hlt)).1 hw
      have hat := ht.at_ d hlt
      rw [hx] at hat
      generalize hgv : getT t d = y at hat
      cases hat
      · exact hv _ hgv rfl
      · exact hun hgv

theorem Quiet.skip {o : Oper} {t : T} {h : H} {Y : Sg → World → Prop} (hw : ∀ σ tm, TR σ nt t tm → ¬ Region.wanted o (yielded ops tm) = true) : Quiet P nt ops o t h h undefV Y :=
  ⟨⟨Nat.le_refl _, Nat.le_succ _⟩, by funext x; rw [if_neg (by omega)], fun σ l a w _ ht _ _ => ⟨undef, w, σ, stp_skip (hw σ _ ht), VR.undef σ, .inl ⟨rfl, rfl, rfl⟩⟩⟩

theorem quiet_pure {o : Oper} (hc : cls o.op = 0) (e : cOper pu P nt ops o = .mk f) {ih : IH} {t : T} {h : H} {k : KT} {r : Res} (er : f ih t h k = some r) :
    ∃ v, k (putT t o.dst v) h = some r ∧ ∀ Y, Quiet P nt ops o t h h v Y := by
  obtain ⟨s, f0, hs, hop, hg⟩ := quiet_guard e er
  rcases hg with ⟨e1, hw⟩ | ⟨e1, hw⟩
  · obtain ⟨v, e2, h2⟩ := cOp_pure hc hop ih t h k r e1
    rw [hs.eq] at e2
    refine ⟨v, e2, fun Y => ⟨⟨Nat.le_refl _, Nat.le_succ _⟩, by funext x; rw [if_neg (by omega)], fun σ l a w cx ht _ _ => ?_⟩⟩
    obtain ⟨v', h3, h4⟩ := h2 σ a cx ht o.dst o.type o.pos o.after o.guard
    exact ⟨v', w, σ, stp_exec (cls_defer (by rw [hc]; decide)) (hw σ _ ht) (h3 w), h4, .inl ⟨rfl, rfl, rfl⟩⟩
  · exact ⟨undefV, e1, fun Y => Quiet.skip hw⟩

/-- a look at one heap -/
theorem quiet_look {o : Oper} (hc : cls o.op = 1) (e : cOper pu P nt ops o = .mk f) {ih : IH} {t : T} {hs0 : H} {k : KT} {r : Res} (er : f ih t hs0 k = some r) :
    ∃ v, k (putT t o.dst v) hs0 = some r ∧ ∀ h, Quiet P nt ops o t h h v fun σ w => HeapOK σ hs0.cl w := by
  obtain ⟨s, f0, hs, hop, hg⟩ := quiet_guard e er
  rcases hg with ⟨e1, hw⟩ | ⟨e1, hw⟩
  · obtain ⟨v, e2, h2⟩ := cOp_look hc hop ih t hs0 k r e1
    rw [hs.eq] at e2
    refine ⟨v, e2, fun h => ⟨⟨Nat.le_refl _, Nat.le_succ _⟩, by funext x; rw [if_neg (by omega)], fun σ l a w cx ht _ ok => ?_⟩⟩
    obtain ⟨v', h3, h4⟩ := h2 σ a w cx ht ok o.dst o.type o.pos o.after o.guard
    exact ⟨v', w, σ, stp_exec (cls_defer (by rw [hc]; decide)) (hw σ _ ht) h3, h4, .inl ⟨rfl, rfl, rfl⟩⟩
  · exact ⟨undefV, e1, fun h => Quiet.skip hw⟩

theorem quiet_new {o : Oper} (hc : cls o.op = 2) (e : cOper pu P nt ops o = .mk f) {ih : IH} {t : T} {h : H} {k : KT} {r : Res} (er : f ih t h k = some r) :
    ∃ v h', k (putT t o.dst v) h' = some r ∧ ∀ Y, Quiet P nt ops o t h h' v Y := by
  obtain ⟨s, f0, hs, hop, hg⟩ := quiet_guard e er
  rcases hg with ⟨e1, hw⟩ | ⟨e1, hw⟩
  · obtain ⟨v, b, h', e2, h0, hn, hcl, h2⟩ := cOp_new hc hop ih t h k r e1
    rw [hs.eq] at e2
    have hcl2 : h'.cl h.nx = b := by rw [hcl]; simp
    refine ⟨v, h', e2, fun Y => ⟨⟨by omega, by omega⟩, ?_, fun σ l a w cx ht hf _ => ?_⟩⟩
    · funext x
      by_cases hx : x = h.nx
      · rw [if_pos ⟨hn, hx⟩]
      · rw [if_neg (fun hh => hx hh.2), hcl]; simp [hx]
    · obtain ⟨v', obj, sz, h3, h4, h5⟩ := h2 σ a w cx ht hf o.dst o.type o.pos o.after o.guard
      exact ⟨v', _, _, stp_exec (cls_defer (by rw [hc]; decide)) (hw σ _ ht) h3, h4, .inr ⟨hn, obj, sz, rfl, rfl, by rw [hcl2]; exact h5⟩⟩
  · exact ⟨undefV, h, e1, fun Y => Quiet.skip hw⟩
end
end Go.Ev
namespace Go.Ev

theorem band {a b : Bool} (h : a.rec (motive := fun _ => Bool) false b = true) : a = true ∧ b = true := by cases a <;> first | (cases h; done) | exact ⟨rfl, h⟩
theorem eqV_ok {v : V} : ∀ {w : V}, eqV v w = true → v = w := by
  induction v with
  | b x => intro w h; cases w <;> first | (cases h; done) | (rename_i y; cases x <;> cases y <;> first | rfl | (cases h))
  | i a b => intro w h; cases w <;> first | (cases h; done) | (obtain ⟨h1, h2⟩ := band h; rw [Nat.eq_of_beq_eq_true h1, Nat.eq_of_beq_eq_true h2])
  | j a b => intro w h; cases w <;> first | (cases h; done) | (obtain ⟨h1, h2⟩ := band h; rw [Nat.eq_of_beq_eq_true h1, Nat.eq_of_beq_eq_true h2])
  | s a b => intro w h; cases w <;> first | (cases h; done) | (obtain ⟨h1, h2⟩ := band h; rw [Nat.eq_of_beq_eq_true h1, Nat.eq_of_beq_eq_true h2])
  | z a => intro w h; cases w <;> first | (cases h; done) | (rw [Nat.eq_of_beq_eq_true h])
  | m a => intro w h; cases w <;> first | (cases h; done) | (rw [Nat.eq_of_beq_eq_true h])
  | p a b => intro w h; cases w <;> first | (cases h; done) | (obtain ⟨h1, h2⟩ := band h; rw [Nat.eq_of_beq_eq_true h1, Nat.eq_of_beq_eq_true h2])
  | l a b c d => intro w h; cases w <;> first | (cases h; done) | (obtain ⟨h1, h2⟩ := band h; obtain ⟨h2, h3⟩ := band h2; obtain ⟨h3, h4⟩ := band h3; rw [Nat.eq_of_beq_eq_true h1, Nat.eq_of_beq_eq_true h2, Nat.eq_of_beq_eq_true h3, Nat.eq_of_beq_eq_true h4])
  | a n l ih => intro w h; cases w <;> first | (cases h; done) | (obtain ⟨h1, h2⟩ := band h; rw [Nat.eq_of_beq_eq_true h1, ih h2])
  | k es n l ih => intro w h; cases w <;> first | (cases h; done) | (obtain ⟨h1, h2⟩ := band h; obtain ⟨h2, h3⟩ := band h2; rw [Nat.eq_of_beq_eq_true h1, Nat.eq_of_beq_eq_true h2, ih h3])
  | y a => intro w h; cases w <;> first | (cases h; done) | (rw [Nat.eq_of_beq_eq_true h])
  | f a x y ihx ihy => intro w h; cases w <;> first | (cases h; done) | (obtain ⟨h1, h2⟩ := band h; obtain ⟨h2, h3⟩ := band h2; rw [Nat.eq_of_beq_eq_true h1, ihx h2, ihy h3])
  | q l ih => intro w h; cases w <;> first | (cases h; done) | (rw [ih h])
  | t l ih => intro w h; cases w <;> first | (cases h; done) | (rw [ih h])
  | c n l ih => intro w h; cases w <;> first | (cases h; done) | (obtain ⟨h1, h2⟩ := band h; rw [Nat.eq_of_beq_eq_true h1, ih h2])
  | nil => intro w h; cases w <;> first | (cases h; done) | rfl
  | cons x r ihx ihr => intro w h; cases w <;> first | (cases h; done) | (obtain ⟨h1, h2⟩ := band h; rw [ihx h1, ihr h2])
  | _ => intro w h; cases h

section
variable {P : Program} {hp : H} {nt : Nat} {f : F} {pu : PU} {ops : Array Oper}

def fillT (ds : List Nat) (t0 t : T) : T := ds.foldr (fun d u => setT u d (getT t d)) t0
theorem cPutD_eq (d : Nat) : cPutD d = .mk fun t1 t => setT t d (getT t1 d) := by
  unfold cPutD
  rw [selV_eq]
  simp only
  rw [selN_eq]
  rfl
theorem cNeed_eq (ds : List Nat) : cNeed ds = .mk (fillT ds) := by
  induction ds with
  | nil => rfl
  | cons d ds ih =>
    show (cNeed ds).rec (motive := fun _ => FL) (fun f => (cPutD d).rec (motive := fun _ => FL) fun p => .mk fun t0 t => p t (f t0 t)) = _
    rw [ih, cPutD_eq]
    rfl
theorem cPut_eq (dst : Option Tmp) : cPut dst = .mk fun t1 t => putT t dst (match dst with | none => undefV | some d => getT t1 d) := by
  cases dst with
  | none => rfl
  | some d => exact cPutD_eq d

/-- a step of the plan, and what it gave -/
structure PS where
  j : Nat
  o : Oper
  t : T
  h : H
  h' : H
  v : V
  loud : Bool
  ls : List H

structure OutOK (P : Program) (hp : H) (nt : Nat) (ops : Array Oper) (e : PS) : Prop where
  quiet : e.loud = false → Quiet P nt ops e.o e.t e.h e.h' e.v (fun σ w => e.ls = [] ∨ ∃ S ∈ e.ls, HeapOK σ S.cl w)
  loud_ : e.loud = true → e.h.nx ≤ e.h'.nx ∧ ∀ σ l a w, St P hp σ e.h w → TR σ nt e.t a.tmps → Fr σ e.h.nx e.h'.nx → Stp P l ops e.o a w fun a' w' => ∃ v', a' = a.put e.o.dst v' ∧ ∃ σ', SExt σ e.h w σ' e.h' w' ∧ HeapOK σ' e.h'.cl w' ∧ VR σ' e.v v'
  supp : (∀ cs c, e.o.op ≠ .select cs c) ∧ ∀ c, e.o.op ≠ .defer c

inductive Run (P : Program) (hp : H) (nt : Nat) (ops : Array Oper) (bm : List Nat) (t0 : T) : T → H → List H → List PE → List PS → T → H → Prop
  | nil {t h ss} : Run P hp nt ops bm t0 t h ss [] [] t h
  | cons {pe r t h ss e L t' h'} (hj : e.j = pe.j) (ho : e.o = pe.o) (hh : e.h = h) (ht : e.t = fillT (needsOf ops bm pe.j pe.o) t0 t) (ok : OutOK P hp nt ops e) (hl : e.loud = Nat.beq pe.kind 3)
      (hls : e.ls = if Nat.beq pe.kind 1 then ss.take (pe.back + 1) else []) (hls1 : pe.kind = 1 → pe.back + 1 ≤ ss.length) (rest : Run P hp nt ops bm t0 (putT t e.o.dst e.v) e.h' (if e.loud then e.h' :: ss else ss) r L t' h') : Run P hp nt ops bm t0 t h ss (pe :: r) (e :: L) t' h'

theorem agree_some {o : Oper} (hc : cls o.op = 1) (e : cOper pu P nt ops o = .mk f) {d : Nat} (hd : o.dst = some d) (h256 : d < 256) {ih : IH} {t : T} {v : V} {y : R} {r : Res} : ∀ {n : Nat} {ss : List H},
    agree f ih t (fun t => getT t d) v n ss y = some r → n ≤ ss.length ∧ y = some r ∧ ∀ S ∈ ss.take n, ∀ h, Quiet P nt ops o t h h v fun σ w => HeapOK σ S.cl w
  | 0, ss, er => ⟨Nat.zero_le _, er, fun S hS => by simp at hS⟩
  | n + 1, [], er => by cases er
  | n + 1, S0 :: ss, er => by
    have er : f ih t S0 (fun t2 _ => bi (eqV (getT t2 d) v) (agree f ih t (fun t => getT t d) v n ss y)) = some r := er
    obtain ⟨v', e1, q⟩ := quiet_look hc e er
    obtain ⟨h1, e2⟩ := bi_some.1 e1
    have hv : v' = v := by
      have := eqV_ok h1
      rw [hd] at this
      rw [← this]
      show v' = getT (setT t d v') d
      rw [getT_setT _ _ _ _ h256 h256, if_pos rfl]
    subst hv
    obtain ⟨g1, g2, g3⟩ := agree_some hc e hd h256 e2
    refine ⟨by simp; omega, g2, fun S hS h => ?_⟩
    rw [List.take_succ_cons] at hS
    rcases List.mem_cons.1 hS with rfl | hS
    · exact q h
    · exact g3 S hS h

theorem Quiet.or {o : Oper} {t : T} {h h' : H} {v : V} {Z : Sg → World → Prop} (q : ∀ σ w, Z σ w → ∃ Y : Sg → World → Prop, Y σ w ∧ Quiet P nt ops o t h h' v Y) (nx : h.nx ≤ h'.nx ∧ h'.nx ≤ h.nx + 1)
    (cl : h'.cl = fun x => if h'.nx = h.nx + 1 ∧ x = h.nx then h'.cl x else h.cl x) : Quiet P nt ops o t h h' v Z :=
  ⟨nx, cl, fun σ l a w cx ht hf hz => let ⟨_, hy, g⟩ := q σ w hz; g.step σ l a w cx ht hf hy⟩

theorem cls_select {op : Op} (h : cls op ≠ 3) : ∀ cs c, op ≠ .select cs c := fun cs c e => by subst e; exact h rfl

theorem supp_of {op : Op} (h : plainOp op = true) : (∀ cs c, op ≠ .select cs c) ∧ ∀ c, op ≠ .defer c := ⟨fun cs c e => (by subst e; cases h), fun c e => (by subst e; cases h)⟩

theorem run_some (hpo : HpOK P hp) (hpu : PUOK P hp pu) {bm : List Nat} {t0 : T} {ih : IH} (hih : IHOK P hp ih) : ∀ {l : List PE} {f : FD}, cPlan pu P nt ops bm l = .mk f → (∀ e ∈ l, (e.kind = cls e.o.op ∨ e.kind = 3) ∧ (∀ d, e.o.dst = some d → d < 256) ∧ plainOp e.o.op = true) →
    ∀ {t h ss k r}, f ih t0 t h ss k = some r → ∃ L t' h', Run P hp nt ops bm t0 t h ss l L t' h' ∧ k t' h' = some r
  | [], f, e, hl, t, h, ss, k, r, er => by cases e; exact ⟨[], t, h, .nil, er⟩
  | ⟨j, o, kind, back⟩ :: l, f, e, hl, t, h, ss, k, r, er => by
    obtain ⟨hk, hd256, hpl⟩ := hl _ (List.mem_cons_self ..)
    have hl' := fun e he => hl e (List.mem_cons_of_mem _ he)
    cases hc : cPlan pu P nt ops bm l with | mk nx =>
    cases ho : cOper pu P nt ops o with | mk fo =>
    have e : (cPlan pu P nt ops bm l).rec (motive := fun _ => CD) (fun nx => (cOper pu P nt ops o).rec (motive := fun _ => CD) fun f => (cNeed (needsOf ops bm j o)).rec (motive := fun _ => CD) fun fl => (cPut o.dst).rec (motive := fun _ => CD) fun pt => cStepK f fl pt o.dst kind back nx) = .mk f := e
    rw [hc, ho, cNeed_eq, cPut_eq] at e
    have hpt : ∀ (u t : T) (v : V), putT t o.dst (match o.dst with | none => undefV | some d => getT (putT u o.dst v) d) = putT t o.dst v := fun u t v => by
      cases hd : o.dst with
      | none => rfl
      | some d =>
        show setT t d (getT (setT u d v) d) = setT t d v
        rw [getT_setT _ _ _ _ (hd256 d hd) (hd256 d hd), if_pos rfl]
    obtain ⟨tm, htm⟩ : ∃ tm, tm = fillT (needsOf ops bm j o) t0 t := ⟨_, rfl⟩
    match kind, hk, e with
    | 0, hk, e =>
      cases e
      obtain ⟨v, e1, q⟩ := quiet_pure (hk.resolve_right (fun h => nomatch (show (0 : Nat) = 3 from h))).symm ho (show fo ih (fillT (needsOf ops bm j o) t0 t) h _ = some r from er)
      simp only [hpt] at e1
      obtain ⟨L, t', h', g1, g2⟩ := run_some hpo hpu hih hc hl' e1
      exact ⟨⟨j, o, tm, h, h, v, false, []⟩ :: L, t', h', .cons rfl rfl rfl htm ⟨fun _ => by rw [htm]; exact q _, fun h => (by cases h), supp_of hpl⟩ rfl rfl (fun h => (by cases h)) g1, g2⟩
    | 1, hk, e =>
      have hk1 : cls o.op = 1 := (hk.resolve_right (fun h => nomatch (show (1 : Nat) = 3 from h))).symm
      have e : o.dst.rec (motive := fun _ => CD) failD (fun d => cLook fo (fillT (needsOf ops bm j o)) (fun t1 t => putT t o.dst (match o.dst with | none => undefV | some d => getT t1 d)) back nx d) = .mk f := e
      cases hdst : o.dst with
      | none =>
        simp only [hdst] at e
        cases e
        cases er
      | some d =>
        have hd : d < 256 := hd256 d hdst
        simp only [hdst] at e
        unfold cLook at e
        rw [selV_eq] at e
        simp only at e
        rw [selN_eq] at e
        cases e
        cases ss with
        | nil => cases er
        | cons S0 ss =>
          have er : fo ih (fillT (needsOf ops bm j o) t0 t) S0 (fun t1 _ => agree fo ih (fillT (needsOf ops bm j o) t0 t) (fun t => getT t d) (getT t1 d) back ss (nx ih t0 (putT t (some d) (getT t1 d)) h (S0 :: ss) k)) = some r := er
          obtain ⟨v, e1, q⟩ := quiet_look hk1 ho er
          rw [hdst] at e1
          have hget : getT (putT (fillT (needsOf ops bm j o) t0 t) (some d) v) d = v := by
            show getT (setT _ d v) d = v
            rw [getT_setT _ _ _ _ hd hd, if_pos rfl]
          rw [hget] at e1
          obtain ⟨g1, e2, g3⟩ := agree_some hk1 ho hdst hd e1
          obtain ⟨L, t', h', g4, g5⟩ := run_some hpo hpu hih hc hl' e2
          refine ⟨⟨j, o, tm, h, h, v, false, (S0 :: ss).take (back + 1)⟩ :: L, t', h', .cons rfl rfl rfl htm ⟨fun _ => ?_, fun h => (by cases h), supp_of hpl⟩ rfl rfl (fun _ => by simp; omega) (by rw [hdst]; exact g4), g5⟩
          rw [htm]
          refine Quiet.or (fun σ w hz => ?_) ⟨Nat.le_refl _, Nat.le_succ _⟩ (by funext x; rw [if_neg (by simp)])
          rcases hz with hz | ⟨S, hS, ok⟩
          · simp at hz
          · rw [List.take_succ_cons] at hS
            rcases List.mem_cons.1 hS with rfl | hS
            · exact ⟨_, ok, q h⟩
            · exact ⟨_, ok, g3 S hS h⟩
    | 2, hk, e =>
      cases e
      obtain ⟨v, h1, e1, q⟩ := quiet_new (hk.resolve_right (fun h => nomatch (show (2 : Nat) = 3 from h))).symm ho (show fo ih (fillT (needsOf ops bm j o) t0 t) h _ = some r from er)
      simp only [hpt] at e1
      obtain ⟨L, t', h', g1, g2⟩ := run_some hpo hpu hih hc hl' e1
      exact ⟨⟨j, o, tm, h, h1, v, false, []⟩ :: L, t', h', .cons rfl rfl rfl htm ⟨fun _ => by rw [htm]; exact q _, fun h => (by cases h), supp_of hpl⟩ rfl rfl (fun h => (by cases h)) g1, g2⟩
    | n + 3, hk, e =>
      cases e
      obtain ⟨v, h1, e1, e2, e3⟩ := cOper_ok (hp := hp) hpo hpu ho ih hih (fillT (needsOf ops bm j o) t0 t) h _ r er
      simp only [hpt] at e1
      have hn : n = 0 := by
        have : ∀ op : Op, cls op ≤ 3 := fun op => by
          cases op <;> try (exact Nat.le_refl _)
          all_goals try (exact (by decide : (0:Nat) ≤ 3))
          all_goals try (exact (by decide : (1:Nat) ≤ 3))
          all_goals try (exact (by decide : (2:Nat) ≤ 3))
          rename_i c
          obtain ⟨callee, args, tys⟩ := c
          cases callee
          · exact Nat.le_refl _
          · exact Nat.le_refl _
          · rename_i b
            cases b <;> first | (exact (by decide : (0:Nat) ≤ 3)) | (exact Nat.le_refl _)
        have h3 := this o.op
        rcases hk with hk | hk
        · have hk : n + 3 = cls o.op := hk
          omega
        · have hk : n + 3 = 3 := hk
          omega
      subst hn
      obtain ⟨L, t', h', g1, g2⟩ := run_some hpo hpu hih hc hl' e1
      refine ⟨⟨j, o, tm, h, h1, v, true, []⟩ :: L, t', h', .cons rfl rfl rfl htm ⟨fun h => (by cases h), fun _ => ⟨e2, ?_⟩, supp_of hpl⟩ rfl rfl (fun h => (by cases h)) g1, g2⟩
      rw [htm]
      intro σ l a w st ht fr K Q hk'
      exact e3 σ l a w st ht fr K Q fun a' w' ⟨v', σ', x1, x2, x3, x4⟩ => hk' a' w' ⟨v', x1, σ', x2, x3, x4⟩
end
end Go.Ev
namespace Go.Ev

/-! ### the masks -/
theorem orAll_bit {bm : List Nat} {x : Nat} : ∀ {ds : List Nat}, (orAll bm ds).testBit x = true → ∃ d ∈ ds, d = x ∨ (nthD 0 bm d).testBit x = true
  | [], h => by simp [orAll] at h
  | d :: ds, h => by
    have h : (Nat.lor (Nat.lor (onBit d) (nthD 0 bm d)) (orAll bm ds)).testBit x = true := h
    rw [show ∀ a b, Nat.lor a b = a ||| b from fun _ _ => rfl, show ∀ a b, Nat.lor a b = a ||| b from fun _ _ => rfl, Nat.testBit_or, Nat.testBit_or] at h
    rcases (Bool.or_eq_true _ _).mp h with h | h
    · rcases (Bool.or_eq_true _ _).mp h with h | h
      · refine ⟨d, List.mem_cons_self .., .inl ?_⟩
        have : (2 ^ d).testBit x = true := h
        rw [Nat.testBit_two_pow] at this
        simpa using this
      · exact ⟨d, List.mem_cons_self .., .inr h⟩
    · obtain ⟨d', h1, h2⟩ := orAll_bit h
      exact ⟨d', List.mem_cons_of_mem _ h1, h2⟩

def masksFrom (bm : List Nat) (l : List Oper) : List Nat := l.foldl (fun bm o => bm ++ [orAll bm (deps o)]) bm
theorem masksFrom_pre : ∀ (l : List Oper) (bm : List Nat), ∃ r, masksFrom bm l = bm ++ r ∧ r.length = l.length ∧ ∀ i o, l[i]? = some o → ∀ x, (nthD 0 (bm ++ r) (bm.length + i)).testBit x = true → ∃ d ∈ deps o, d = x ∨ (d < bm.length + i ∧ (nthD 0 (bm ++ r) d).testBit x = true)
  | [], bm => ⟨[], by simp [masksFrom], rfl, fun i o h => by simp at h⟩
  | o :: l, bm => by
    obtain ⟨r, h1, h2, h3⟩ := masksFrom_pre l (bm ++ [orAll bm (deps o)])
    refine ⟨orAll bm (deps o) :: r, ?_, by simp [h2], fun i o' hi x hx => ?_⟩
    · show masksFrom (bm ++ [orAll bm (deps o)]) l = _
      rw [h1]; simp
    · have e : bm ++ orAll bm (deps o) :: r = (bm ++ [orAll bm (deps o)]) ++ r := by simp
      cases i with
      | zero =>
        rw [List.getElem?_cons_zero] at hi
        cases hi
        have hn : nthD 0 (bm ++ orAll bm (deps o) :: r) (bm.length + 0) = orAll bm (deps o) := by simp [nthD]
        rw [hn] at hx
        obtain ⟨d, hd, hh⟩ := orAll_bit hx
        refine ⟨d, hd, hh.imp id fun hb => ?_⟩
        have hlt : d < bm.length := by
          rcases Nat.lt_or_ge d bm.length with h | h
          · exact h
          · have : nthD 0 bm d = 0 := by simp [nthD, List.getElem?_eq_none h]
            rw [this] at hb; simp at hb
        refine ⟨by omega, ?_⟩
        have : nthD 0 (bm ++ orAll bm (deps o) :: r) d = nthD 0 bm d := by simp [nthD, List.getElem?_append_left hlt]
        rw [this]; exact hb
      | succ i =>
        rw [List.getElem?_cons_succ] at hi
        have := h3 i o' hi x (by rw [← e]; simpa [Nat.add_assoc, Nat.add_comm 1 i] using hx)
        rw [← e] at this
        simpa [Nat.add_assoc, Nat.add_comm 1 i] using this
theorem masks_spec {l : List Oper} {i : Nat} {o : Oper} (hi : l[i]? = some o) {x : Nat} (hx : (nthD 0 (masks l) i).testBit x = true) : ∃ d ∈ deps o, d = x ∨ (d < i ∧ (nthD 0 (masks l) d).testBit x = true) := by
  obtain ⟨r, h1, h2, h3⟩ := masksFrom_pre l []
  have hm : masks l = [] ++ r := h1
  rw [hm] at hx ⊢
  have := h3 i o hi x (by simpa using hx)
  simpa using this

/-- what is closed under 'must stand ahead' holds the mask of what it is ready for -/
theorem mask_closed {l : List Oper} {D : Nat → Bool} (hc : ∀ i, D i = true → ∀ o, l[i]? = some o → ∀ d ∈ deps o, D d = true) : ∀ (i : Nat) (o : Oper), l[i]? = some o → (∀ d ∈ deps o, D d = true) →
    ∀ x, (nthD 0 (masks l) i).testBit x = true → D x = true := by
  intro i
  induction i using Nat.strongRecOn with
  | _ i ih =>
    intro o hi hd x hx
    obtain ⟨d, h1, h2⟩ := masks_spec hi hx
    rcases h2 with rfl | ⟨hlt, hb⟩
    · exact hd _ h1
    · have hlen : d < l.length := Nat.lt_trans hlt (List.getElem?_eq_some_iff.1 hi).1
      exact ih d hlt l[d] (List.getElem?_eq_getElem hlen) (hc d (hd d h1) _ (List.getElem?_eq_getElem hlen)) x hb

/-! ### the plan's entries -/
theorem plan_spec (l : List Oper) : ∀ e ∈ plan l, l[e.j]? = some e.o := by
  show ∀ e ∈ planW l (kinds l), _
  generalize kinds l = ks
  unfold planW
  have : ∀ (is : List Nat) (q : List Nat × List PE), (∀ e ∈ q.2, l[e.j]? = some e.o) → ∀ e ∈ (is.foldl (fun (q : List Nat × List PE) j => match l[j]? with
    | some o => (if Nat.beq (nthD 0 ks j) 3 then j :: q.1 else q.1, q.2 ++ [⟨j, o, nthD 0 ks j, backs (masks l) j q.1⟩])
    | none => q) q).2, l[e.j]? = some e.o := by
    intro is
    induction is with
    | nil => exact fun q h => h
    | cons j is ih =>
      intro q hq
      rw [List.foldl_cons]
      refine ih _ ?_
      cases hj : l[j]? with
      | none => exact hq
      | some o =>
        intro e he
        rcases List.mem_append.1 he with he | he
        · exact hq e he
        · rw [List.mem_singleton.1 he]; exact hj
  exact this _ _ fun e he => by cases he

section
variable {P : Program} {hp : H} {nt : Nat} {ops : Array Oper} {bm : List Nat} {t0 : T}

/-- what the check of the plan says of a step, with those ahead of it -/
structure StepOK (l : List Oper) (bm : List Nat) (pre : List PS) (e : PS) (back : Nat) : Prop where
  new : ∀ y ∈ pre, y.j ≠ e.j
  deps_ : ∀ d ∈ deps e.o, ∃ y ∈ pre, y.j = d
  loud : e.loud = true → ∀ y ∈ pre, (nthD 0 bm e.j).testBit y.j = true

/-- the louds among those gone through, the last ahead -/
def loudsOf (pre : List PS) : List PS := (pre.filter (·.loud)).reverse

structure Good (l : List Oper) (bm : List Nat) (h0 : H) (L : List PS) : Prop where
  at_ : ∀ e ∈ L, l[e.j]? = some e.o
  all : ∀ i, i < l.length → ∃ e ∈ L, e.j = i
  step : ∀ L1 e L2, L = L1 ++ e :: L2 → (∀ y ∈ L1, y.j ≠ e.j) ∧ (∀ d ∈ deps e.o, ∃ y ∈ L1, y.j = d) ∧ (e.loud = true → ∀ y ∈ L1, (nthD 0 bm e.j).testBit y.j = true) ∧
    (e.ls = [] ∨ ∃ back, e.ls = ((loudsOf L1).map (·.h') ++ [h0]).take (back + 1) ∧ back ≤ (loudsOf L1).length ∧ ∀ x, (loudsOf L1)[back]? = some x → (nthD 0 bm e.j).testBit x.j = true)

theorem run_good {l : List Oper} {h0 : H} : ∀ {pl : List PE} {L pre : List PS} {t h ss t' h' done ls}, Run P hp nt ops bm t0 t h ss pl L t' h' → planOk ops l bm pl done ls = true → (∀ e ∈ pl, l[e.j]? = some e.o) →
    (∀ i, done.testBit i = true ↔ ∃ y ∈ pre, y.j = i) → ls = (loudsOf pre).map (·.j) → ss = (loudsOf pre).map (·.h') ++ [h0] →
    (∀ e ∈ L, l[e.j]? = some e.o) ∧ (∀ i, i < l.length → ∃ e ∈ pre ++ L, e.j = i) ∧ ∀ L1 e L2, L = L1 ++ e :: L2 → (∀ y ∈ pre ++ L1, y.j ≠ e.j) ∧ (∀ d ∈ deps e.o, ∃ y ∈ pre ++ L1, y.j = d) ∧ (e.loud = true → ∀ y ∈ pre ++ L1, (nthD 0 bm e.j).testBit y.j = true) ∧
      (e.ls = [] ∨ ∃ back, e.ls = ((loudsOf (pre ++ L1)).map (·.h') ++ [h0]).take (back + 1) ∧ back ≤ (loudsOf (pre ++ L1)).length ∧ ∀ x, (loudsOf (pre ++ L1))[back]? = some x → (nthD 0 bm e.j).testBit x.j = true) := by
  intro pl
  induction pl with
  | nil =>
    intro L pre t h ss t' h' done ls hr hpk hat hd hls hss
    cases hr
    refine ⟨fun e he => (by cases he), fun i hi => ?_, fun L1 e L2 he => by simp at he⟩
    have hpk : (List.range l.length).all (fun i => done.testBit i) = true := hpk
    have := List.all_eq_true.1 hpk i (List.mem_range.2 hi)
    obtain ⟨y, h1, h2⟩ := (hd i).1 this
    exact ⟨y, by simpa using h1, h2⟩
  | cons pe pl ih =>
    intro L pre t h ss t' h' done ls hr hpk hat hd hls hss
    cases hr with
    | @cons _ _ _ _ _ e L _ _ hj ho hh ht ok hl hels hls1 rest =>
    have hpk : ((match l[pe.j]? with | some _ => true | none => false) && !done.testBit pe.j && (Nat.beq pe.kind (cls pe.o.op) || Nat.beq pe.kind 3) && (deps pe.o).all (fun d => done.testBit d) && (!Nat.beq pe.kind 3 || Nat.beq (Nat.land done (nthD 0 bm pe.j)) done) &&
      (!Nat.beq pe.kind 1 || (Nat.ble pe.back ls.length && (match ls.drop pe.back with | [] => true | x :: _ => (nthD 0 bm pe.j).testBit x))) && planOk ops l bm pl (Nat.lor done (onBit pe.j)) (if Nat.beq pe.kind 3 then pe.j :: ls else ls)) = true := hpk
    simp only [Bool.and_eq_true] at hpk
    obtain ⟨⟨⟨⟨⟨⟨p1, p2⟩, p3⟩, p4⟩, p5⟩, p6⟩, p7⟩ := hpk
    have hpre : loudsOf (pre ++ [e]) = if e.loud then e :: loudsOf pre else loudsOf pre := by
      unfold loudsOf
      rw [List.filter_append, List.reverse_append]
      cases he : e.loud <;> simp [List.filter, he]
    have hdone : ∀ i, (Nat.lor done (onBit pe.j)).testBit i = true ↔ ∃ y ∈ pre ++ [e], y.j = i := fun i => by
      rw [show ∀ a b, Nat.lor a b = a ||| b from fun _ _ => rfl, Nat.testBit_or, Bool.or_eq_true, hd i]
      rw [show onBit pe.j = 2 ^ pe.j from rfl, Nat.testBit_two_pow]
      constructor
      · rintro (⟨y, h1, h2⟩ | h1)
        · exact ⟨y, List.mem_append_left _ h1, h2⟩
        · exact ⟨e, by simp, by rw [hj]; simpa using h1⟩
      · rintro ⟨y, h1, h2⟩
        rcases List.mem_append.1 h1 with h1 | h1
        · exact .inl ⟨y, h1, h2⟩
        · rw [List.mem_singleton.1 h1] at h2
          exact .inr (by rw [← hj, h2]; simp)
    have hlse : (if Nat.beq pe.kind 3 then pe.j :: ls else ls) = (loudsOf (pre ++ [e])).map (·.j) := by
      rw [hpre, ← hl]
      cases e.loud <;> simp [hls, hj]
    have hsse : (if e.loud then e.h' :: ss else ss) = (loudsOf (pre ++ [e])).map (·.h') ++ [h0] := by
      rw [hpre]
      cases e.loud <;> simp [hss]
    obtain ⟨g1, g2, g3⟩ := ih (pre := pre ++ [e]) rest p7 (fun x hx => hat x (List.mem_cons_of_mem _ hx)) hdone hlse hsse
    have hate : l[e.j]? = some e.o := by rw [hj, ho]; exact hat pe (List.mem_cons_self ..)
    refine ⟨fun x hx => ?_, fun i hi => ?_, fun L1 x L2 hx => ?_⟩
    · rcases List.mem_cons.1 hx with rfl | hx
      · exact hate
      · exact g1 x hx
    · obtain ⟨y, h1, h2⟩ := g2 i hi
      exact ⟨y, by simpa using h1, h2⟩
    · cases L1 with
      | nil =>
        obtain ⟨rfl, rfl⟩ := List.cons.inj hx
        rw [List.append_nil]
        refine ⟨fun y hy hyj => ?_, fun d hd' => ?_, fun hloud y hy => ?_, ?_⟩
        · have := (hd pe.j).2 ⟨y, hy, by rw [hyj, hj]⟩
          rw [this] at p2; cases p2
        · rw [ho] at hd'
          exact (hd d).1 (List.all_eq_true.1 p4 d hd')
        · rw [hl] at hloud
          rw [hloud] at p5
          have p5 : Nat.land done (nthD 0 bm pe.j) = done := Nat.eq_of_beq_eq_true (by simpa using p5)
          have hb := (hd y.j).2 ⟨y, hy, rfl⟩
          rw [← p5, show ∀ a b, Nat.land a b = a &&& b from fun _ _ => rfl, Nat.testBit_and, Bool.and_eq_true] at hb
          rw [hj]; exact hb.2
        · cases hk : Nat.beq pe.kind 1 with
          | false => exact .inl (by rw [hels, hk]; rfl)
          | true =>
            refine .inr ⟨pe.back, by rw [hels, hk, hss]; rfl, ?_⟩
            rw [hk] at p6
            have p6 : Nat.ble pe.back ls.length = true ∧ (match ls.drop pe.back with | [] => true | x :: _ => (nthD 0 bm pe.j).testBit x) = true := by simpa using p6
            have hbl : pe.back ≤ ls.length := Nat.le_of_ble_eq_true p6.1
            rw [hls, List.length_map] at hbl
            refine ⟨hbl, fun x hx => ?_⟩
            have hx2 : ls[pe.back]? = some x.j := by rw [hls, List.getElem?_map, hx]; rfl
            have hlt : pe.back < ls.length := (List.getElem?_eq_some_iff.1 hx2).1
            have hp := p6.2
            rw [List.drop_eq_getElem_cons hlt] at hp
            rw [List.getElem?_eq_getElem hlt] at hx2
            rw [hj, ← Option.some.inj hx2]
            exact hp
      | cons y L1 =>
        obtain ⟨hey, hx2⟩ := List.cons.inj hx
        subst hey
        have := g3 L1 x L2 hx2
        simpa using this
end
end Go.Ev
namespace Go.Ev
section
variable {P : Program} {hp : H} {nt : Nat} {ops : Array Oper} {bm : List Nat} {t0 : T}

theorem OutOK.nx {e : PS} (ok : OutOK P hp nt ops e) : e.h.nx ≤ e.h'.nx := by
  cases h : e.loud with
  | false => exact (ok.quiet h).nx.1
  | true => exact (ok.loud_ h).1

theorem Run.nx {t h ss pl L t' h'} (r : Run P hp nt ops bm t0 t h ss pl L t' h') : h.nx ≤ h'.nx ∧ ∀ e ∈ L, h.nx ≤ e.h.nx ∧ e.h.nx ≤ e.h'.nx ∧ e.h'.nx ≤ h'.nx := by
  induction r with
  | nil => exact ⟨Nat.le_refl _, fun e he => (by cases he)⟩
  | @cons pe rr t h ss e L t' h' hj ho hh ht ok hl hls hls1 rest ih =>
    have h1 := ok.nx
    rw [hh] at h1
    refine ⟨Nat.le_trans h1 ih.1, fun x hx => ?_⟩
    rcases List.mem_cons.1 hx with rfl | hx
    · exact ⟨by rw [hh]; exact Nat.le_refl _, by rw [hh]; exact h1, ih.1⟩
    · obtain ⟨a, b, c⟩ := ih.2 x hx
      exact ⟨Nat.le_trans h1 a, b, c⟩
theorem Run.ok {t h ss pl L t' h'} (r : Run P hp nt ops bm t0 t h ss pl L t' h') : ∀ e ∈ L, OutOK P hp nt ops e := by
  induction r with
  | nil => exact fun e he => (by cases he)
  | @cons pe rr t h ss e L t' h' hj ho hh ht ok hl hls hls1 rest ih =>
    intro x hx
    rcases List.mem_cons.1 hx with rfl | hx
    · exact ok
    · exact ih x hx

theorem Run.split {t h ss pl L1 L2 t' h'} (r : Run P hp nt ops bm t0 t h ss pl (L1 ++ L2) t' h') : ∃ pl1 pl2 t1 h1 ss1, Run P hp nt ops bm t0 t h ss pl1 L1 t1 h1 ∧ Run P hp nt ops bm t0 t1 h1 ss1 pl2 L2 t' h' := by
  induction L1 generalizing t h ss pl with
  | nil => exact ⟨[], pl, t, h, ss, .nil, r⟩
  | cons x L1 ih =>
    cases r with
    | @cons pe rr _ _ _ e L _ _ hj ho hh ht ok hl hls hls1 rest =>
      obtain ⟨pl1, pl2, t1, h1, ss1, a, b⟩ := ih rest
      exact ⟨pe :: pl1, pl2, t1, h1, ss1, .cons hj ho hh ht ok hl hls hls1 a, b⟩

/-- what a step does to the claims -/
def eff (D : Nat → Bool) (c : Cm) (e : PS) : Cm := if D e.j then (if e.loud then e.h'.cl else fun id => if e.h'.nx = e.h.nx + 1 ∧ id = e.h.nx then e.h'.cl id else c id) else c
def clm (D : Nat → Bool) (c : Cm) (L : List PS) : Cm := L.foldl (eff D) c

theorem clm_low {D : Nat → Bool} {m : Nat} {id : Nat} (hid : id < m) : ∀ {L : List PS} {c : Cm}, (∀ e ∈ L, m ≤ e.h.nx) → (∀ e ∈ L, e.loud = true → D e.j = false) → clm D c L id = c id
  | [], c, _, _ => rfl
  | e :: L, c, hm, hl => by
    show clm D (eff D c e) L id = c id
    rw [clm_low hid (fun x hx => hm x (List.mem_cons_of_mem _ hx)) fun x hx => hl x (List.mem_cons_of_mem _ hx)]
    unfold eff
    have h1 := hm e (List.mem_cons_self ..)
    cases hd : D e.j with
    | false => rfl
    | true =>
      cases hlo : e.loud with
      | true => have := hl e (List.mem_cons_self ..) hlo; rw [hd] at this; cases this
      | false => simp only [if_true, Bool.false_eq_true, if_false]; rw [if_neg (by omega)]
theorem clm_same {D : Nat → Bool} {id : Nat} : ∀ {L : List PS} {c c' : Cm}, (∀ e ∈ L, e.loud = true → D e.j = false) → c id = c' id → clm D c L id = clm D c' L id
  | [], c, c', _, h => h
  | e :: L, c, c', hl, h => by
    show clm D (eff D c e) L id = clm D (eff D c' e) L id
    refine clm_same (fun x hx => hl x (List.mem_cons_of_mem _ hx)) ?_
    unfold eff
    cases hd : D e.j with
    | false => exact h
    | true =>
      cases hlo : e.loud with
      | true => have := hl e (List.mem_cons_self ..) hlo; rw [hd] at this; cases this
      | false =>
        simp only [if_true, Bool.false_eq_true, if_false]
        split
        · rfl
        · exact h
theorem clm_append {D : Nat → Bool} {c : Cm} {L1 L2 : List PS} : clm D c (L1 ++ L2) = clm D (clm D c L1) L2 := List.foldl_append
theorem clm_cons {D : Nat → Bool} {c : Cm} {e : PS} {L : List PS} : clm D c (e :: L) = clm D (eff D c e) L := rfl
theorem eff_done {D : Nat → Bool} {e : PS} (ok : OutOK P hp nt ops e) (hd : D e.j = true) : eff D e.h.cl e = e.h'.cl := by
  unfold eff
  rw [if_pos hd]
  cases hl : e.loud with
  | true => rfl
  | false =>
    simp only [Bool.false_eq_true, if_false]
    exact (ok.quiet hl).cl.symm
theorem clm_all {D : Nat → Bool} {t h ss pl L t' h'} (r : Run P hp nt ops bm t0 t h ss pl L t' h') (hd : ∀ e ∈ L, D e.j = true) : clm D h.cl L = h'.cl := by
  induction r with
  | nil => rfl
  | @cons pe rr t h ss e L t' h' hj ho hh ht ok hl hls hls1 rest ih =>
    rw [clm_cons, ← hh, eff_done ok (hd e (List.mem_cons_self ..))]
    exact ih fun x hx => hd x (List.mem_cons_of_mem _ hx)
/-- only who is asked counts -/
theorem clm_congr {D D' : Nat → Bool} : ∀ {L : List PS} {c : Cm}, (∀ e ∈ L, D e.j = D' e.j) → clm D c L = clm D' c L
  | [], c, _ => rfl
  | e :: L, c, h => by
    rw [clm_cons, clm_cons, clm_congr fun x hx => h x (List.mem_cons_of_mem _ hx)]
    unfold eff
    rw [h e (List.mem_cons_self ..)]

/-- the temporaries that the plan lays -/
theorem Run.temps {t h ss pl L t' h'} (r : Run P hp nt ops bm t0 t h ss pl L t' h') (h256 : ∀ e ∈ L, ∀ d, e.o.dst = some d → d < 256) (hp : L.Pairwise fun e e' => ∀ d, e.o.dst = some d → e'.o.dst ≠ some d) :
    (∀ e ∈ L, ∀ d, e.o.dst = some d → getT t' d = e.v) ∧ ∀ x, x < 256 → (∀ e ∈ L, e.o.dst ≠ some x) → getT t' x = getT t x := by
  induction r with
  | nil => exact ⟨fun e he => (by cases he), fun _ _ _ => rfl⟩
  | @cons pe rr t h ss e L t' h' hj ho hh ht ok hl hls hls1 rest ih =>
    obtain ⟨p1, p2⟩ := List.pairwise_cons.1 hp
    obtain ⟨g1, g2⟩ := ih (fun x hx => h256 x (List.mem_cons_of_mem _ hx)) p2
    refine ⟨fun x hx d hd => ?_, fun x hx hne => ?_⟩
    · rcases List.mem_cons.1 hx with rfl | hx
      · have hd256 := h256 x (List.mem_cons_self ..) d hd
        rw [g2 d hd256 fun y hy => p1 y hy d hd, hd]
        show getT (setT t d x.v) d = x.v
        rw [getT_setT _ _ _ _ hd256 hd256, if_pos rfl]
      · exact g1 x hx d hd
    · rw [g2 x hx fun y hy => hne y (List.mem_cons_of_mem _ hy)]
      have hne1 := hne e (List.mem_cons_self ..)
      cases hdst : e.o.dst with
      | none => rfl
      | some d =>
        have hd256 := h256 e (List.mem_cons_self ..) d hdst
        show getT (setT t d e.v) x = getT t x
        rw [getT_setT _ _ _ _ hd256 hx, if_neg (fun h => hne1 (by rw [hdst, h]))]
theorem fillT_at {ds : List Nat} (h : ∀ d ∈ ds, d < 256) {t0 t : T} {x : Nat} (hx : x < 256) : (x ∈ ds → getT (fillT ds t0 t) x = getT t x) ∧ (x ∉ ds → getT (fillT ds t0 t) x = getT t0 x) := by
  induction ds with
  | nil => exact ⟨fun h => (by cases h), fun _ => rfl⟩
  | cons d ds ih =>
    obtain ⟨g1, g2⟩ := ih fun y hy => h y (List.mem_cons_of_mem _ hy)
    have hd := h d (List.mem_cons_self ..)
    have e : fillT (d :: ds) t0 t = setT (fillT ds t0 t) d (getT t d) := rfl
    rw [e, getT_setT _ _ _ _ hd hx]
    by_cases hxd : x = d
    · rw [if_pos hxd, hxd]
      exact ⟨fun _ => rfl, fun hn => absurd (List.mem_cons_self ..) hn⟩
    · rw [if_neg hxd]
      exact ⟨fun hm => g1 ((List.mem_cons.1 hm).resolve_left hxd), fun hn => g2 fun hm => hn (List.mem_cons_of_mem _ hm)⟩
end

/-! ### merging -/
/-- a block of one's own -/
theorem HeapOK.newC {σ : Sg} {c c' : Cm} {w : World} (ok : HeapOK σ c w) {id : Nat} {b : B} {o : Obj} {sz : Nat} (free : σ id = none)
    (hc : c' = fun x => if x = id then b else c x) (hb : BOK (newSg σ id w.heap.size sz) b sz o) : HeapOK (newSg σ id w.heap.size sz) c' (w.alloc o) ∧ Ext σ c w (newSg σ id w.heap.size sz) c' (w.alloc o) := by
  have up := newSg_up (b := w.heap.size) (sz := sz) free
  have old : ∀ x, x ≠ id → newSg σ id w.heap.size sz x = σ x := fun x hx => by simp [newSg, hx]
  have hdead : c id = .dead := by
    by_cases hd : c id = .dead
    · exact hd
    · obtain ⟨b', sz', o', h1, _⟩ := ok.ok _ hd
      rw [free] at h1; cases h1
  subst hc
  refine ⟨⟨fun x hx => ?_, fun x y b1 s1 s2 h1 h2 e1 e2 => ?_, fun x C hf => by
    obtain ⟨⟨e, fr, g1⟩, g2⟩ := ok.fz x C hf
    have hx := (Array.getElem?_eq_some_iff.1 g1).1
    refine ⟨⟨e, fr, by rw [alloc_old hx]; exact g1⟩, fun i z hd e1 => ?_⟩
    by_cases a : i = id
    · subst a; rw [newSg_at] at e1; obtain ⟨rfl, rfl⟩ := Prod.mk.inj (Option.some.inj e1); omega
    · simp only [if_neg a] at hd; rw [old _ a] at e1; exact g2 _ _ hd e1⟩, ⟨up, by simp, fun b' hb' _ => alloc_old hb', fun x b' sz' h1 e1 hb' => ?_, fun x n l he => ?_, ⟨rfl, rfl, rfl⟩, fun _ _ _ _ _ _ _ hb' => alloc_old hb', fun _ _ h1 h2 _ => absurd (h2.symm.trans h1) (fun h => nomatch h), fun _ _ _ _ _ _ _ _ h => h⟩⟩
  · by_cases e : x = id
    · subst e
      simp only [if_true]
      exact ⟨_, _, o, newSg_at _ _ _ _, alloc_new _ _, hb⟩
    · simp only [if_neg e] at hx ⊢
      obtain ⟨b', sz', o', g1, g2, g3⟩ := ok.ok x hx
      exact ⟨b', sz', o', by rw [old x e]; exact g1, by rw [alloc_old (ok.lt hx g1)]; exact g2, g3.mono up⟩
  · by_cases ex : x = id <;> by_cases ey : y = id
    · rw [ex, ey]
    · subst ex
      rw [newSg_at] at e1
      rw [old y ey] at e2
      simp only [if_neg ey] at h2
      have := ok.lt h2 e2
      cases e1
      omega
    · subst ey
      rw [newSg_at] at e2
      rw [old x ex] at e1
      simp only [if_neg ex] at h1
      have := ok.lt h1 e1
      cases e2
      omega
    · rw [old x ex] at e1
      rw [old y ey] at e2
      simp only [if_neg ex] at h1
      simp only [if_neg ey] at h2
      exact ok.inj _ _ _ _ _ h1 h2 e1 e2
  · by_cases ex : x = id
    · subst ex
      rw [newSg_at] at e1
      cases e1; omega
    · rw [old x ex] at e1
      simp only [if_neg ex] at h1
      exact ⟨x, sz', h1, e1⟩
  · by_cases ex : x = id
    · subst ex; rw [hdead] at he; cases he
    · simp only [if_neg ex]; exact he

def mixSg (σ σ' : Sg) (n : Nat) : Sg := ⟨fun id => if id < n then σ' id else σ id, σ'.fz⟩
/-- what is done within some numbers, seen from all -/
theorem merge_ok {σ σ' : Sg} {c c' k k' : Cm} {w w' : World} {n1 n2 : Nat} (hn : n1 ≤ n2) (ok : HeapOK σ c w) (hk : ∀ id, id < n2 → c id = k id) (wf : ∀ id, n1 ≤ id → k id = .dead) (hfree : ∀ id, n1 ≤ id → id < n2 → σ id = none)
    (ext : Ext (cutSg σ n1) k w σ' k' w') (hout : ∀ id, n2 ≤ id → σ' id = none) (ok' : HeapOK σ' k' w') (hc : c' = fun id => if id < n2 then k' id else c id) :
    HeapOK (mixSg σ σ' n2) c' w' ∧ Ext σ c w (mixSg σ σ' n2) c' w' ∧ cutSg (mixSg σ σ' n2) n2 = σ' := by
  have hcut : cutSg (mixSg σ σ' n2) n2 = σ' := by
    refine Sg.ext (funext fun id => ?_) rfl
    simp only [cutSg, mixSg]
    by_cases h : id < n2
    · rw [if_pos h, if_pos h]
    · rw [if_neg h]; exact (hout id (by omega)).symm
  have up : Up σ (mixSg σ σ' n2) := ⟨fun id x hx => by
    simp only [mixSg]
    by_cases h : id < n2
    · rw [if_pos h]
      have h1 : id < n1 := by
        rcases Nat.lt_or_ge id n1 with h1 | h1
        · exact h1
        · rw [hfree id h1 h] at hx; cases hx
      exact ext.up id x (by simp only [cutSg]; rw [if_pos h1]; exact hx)
    · rw [if_neg h]; exact hx, ext.up.fz⟩
  have up' : Up σ' (mixSg σ σ' n2) := ⟨fun id x hx => by
    simp only [mixSg]
    by_cases h : id < n2
    · rw [if_pos h]; exact hx
    · rw [hout id (by omega)] at hx; exact (nomatch hx), fun _ _ h => h⟩
  -- claims within
  have kin : ∀ id b sz, k id ≠ .dead → cutSg σ n1 id = some (b, sz) → c id ≠ .dead ∧ σ id = some (b, sz) ∧ id < n1 := fun id b sz h1 h2 => by
    have hlt : id < n1 := by
      rcases Nat.lt_or_ge id n1 with h | h
      · exact h
      · exact absurd (wf id h) h1
    simp only [cutSg, if_pos hlt] at h2
    exact ⟨by rw [hk id (by omega)]; exact h1, h2, hlt⟩
  have klt : ∀ id, k' id ≠ .dead → id < n2 := fun id h => by
    rcases Nat.lt_or_ge id n2 with hh | hh
    · exact hh
    · obtain ⟨b, sz, o, g1, _⟩ := ok'.ok id h
      rw [hout id hh] at g1; cases g1
  have keep : ∀ id b sz, n2 ≤ id → c id ≠ .dead → σ id = some (b, sz) → w'.heap[b]? = w.heap[b]? := fun id b sz h1 h2 h3 => ext.keep b (ok.lt h2 h3) fun id' sz' g1 g2 => by
    obtain ⟨q1, q2, q3⟩ := kin id' b sz' g1 g2
    have := ok.inj _ _ _ _ _ h2 q1 h3 q2
    omega
  have old : ∀ id b sz C, n2 ≤ id → c id ≠ .dead → σ id = some (b, sz) → σ'.fz b = some C → σ.fz b = some C := fun id b sz C h1 h2 h3 h4 => by
    cases h5 : σ.fz b with
    | some C' => rw [ext.up.fz b C' h5] at h4; exact h4
    | none =>
      obtain ⟨id', sz', g1, g2⟩ := ext.fzn b C h4 h5 (ok.lt h2 h3)
      obtain ⟨q1, q2, q3⟩ := kin id' b sz' g1 g2
      have := ok.inj _ _ _ _ _ h2 q1 h3 q2
      omega
  subst hc
  refine ⟨⟨fun id hid => ?_, fun x y b s1 s2 h1 h2 e1 e2 => ?_, fun b C hf => ⟨(ok'.fz b C hf).1, fun id sz hid hs => ?_⟩⟩, ⟨up, ext.size, fun b hb hnc => ext.keep b hb fun id sz g1 g2 => ?_, fun id b sz h1 e1 hb => ?_, fun id n l he => ?_, ext.same, fun id n l b sz he hs hb => ?_, fun b C h1 h2 hb => ?_, fun id n l b sz C he hs hf => ?_⟩, hcut⟩
  · by_cases h : id < n2
    · simp only [if_pos h] at hid ⊢
      obtain ⟨b, sz, o, g1, g2, g3⟩ := ok'.ok id hid
      exact ⟨b, sz, o, up' _ _ g1, g2, g3.mono up'⟩
    · simp only [if_neg h] at hid ⊢
      obtain ⟨b, sz, o, g1, g2, g3⟩ := ok.ok id hid
      exact ⟨b, sz, o, up _ _ g1, by rw [keep id b sz (by omega) hid g1]; exact g2, g3.mono up⟩
  · have cross : ∀ x y b s1 s2, x < n2 → ¬ y < n2 → k' x ≠ .dead → c y ≠ .dead → mixSg σ σ' n2 x = some (b, s1) → mixSg σ σ' n2 y = some (b, s2) → False := fun x y b s1 s2 hx hy h1 h2 e1 e2 => by
      simp only [mixSg, if_pos hx] at e1
      simp only [mixSg, if_neg hy] at e2
      obtain ⟨i, z, g1, g2⟩ := ext.own x b s1 h1 e1 (ok.lt h2 e2)
      obtain ⟨q1, q2, q3⟩ := kin i b z g1 g2
      have := ok.inj _ _ _ _ _ h2 q1 e2 q2
      omega
    by_cases hx : x < n2 <;> by_cases hy : y < n2
    · simp only [if_pos hx] at h1
      simp only [if_pos hy] at h2
      simp only [mixSg, if_pos hx] at e1
      simp only [mixSg, if_pos hy] at e2
      exact ok'.inj _ _ _ _ _ h1 h2 e1 e2
    · simp only [if_pos hx] at h1
      simp only [if_neg hy] at h2
      exact (cross x y b s1 s2 hx hy h1 h2 e1 e2).elim
    · simp only [if_neg hx] at h1
      simp only [if_pos hy] at h2
      exact (cross y x b s2 s1 hy hx h2 h1 e2 e1).elim
    · simp only [if_neg hx] at h1
      simp only [if_neg hy] at h2
      simp only [mixSg, if_neg hx] at e1
      simp only [mixSg, if_neg hy] at e2
      exact ok.inj _ _ _ _ _ h1 h2 e1 e2
  · by_cases h : id < n2
    · simp only [if_pos h] at hid
      simp only [mixSg, if_pos h] at hs
      exact (ok'.fz b C hf).2 id sz hid hs
    · simp only [if_neg h] at hid
      simp only [mixSg, if_neg h] at hs
      exact (ok.fz b C (old id b sz C (by omega) hid hs hf)).2 id sz hid hs
  · obtain ⟨q1, q2, _⟩ := kin id b sz g1 g2
    exact hnc id sz q1 q2
  · by_cases h : id < n2
    · simp only [if_pos h] at h1
      simp only [mixSg, if_pos h] at e1
      obtain ⟨i, z, g1, g2⟩ := ext.own id b sz h1 e1 hb
      obtain ⟨q1, q2, _⟩ := kin i b z g1 g2
      exact ⟨i, z, q1, q2⟩
    · simp only [if_neg h] at h1
      simp only [mixSg, if_neg h] at e1
      exact ⟨id, sz, h1, e1⟩
  · by_cases h : id < n2
    · simp only [if_pos h]
      exact ext.tabs id n l (by rw [← hk id h]; exact he)
    · simp only [if_neg h]; exact he
  · by_cases h : id < n2
    · rw [hk id h] at he
      have hlt : id < n1 := by
        rcases Nat.lt_or_ge id n1 with hh | hh
        · exact hh
        · rw [wf id hh] at he; cases he
      exact ext.tabk id n l b sz he (by simp only [cutSg]; rw [if_pos hlt]; exact hs) hb
    · exact keep id b sz (by omega) (by rw [he]; intro h; cases h) hs
  · obtain ⟨id, sz, g1, g2⟩ := ext.fzn b C h1 h2 hb
    obtain ⟨q1, q2, _⟩ := kin id b sz g1 g2
    exact ⟨id, sz, q1, q2⟩
  · by_cases h : id < n2
    · rw [hk id h] at he
      have hlt : id < n1 := by
        rcases Nat.lt_or_ge id n1 with hh | hh
        · exact hh
        · rw [wf id hh] at he; cases he
      exact ext.fzt id n l b sz C he (by simp only [cutSg]; rw [if_pos hlt]; exact hs) hf
    · exact old id b sz C (by omega) (by rw [he]; intro h; cases h) hs hf
end Go.Ev
namespace Go.Ev

theorem put_at (a : Act) (dst : Option Tmp) (v : Value) (x : Nat) : (a.put dst v).tmps.getD x undef = if dst = some x ∧ x < a.tmps.size then v else a.tmps.getD x undef := by
  cases dst with
  | none => simp [Act.put]
  | some d =>
    show (a.tmps.setIfInBounds d v).getD x undef = _
    by_cases hx : d = x
    · subst hx
      by_cases hlt : d < a.tmps.size
      · rw [if_pos ⟨rfl, hlt⟩]; simp [hlt]
      · rw [if_neg (fun h => hlt h.2)]; simp [Array.getD, hlt]
    · rw [if_neg (fun h => hx (Option.some.inj h.1))]
      simp only [Array.getD_eq_getD_getElem?]
      rw [Array.getElem?_setIfInBounds_ne hx]
theorem put_size (a : Act) (dst : Option Tmp) (v : Value) : (a.put dst v).tmps.size = a.tmps.size := by
  cases dst with
  | none => rfl
  | some d => show (a.tmps.setIfInBounds d v).size = _; simp
theorem put_defers (a : Act) (dst : Option Tmp) (v : Value) : (a.put dst v).defers = a.defers := by cases dst <;> rfl

/-- a region, its plan gone through -/
structure RG (P : Program) (hp : H) (nt : Nat) (ops : Array Oper) (t0 : T) (h0 : H) (L : List PS) (t' : T) (h' : H) : Prop where
  hpo : HpOK P hp
  nx : hp.nx ≤ h0.nx
  run : ∃ pl, Run P hp nt ops (masks ops.toList) t0 t0 h0 [h0] pl L t' h'
  good : Good ops.toList (masks ops.toList) h0 L
  few : nt ≤ 256
  tm : ∀ o ∈ ops.toList, (∀ d ∈ looks ops o, d < nt) ∧ (∀ d, o.dst = some d → d < nt)
  pair : ∀ x ∈ ops.toList.zipIdx, ∀ y ∈ ops.toList.zipIdx, pairOk ops (masks ops.toList) x y = true

structure MI (L : List PS) (h0 : H) (nt : Nat) (ops : Array Oper) (σ0 : Sg) (w0 : World) (a0 : Act) (D : Nat → Bool) (σ : Sg) (w : World) (a : Act) : Prop where
  ok : HeapOK σ (clm D h0.cl L) w
  free : ∀ id, h0.nx ≤ id → (∀ e ∈ L, D e.j = true → ¬ (e.h.nx ≤ id ∧ id < e.h'.nx)) → σ id = none
  val : ∀ e ∈ L, D e.j = true → ∀ d, e.o.dst = some d → VR (cutSg σ e.h'.nx) e.v (a.tmps.getD d undef)
  old : ∀ x, (∀ e ∈ L, D e.j = true → e.o.dst ≠ some x) → a.tmps.getD x undef = a0.tmps.getD x undef
  size : a.tmps.size = nt
  defers : a.defers = a0.defers
  ext : Ext σ0 h0.cl w0 σ (clm D h0.cl L) w
  low : ∀ id, id < h0.nx → σ id = σ0 id
  ord : ∀ L1 e L2, L = L1 ++ e :: L2 → e.loud = true → D e.j = true → ∀ y ∈ L1, D y.j = true
  wf : ∀ e ∈ L, e.loud = true → D e.j = true → ∀ id, e.h'.nx ≤ id → e.h'.cl id = .dead
  closed : ∀ i, D i = true → ∀ o, ops.toList[i]? = some o → ∀ d ∈ deps o, D d = true
  okc : ∀ e ∈ L, D e.j = false → ∀ id, id < e.h.nx → clm D h0.cl L id ≠ .dead → ∀ b sz o, σ id = some (b, sz) → w.heap[b]? = some o → BOK (cutSg σ e.h.nx) (clm D h0.cl L id) sz o

section
variable {P : Program} {hp : H} {nt : Nat} {ops : Array Oper} {t0 t' : T} {h0 h' : H} {L : List PS}

theorem RG.uniq (g : RG P hp nt ops t0 h0 L t' h') {x e : PS} (hx : x ∈ L) (he : e ∈ L) (hj : x.j = e.j) : x = e := by
  obtain ⟨L1, L2, rfl⟩ := List.append_of_mem he
  rcases List.mem_append.1 hx with hx | hx
  · exact absurd hj ((g.good.step L1 e L2 rfl).1 x hx)
  · rcases List.mem_cons.1 hx with rfl | hx
    · rfl
    · obtain ⟨A, B, rfl⟩ := List.append_of_mem hx
      exact absurd hj.symm ((g.good.step (L1 ++ e :: A) x B (by simp)).1 e (by simp))

theorem zip_mem {l : List Oper} {i : Nat} {o : Oper} (h : l[i]? = some o) : (o, i) ∈ l.zipIdx := by
  rw [List.mem_zipIdx_iff_getElem?]; exact h

/-- two that write write different temporaries; who looks at what another writes stands behind or ahead of it -/
theorem RG.dst (g : RG P hp nt ops t0 h0 L t' h') {x e : PS} (hx : x ∈ L) (he : e ∈ L) (hj : x.j ≠ e.j) {d : Nat} (hd : e.o.dst = some d) :
    x.o.dst ≠ some d ∧ (d ∈ looks ops x.o → (nthD 0 (masks ops.toList) x.j).testBit e.j = true ∨ (nthD 0 (masks ops.toList) e.j).testBit x.j = true) := by
  have h := g.pair _ (zip_mem (g.good.at_ x hx)) _ (zip_mem (g.good.at_ e he))
  unfold pairOk at h
  have hne : Nat.beq x.j e.j = false := by cases hb : Nat.beq x.j e.j with | false => rfl | true => exact absurd (Nat.eq_of_beq_eq_true hb) hj
  simp only [hne, hd, Bool.false_and, Bool.false_or, Bool.not_false, Bool.true_and, Bool.and_eq_true, Bool.or_eq_true, bne_iff_ne, Bool.not_eq_true', List.contains_eq_mem, decide_eq_false_iff_not] at h
  refine ⟨h.1, fun hl => ?_⟩
  rcases h.2 with (h | h) | h
  · exact absurd hl h
  · exact .inl h
  · exact .inr h
theorem RG.self (g : RG P hp nt ops t0 h0 L t' h') {e : PS} (he : e ∈ L) {d : Nat} (hd : e.o.dst = some d) : d ∉ looks ops e.o := by
  have h := g.pair _ (zip_mem (g.good.at_ e he)) _ (zip_mem (g.good.at_ e he))
  unfold pairOk at h
  have hne : Nat.beq e.j e.j = true := Nat.beq_refl _
  simpa [hne, hd] using h

variable {σ0 σ : Sg} {w0 w : World} {a0 a : Act} {D : Nat → Bool}

theorem MI.mask (m : MI L h0 nt ops σ0 w0 a0 D σ w a) (g : RG P hp nt ops t0 h0 L t' h') {e : PS} (he : e ∈ L) (hd : ∀ d ∈ deps e.o, D d = true) {x : Nat} (hx : (nthD 0 (masks ops.toList) e.j).testBit x = true) : D x = true :=
  mask_closed m.closed e.j e.o (g.good.at_ e he) hd x hx

/-- the state behind one more -/
theorem MI.next (m : MI L h0 nt ops σ0 w0 a0 D σ w a) (g : RG P hp nt ops t0 h0 L t' h') {e : PS} (he : e ∈ L) (hde : D e.j = false) (hd : ∀ d ∈ deps e.o, D d = true) {σ' : Sg} {w' : World} {v' : Value}
    (hv : VR (cutSg σ' e.h'.nx) e.v v') (ok' : HeapOK σ' (clm (fun j => j == e.j || D j) h0.cl L) w') (ext' : Ext σ (clm D h0.cl L) w σ' (clm (fun j => j == e.j || D j) h0.cl L) w')
    (hsame : ∀ id, ¬ (e.h.nx ≤ id ∧ id < e.h'.nx) → σ' id = σ id) (hnx : h0.nx ≤ e.h.nx) (hwf : e.loud = true → ∀ id, e.h'.nx ≤ id → e.h'.cl id = .dead)
    (hokc : ∀ x ∈ L, (x.j == e.j || D x.j) = false → ∀ id, id < x.h.nx → clm (fun j => j == e.j || D j) h0.cl L id ≠ .dead → ∀ b sz o, σ' id = some (b, sz) → w'.heap[b]? = some o → BOK (cutSg σ' x.h.nx) (clm (fun j => j == e.j || D j) h0.cl L id) sz o) :
    MI L h0 nt ops σ0 w0 a0 (fun j => j == e.j || D j) σ' w' (a.put e.o.dst v') := by
  have hD : ∀ {j}, (j == e.j || D j) = true → j = e.j ∨ D j = true := fun {j} h => by
    rcases (Bool.or_eq_true _ _).mp h with h | h
    · exact .inl (by simpa using h)
    · exact .inr h
  have hDr : ∀ {j}, D j = true → (j == e.j || D j) = true := fun {j} h => by simp [h]
  refine ⟨ok', fun id hid hn => ?_, fun y hy hdy d hdst => ?_, fun x hx => ?_, by rw [put_size]; exact m.size, by rw [put_defers]; exact m.defers, m.ext.trans ext', fun id hid => ?_, fun L1 x L2 hL hl hdx y hy => ?_, fun x hx hl hdx => ?_, fun i hi o ho d hdd => ?_, hokc⟩
  · rw [hsame id (hn e he (by simp))]
    exact m.free id hid fun y hy hdy => hn y hy (hDr hdy)
  · rcases hD hdy with hj | hdy
    · have := g.uniq hy he hj
      subst this
      have hlt : d < a.tmps.size := by rw [m.size]; exact (g.tm _ (List.mem_of_getElem? (g.good.at_ _ hy))).2 d hdst
      rw [put_at, if_pos ⟨hdst, hlt⟩]
      exact hv
    · have hj : e.j ≠ y.j := fun h => by rw [h, hdy] at hde; cases hde
      rw [put_at, if_neg (fun h => (g.dst he hy hj hdst).1 h.1)]
      refine (m.val y hy hdy d hdst).mono (σ := cutSg σ _) (τ := cutSg σ' _) ⟨fun id x hx => ?_, ext'.up.fz⟩
      simp only [cutSg] at hx ⊢
      split at hx
      · rename_i hlt; rw [if_pos hlt]; exact ext'.up _ _ hx
      · cases hx
  · rw [put_at, if_neg (fun h => hx e he (by simp) h.1)]
    exact m.old x fun y hy hdy => hx y hy (hDr hdy)
  · rw [hsame id (by omega)]; exact m.low id hid
  · have hxL : x ∈ L := by rw [hL]; simp
    rcases hD hdx with hj | hdx
    · have := g.uniq hxL he hj
      subst this
      exact hDr (m.mask g hxL hd ((g.good.step L1 x L2 hL).2.2.1 hl y hy))
    · exact hDr (m.ord L1 x L2 hL hl hdx y hy)
  · rcases hD hdx with hj | hdx
    · have := g.uniq hx he hj
      subst this
      exact hwf hl
    · exact m.wf x hx hl hdx
  · rcases hD hi with hj | hi
    · subst hj
      rw [g.good.at_ e he] at ho
      cases ho
      exact hDr (hd d hdd)
    · exact hDr (m.closed i hi o ho d hdd)

/-- the temporaries as the operation is to see them -/
def virt (nt : Nat) (ds : List Nat) (a a0 : Act) : Act := ⟨Array.ofFn fun x : Fin nt => if x.1 ∈ ds then a.tmps.getD x.1 undef else a0.tmps.getD x.1 undef, a.defers⟩
theorem virt_at {ds : List Nat} {x : Nat} (hx : x < nt) : (virt nt ds a a0).tmps.getD x undef = if x ∈ ds then a.tmps.getD x undef else a0.tmps.getD x undef := by
  simp [virt, Array.getD, hx]
theorem virt_size {ds : List Nat} : (virt nt ds a a0).tmps.size = nt := by simp [virt]

theorem mem_needs {bm : List Nat} {j : Nat} {o : Oper} {d : Nat} : d ∈ needsOf ops bm j o ↔ d ∈ looks ops o ∧ ∃ i o', ops.toList[i]? = some o' ∧ o'.dst = some d ∧ (nthD 0 bm j).testBit i = true := by
  unfold needsOf
  rw [List.mem_filter, List.any_eq_true]
  refine and_congr_right fun _ => ⟨fun ⟨y, h1, h2⟩ => ?_, fun ⟨i, o', h1, h2, h3⟩ => ⟨(o', i), zip_mem h1, ?_⟩⟩
  · rw [Bool.and_eq_true] at h2
    refine ⟨y.2, y.1, by rw [List.mem_zipIdx_iff_getElem?] at h1; exact h1, ?_, h2.2⟩
    have := h2.1
    split at this
    · rename_i d' hd'
      rw [hd', Nat.eq_of_beq_eq_true this]
    · cases this
  · simp [h2, h3, Nat.beq_refl]

end
end Go.Ev
namespace Go.Ev
section
variable {P : Program} {hp : H} {nt : Nat} {ops : Array Oper} {t0 t' : T} {h0 h' : H} {L : List PS}
variable {σ0 σ : Sg} {w0 w : World} {a0 a : Act} {D : Nat → Bool}

theorem RG.nx_of (g : RG P hp nt ops t0 h0 L t' h') {e : PS} (he : e ∈ L) : h0.nx ≤ e.h.nx ∧ e.h.nx ≤ e.h'.nx := by
  obtain ⟨pl, r⟩ := g.run
  exact ⟨(r.nx.2 e he).1, (r.nx.2 e he).2.1⟩
theorem RG.nx_pre (g : RG P hp nt ops t0 h0 L t' h') {L1 L2 : List PS} {e : PS} (hL : L = L1 ++ e :: L2) : (∀ y ∈ L1, y.h'.nx ≤ e.h.nx) ∧ ∀ y ∈ L2, e.h'.nx ≤ y.h.nx := by
  obtain ⟨pl, r⟩ := g.run
  rw [hL] at r
  obtain ⟨pl1, pl2, t1, h1, ss1, r1, r2⟩ := r.split
  cases r2 with
  | cons hj ho hh ht ok hl hls hls1 rest =>
    refine ⟨fun y hy => ?_, fun y hy => (rest.nx.2 y hy).1⟩
    rw [hh]; exact (r1.nx.2 y hy).2.2

theorem RG.needs (g : RG P hp nt ops t0 h0 L t' h') {L1 L2 : List PS} {e : PS} (hL : L = L1 ++ e :: L2) {d : Nat} (hd : d ∈ needsOf ops (masks ops.toList) e.j e.o) :
    ∃ y ∈ L1, y.o.dst = some d ∧ (nthD 0 (masks ops.toList) e.j).testBit y.j = true := by
  obtain ⟨_, i, o', h1, h2, h3⟩ := mem_needs.1 hd
  obtain ⟨q1, q2, q3, q4⟩ := g.good.step L1 e L2 hL
  have heL : e ∈ L := by rw [hL]; simp
  have hcl := mask_closed (l := ops.toList) (D := fun j => L1.any fun y => y.j == j) (fun i hi o ho dd hdd => ?_) e.j e.o (g.good.at_ e heL) (fun d hd => ?_) i h3
  · obtain ⟨y, hy, hyj⟩ := List.any_eq_true.1 hcl
    have hyj : y.j = i := by simpa using hyj
    have hyL : y ∈ L := by rw [hL]; exact List.mem_append_left _ hy
    have := g.good.at_ y hyL
    rw [hyj, h1] at this
    cases this
    exact ⟨y, hy, h2, by rw [hyj]; exact h3⟩
  · obtain ⟨y, hy, hyj⟩ := List.any_eq_true.1 hi
    have hyj : y.j = i := by simpa using hyj
    obtain ⟨A, B, hAB⟩ := List.append_of_mem hy
    have hyL : y ∈ L := by rw [hL]; exact List.mem_append_left _ hy
    have := g.good.at_ y hyL
    rw [hyj, ho] at this
    cases this
    obtain ⟨z, hz, hzj⟩ := (g.good.step A y (B ++ e :: L2) (by rw [hL, hAB]; simp)).2.1 dd hdd
    exact List.any_eq_true.2 ⟨z, by rw [hAB]; exact List.mem_append_left _ hz, by simp [hzj]⟩
  · obtain ⟨y, hy, hyj⟩ := q2 d hd
    exact List.any_eq_true.2 ⟨y, hy, by simp [hyj]⟩

theorem RG.temps_ (g : RG P hp nt ops t0 h0 L t' h') : (∀ e ∈ L, ∀ d, e.o.dst = some d → d < 256) ∧ L.Pairwise fun e e' => ∀ d, e.o.dst = some d → e'.o.dst ≠ some d := by
  refine ⟨fun e he d hd => Nat.lt_of_lt_of_le ((g.tm _ (List.mem_of_getElem? (g.good.at_ e he))).2 d hd) g.few, ?_⟩
  suffices h : ∀ A B, L = A ++ B → B.Pairwise fun e e' => ∀ d, e.o.dst = some d → e'.o.dst ≠ some d from h [] L rfl
  intro A B
  induction B generalizing A with
  | nil => exact fun _ => .nil
  | cons x B ih =>
    intro hL
    refine List.pairwise_cons.2 ⟨fun y hy d hd => ?_, ih (A ++ [x]) (by rw [hL]; simp)⟩
    have hx : x ∈ L := by rw [hL]; simp
    have hyL : y ∈ L := by rw [hL]; simp [hy]
    have hne : y.j ≠ x.j := fun hj => by
      obtain ⟨C, E, rfl⟩ := List.append_of_mem hy
      exact (g.good.step (A ++ x :: C) y E (by rw [hL]; simp)).1 x (by simp) hj.symm
    exact (g.dst hyL hx hne hd).1

theorem up_cut {n : Nat} (hlow : ∀ id, id < h0.nx → σ id = σ0 id) (hfz : ∀ b C, σ0.fz b = some C → σ.fz b = some C) (hfr : ∀ id, h0.nx ≤ id → σ0 id = none) (hn : h0.nx ≤ n) : Up σ0 (cutSg σ n) := by
  refine ⟨fun id x hx => ?_, hfz⟩
  have hlt : id < h0.nx := by
    rcases Nat.lt_or_ge id h0.nx with h | h
    · exact h
    · rw [hfr id h] at hx; cases hx
  simp only [cutSg]
  rw [if_pos (by omega), hlow id hlt]; exact hx

/-- the virtual temporaries are those of the plan -/
theorem virt_ok (m : MI L h0 nt ops σ0 w0 a0 D σ w a) (g : RG P hp nt ops t0 h0 L t' h') (hfr : ∀ id, h0.nx ≤ id → σ0 id = none) (ht0 : TR σ0 nt t0 a0.tmps) {L1 L2 : List PS} {e : PS} (hL : L = L1 ++ e :: L2) (hd : ∀ d ∈ deps e.o, D d = true) :
    TR (cutSg σ e.h.nx) nt e.t (virt nt (needsOf ops (masks ops.toList) e.j e.o) a a0).tmps := by
  have heL : e ∈ L := by rw [hL]; simp
  have hlk := (g.tm _ (List.mem_of_getElem? (g.good.at_ e heL))).1
  refine ⟨virt_size, g.few, fun x hx => ?_⟩
  rw [virt_at hx]
  obtain ⟨pl, r⟩ := g.run
  have htm := g.temps_
  rw [hL] at r
  obtain ⟨pl1, pl2, t1, h1, ss1, r1, r2⟩ := r.split
  have het : e.t = fillT (needsOf ops (masks ops.toList) e.j e.o) t0 t1 := by
    cases r2 with
    | cons hj ho hh ht ok hl hls hls1 rest => rw [ht, hj, ho]
  have hT := r1.temps (fun y hy => htm.1 y (by rw [hL]; exact List.mem_append_left _ hy)) ((List.pairwise_append.1 (hL ▸ htm.2)).1)
  have hF := fillT_at (ds := needsOf ops (masks ops.toList) e.j e.o) (fun d hd => Nat.lt_of_lt_of_le (hlk d (mem_needs.1 hd).1) g.few) (t0 := t0) (t := t1) (Nat.lt_of_lt_of_le hx g.few)
  rw [het]
  by_cases hm : x ∈ needsOf ops (masks ops.toList) e.j e.o
  · rw [if_pos hm, hF.1 hm]
    obtain ⟨y, hy, hyd, hyb⟩ := g.needs hL hm
    have hyL : y ∈ L := by rw [hL]; exact List.mem_append_left _ hy
    rw [hT.1 y hy x hyd]
    refine (m.val y hyL (m.mask g heL hd hyb) x hyd).mono (σ := cutSg σ y.h'.nx) (τ := cutSg σ e.h.nx) ⟨fun id z hz => ?_, fun _ _ h => h⟩
    simp only [cutSg] at hz ⊢
    split at hz
    · rename_i hlt
      rw [if_pos (Nat.lt_of_lt_of_le hlt ((g.nx_pre hL).1 y hy))]; exact hz
    · cases hz
  · rw [if_neg hm, hF.2 hm]
    exact (ht0.at_ x hx).mono (up_cut m.low m.ext.up.fz hfr (g.nx_of heL).1)

/-- what the operation looks at is the same there -/
theorem virt_same (m : MI L h0 nt ops σ0 w0 a0 D σ w a) (g : RG P hp nt ops t0 h0 L t' h') {e : PS} (he : e ∈ L) (hde : D e.j = false) (hd : ∀ d ∈ deps e.o, D d = true) {x : Nat} (hx : x ∈ looks ops e.o) :
    (virt nt (needsOf ops (masks ops.toList) e.j e.o) a a0).tmps.getD x undef = a.tmps.getD x undef := by
  have hlt := (g.tm _ (List.mem_of_getElem? (g.good.at_ e he))).1 x hx
  rw [virt_at hlt]
  by_cases hm : x ∈ needsOf ops (masks ops.toList) e.j e.o
  · rw [if_pos hm]
  · rw [if_neg hm]
    refine (m.old x fun y hy hdy hyd => ?_).symm
    have hne : e.j ≠ y.j := fun h => by rw [h, hdy] at hde; cases hde
    rcases (g.dst he hy hne hyd).2 hx with h | h
    · exact hm (mem_needs.2 ⟨hx, y.j, y.o, g.good.at_ y hy, hyd, h⟩)
    · have := mask_closed m.closed y.j y.o (g.good.at_ y hy) (fun d hdd => m.closed y.j hdy y.o (g.good.at_ y hy) d hdd) e.j h
      rw [this] at hde; cases hde

theorem virt_stp {l : Option Nat} {X : Value → World → Prop} (m : MI L h0 nt ops σ0 w0 a0 D σ w a) (g : RG P hp nt ops t0 h0 L t' h') {e : PS} (he : e ∈ L) (hde : D e.j = false) (hd : ∀ d ∈ deps e.o, D d = true)
    (h : Stp P l ops e.o (virt nt (needsOf ops (masks ops.toList) e.j e.o) a a0) w fun a' w' => ∃ v', a' = (virt nt (needsOf ops (masks ops.toList) e.j e.o) a a0).put e.o.dst v' ∧ X v' w') :
    Stp P l ops e.o a w fun a' w' => ∃ v', a' = a.put e.o.dst v' ∧ X v' w' := by
  obtain ⟨pl, r⟩ := g.run
  have hsupp := (r.ok e he).supp
  refine Stp.move hsupp.1 hsupp.2 h (fun x hx => ?_) (by rw [virt_size, m.size]) (fun d hdst => by rw [virt_size]; exact (g.tm _ (List.mem_of_getElem? (g.good.at_ e he))).2 d hdst) ?_
  · cases x with
    | tmp n => exact virt_same m g he hde hd (List.mem_append_left _ (List.mem_filterMap.2 ⟨.tmp n, by simpa using hx, rfl⟩))
    | const v => rfl
    | global n => rfl
    | func f => rfl
  · unfold Region.wanted
    cases hg : e.o.guard with
    | none => rfl
    | some q =>
      obtain ⟨j, wnt⟩ := q
      have : yielded ops (virt nt (needsOf ops (masks ops.toList) e.j e.o) a a0).tmps j = yielded ops a.tmps j := by
        unfold yielded
        cases hdst : (ops[j]?).bind (·.dst) with
        | none => rfl
        | some d =>
          have hlk : d ∈ looks ops e.o := by
            refine List.mem_append_right _ ?_
            rw [hg]
            simp [hdst]
          have hlt := (g.tm _ (List.mem_of_getElem? (g.good.at_ e he))).1 d hlk
          have hs := virt_same m g he hde hd hlk
          simp only [Option.bind_some]
          have e1 : ∀ b : Act, b.tmps.size = nt → b.tmps[d]? = some (b.tmps.getD d undef) := fun b hb => by
            have : d < b.tmps.size := by rw [hb]; exact hlt
            simp [Array.getD, this]
          rw [e1 _ virt_size, e1 _ m.size, hs]
      simp only [this]

theorem D_next {L1 L2 : List PS} {e : PS} (hL : L = L1 ++ e :: L2) (g : RG P hp nt ops t0 h0 L t' h') : (∀ y ∈ L1, ((fun j => j == e.j || D j) y.j) = D y.j) ∧ (∀ y ∈ L2, ((fun j => j == e.j || D j) y.j) = D y.j) := by
  have heL : e ∈ L := by rw [hL]; simp
  have hne : ∀ y ∈ L, y ≠ e → (y.j == e.j) = false := fun y hy h => by
    cases hb : y.j == e.j with
    | false => rfl
    | true => exact absurd (g.uniq hy heL (by simpa using hb)) h
  constructor
  · intro y hy
    have : y.j ≠ e.j := (g.good.step L1 e L2 hL).1 y hy
    simp [this]
  · intro y hy
    have : y.j ≠ e.j := fun hj => by
      obtain ⟨A, B, rfl⟩ := List.append_of_mem hy
      exact (g.good.step (L1 ++ e :: A) y B (by rw [hL]; simp)).1 e (by simp) hj.symm
    simp [this]

/-- nobody loud behind has been done -/
theorem MI.calm (m : MI L h0 nt ops σ0 w0 a0 D σ w a) {L1 L2 : List PS} {e : PS} (hL : L = L1 ++ e :: L2) (hde : D e.j = false) : ∀ y ∈ L2, y.loud = true → D y.j = false := fun y hy hl => by
  cases hd : D y.j with
  | false => rfl
  | true =>
    obtain ⟨A, B, rfl⟩ := List.append_of_mem hy
    have := m.ord (L1 ++ e :: A) y B (by rw [hL]; simp) hl hd e (by simp)
    rw [this] at hde; cases hde
end
end Go.Ev
namespace Go.Ev
section
variable {P : Program} {hp : H} {nt : Nat} {ops : Array Oper} {t0 t' : T} {h0 h' : H} {L : List PS}
variable {σ0 σ : Sg} {w0 w : World} {a0 a : Act} {D : Nat → Bool}

theorem last_done {α : Type} (p : α → Prop) [DecidablePred p] : ∀ l : List α, (∀ y ∈ l, ¬ p y) ∨ ∃ A y B, l = A ++ y :: B ∧ p y ∧ ∀ z ∈ B, ¬ p z
  | [] => .inl fun y h => (by cases h)
  | x :: l => by
    rcases last_done p l with h | ⟨A, y, B, h1, h2, h3⟩
    · by_cases hx : p x
      · exact .inr ⟨[], x, l, rfl, hx, h⟩
      · refine .inl fun y hy => ?_
        rcases List.mem_cons.1 hy with rfl | hy
        · exact hx
        · exact h y hy
    · exact .inr ⟨x :: A, y, B, by rw [h1]; rfl, h2, h3⟩

/-- some of the claims, seen by those ahead -/
theorem MI.sub (m : MI L h0 nt ops σ0 w0 a0 D σ w a) {e : PS} (he : e ∈ L) (hde : D e.j = false) {k : Cm} (hk : ∀ id, k id ≠ .dead → clm D h0.cl L id = k id ∧ id < e.h.nx) : HeapOK (cutSg σ e.h.nx) k w := by
  refine ⟨fun id hid => ?_, fun x y b s1 s2 h1 h2 e1 e2 => ?_, fun b C hf => ⟨(m.ok.fz b C hf).1, fun id sz hid hs => by
    obtain ⟨g1, g2⟩ := hk id hid
    simp only [cutSg, if_pos g2] at hs
    exact (m.ok.fz b C hf).2 id sz (by rw [g1]; exact hid) hs⟩⟩
  · obtain ⟨g1, g2⟩ := hk id hid
    obtain ⟨b, sz, o, q1, q2, q3⟩ := m.ok.ok id (by rw [g1]; exact hid)
    refine ⟨b, sz, o, by simp only [cutSg]; rw [if_pos g2]; exact q1, q2, ?_⟩
    rw [← g1]
    exact m.okc e he hde id g2 (by rw [g1]; exact hid) b sz o q1 q2
  · obtain ⟨g1, g2⟩ := hk x h1
    obtain ⟨g3, g4⟩ := hk y h2
    simp only [cutSg, if_pos g2] at e1
    simp only [cutSg, if_pos g4] at e2
    exact m.ok.inj _ _ _ _ _ (by rw [g1]; exact h1) (by rw [g3]; exact h2) e1 e2

theorem wf0 (ok0 : HeapOK σ0 h0.cl w0) (hfr : ∀ id, h0.nx ≤ id → σ0 id = none) : ∀ id, h0.nx ≤ id → h0.cl id = .dead := fun id hid => by
  by_cases h : h0.cl id = .dead
  · exact h
  · obtain ⟨b, sz, o, g, _⟩ := ok0.ok id h
    rw [hfr id hid] at g; cases g

theorem loudsOf_split (A B : List PS) (y : PS) (hy : y.loud = true) : loudsOf (A ++ y :: B) = loudsOf B ++ y :: loudsOf A := by
  unfold loudsOf
  rw [List.filter_append, List.filter_cons_of_pos (by exact hy), List.reverse_append]
  simp

/-- a look is at the heap of the last loud one done -/
theorem snap_ok (m : MI L h0 nt ops σ0 w0 a0 D σ w a) (g : RG P hp nt ops t0 h0 L t' h') (w0f : ∀ id, h0.nx ≤ id → h0.cl id = .dead) {L1 L2 : List PS} {e : PS} (hL : L = L1 ++ e :: L2) (hde : D e.j = false) (hd : ∀ d ∈ deps e.o, D d = true) :
    e.ls = [] ∨ ∃ S ∈ e.ls, HeapOK (cutSg σ e.h.nx) S.cl w := by
  have heL : e ∈ L := by rw [hL]; simp
  rcases (g.good.step L1 e L2 hL).2.2.2 with h | ⟨back, h1, h2, h3⟩
  · exact .inl h
  refine .inr ?_
  have hcalm := m.calm hL hde
  have hlt : ∀ x, (loudsOf L1)[back]? = some x → D x.j = true := fun x hx => m.mask g heL hd (h3 x hx)
  rcases last_done (fun y : PS => y.loud = true ∧ D y.j = true) L1 with hn | ⟨A, y, B, rfl, ⟨hy1, hy2⟩, hB⟩
  · have hb : back = (loudsOf L1).length := by
      rcases Nat.lt_or_ge back (loudsOf L1).length with hh | hh
      · have hx := hlt _ (List.getElem?_eq_getElem hh)
        have hm : (loudsOf L1)[back] ∈ loudsOf L1 := List.getElem_mem hh
        unfold loudsOf at hm
        rw [List.mem_reverse, List.mem_filter] at hm
        exact absurd ⟨hm.2, hx⟩ (hn _ hm.1)
      · omega
    refine ⟨h0, ?_, m.sub heL hde fun id hid => ?_⟩
    · rw [h1]
      refine List.mem_of_getElem? (i := (loudsOf L1).length) ?_
      rw [List.getElem?_take, if_pos (by omega), List.getElem?_append_right (by simp)]
      simp
    · have hlt : id < h0.nx := by
        rcases Nat.lt_or_ge id h0.nx with h | h
        · exact h
        · exact absurd (w0f id h) hid
      refine ⟨clm_low hlt (fun y hy => (g.nx_of hy).1) fun y hy hl => ?_, Nat.lt_of_lt_of_le hlt (g.nx_of heL).1⟩
      rw [hL] at hy
      rcases List.mem_append.1 hy with hy | hy
      · cases hh : D y.j with
        | false => rfl
        | true => exact absurd ⟨hl, hh⟩ (hn y hy)
      · rcases List.mem_cons.1 hy with rfl | hy
        · exact hde
        · exact hcalm y hy hl
  · rw [loudsOf_split A B y hy1] at h1 h2 hlt
    have hb : (loudsOf B).length ≤ back := by
      rcases Nat.lt_or_ge back (loudsOf B).length with hh | hh
      · have hx := hlt _ (by rw [List.getElem?_append_left hh]; exact List.getElem?_eq_getElem hh)
        have hm : (loudsOf B)[back] ∈ loudsOf B := List.getElem_mem hh
        unfold loudsOf at hm
        rw [List.mem_reverse, List.mem_filter] at hm
        exact absurd ⟨hm.2, hx⟩ (hB _ hm.1)
      · exact hh
    have hyL : y ∈ L := by rw [hL]; simp
    have hLs : L = A ++ y :: (B ++ e :: L2) := by rw [hL]; simp
    have hye : y.h'.nx ≤ e.h.nx := (g.nx_pre hL).1 y (by simp)
    refine ⟨y.h', ?_, m.sub heL hde fun id hid => ?_⟩
    · rw [h1]
      refine List.mem_of_getElem? (i := (loudsOf B).length) ?_
      rw [List.getElem?_take, if_pos (by omega), List.map_append, List.append_assoc, List.getElem?_append_right (by simp)]
      simp
    · have hlt : id < y.h'.nx := by
        rcases Nat.lt_or_ge id y.h'.nx with h | h
        · exact h
        · exact absurd (m.wf y hyL hy1 hy2 id h) hid
      refine ⟨?_, Nat.lt_of_lt_of_le hlt hye⟩
      rw [hLs, clm_append, clm_cons]
      rw [clm_low hlt (fun z hz => (g.nx_pre hLs).2 z hz) fun z hz hl => ?_]
      · unfold eff; rw [if_pos hy2, if_pos hy1]
      · rcases List.mem_append.1 hz with hz | hz
        · cases hh : D z.j with
          | false => rfl
          | true => exact absurd ⟨hl, hh⟩ (hB z hz)
        · rcases List.mem_cons.1 hz with rfl | hz
          · exact hde
          · exact hcalm z hz hl

theorem step_quiet {l : Option Nat} (m : MI L h0 nt ops σ0 w0 a0 D σ w a) (g : RG P hp nt ops t0 h0 L t' h') (hfr : ∀ id, h0.nx ≤ id → σ0 id = none) (st0 : St P hp σ0 h0 w0) (ht0 : TR σ0 nt t0 a0.tmps) {L1 L2 : List PS} {e : PS} (hL : L = L1 ++ e :: L2) (hde : D e.j = false) (hd : ∀ d ∈ deps e.o, D d = true)
    (hq : e.loud = false) : Stp P l ops e.o a w fun a' w' => ∃ v', a' = a.put e.o.dst v' ∧ ∃ σ', MI L h0 nt ops σ0 w0 a0 (fun j => j == e.j || D j) σ' w' (a.put e.o.dst v') := by
  have heL : e ∈ L := by rw [hL]; simp
  obtain ⟨pl, r⟩ := g.run
  have q := (r.ok e heL).quiet hq
  obtain ⟨n1, n2⟩ := g.nx_of heL
  have hcutn : cutSg σ e.h.nx e.h.nx = none := by simp [cutSg]
  have hD1 := (D_next (D := D) hL g).1
  have hD2 := (D_next (D := D) hL g).2
  have hfree : ∀ id, e.h.nx ≤ id → id < e.h'.nx → σ id = none := fun id h1 h2 => m.free id (by omega) fun y hy hdy ⟨h3, h4⟩ => by
    rw [hL] at hy
    rcases List.mem_append.1 hy with hy | hy
    · have := (g.nx_pre hL).1 y hy; omega
    · rcases List.mem_cons.1 hy with rfl | hy
      · rw [hdy] at hde; cases hde
      · have := (g.nx_pre hL).2 y hy; omega
  obtain ⟨v', w', σq, hs, hv, hcase⟩ := q.step (cutSg σ e.h.nx) l (virt nt (needsOf ops (masks ops.toList) e.j e.o) a a0) w (st0.ctx.mono (up_cut m.low m.ext.up.fz hfr n1)) (virt_ok m g hfr ht0 hL hd) hcutn
    (snap_ok m g (wf0 st0.ok hfr) hL hde hd)
  have hs2 := virt_stp (X := fun v1 w1 => v1 = v' ∧ w1 = w') m g heL hde hd hs
  have hself : (fun j => j == e.j || D j) e.j = true := by simp
  have hsplit : ∀ id, clm (fun j => j == e.j || D j) h0.cl L id = clm D (fun id => if e.h'.nx = e.h.nx + 1 ∧ id = e.h.nx then e.h'.cl id else clm D h0.cl L1 id) L2 id := fun id => by
    rw [hL, clm_append, clm_cons, clm_congr (D := fun j => j == e.j || D j) (D' := D) (L := L2) hD2, clm_congr (D := fun j => j == e.j || D j) (D' := D) (L := L1) hD1]
    unfold eff
    rw [if_pos hself, hq]
    rfl
  have hsplit0 : ∀ id, clm D h0.cl L id = clm D (clm D h0.cl L1) L2 id := fun id => by
    rw [hL, clm_append, clm_cons]
    unfold eff
    rw [hde]; rfl
  intro K Q hk
  refine hs2 K Q fun a' w1 ⟨v1, ha, hv1, hw1⟩ => ?_
  subst hv1; subst hw1; subst ha
  rcases hcase with ⟨hn, hw, hσ⟩ | ⟨hn, obj, sz, hw, hσ, hb⟩
  · subst hw; subst hσ
    have hceq : clm (fun j => j == e.j || D j) h0.cl L = clm D h0.cl L := by
      funext id
      rw [hsplit, hsplit0]
      congr 1
      funext x
      rw [if_neg (fun h => by omega)]
    refine hk _ _ ⟨v1, rfl, σ, m.next g heL hde hd (by rw [hn]; exact hv) (by rw [hceq]; exact m.ok) (by rw [hceq]; exact Ext.refl _ _ _) (fun _ _ => rfl) n1 (fun h => by rw [hq] at h; cases h) fun x hx hdx => ?_⟩
    rw [hceq]
    exact m.okc x hx (by simp only [Bool.or_eq_false_iff] at hdx; exact hdx.2)
  · subst hw; subst hσ
    have hlow2 : ∀ y ∈ L2, e.h.nx + 1 ≤ y.h.nx := fun y hy => by have := (g.nx_pre hL).2 y hy; omega
    have hcalm := m.calm hL hde
    have hceq : clm (fun j => j == e.j || D j) h0.cl L = fun x => if x = e.h.nx then e.h'.cl e.h.nx else clm D h0.cl L x := by
      funext id
      rw [hsplit]
      by_cases hid : id = e.h.nx
      · subst hid
        rw [clm_low (Nat.lt_succ_self _) hlow2 hcalm, if_pos rfl, if_pos ⟨hn, rfl⟩]
      · rw [if_neg hid, hsplit0]
        exact clm_same hcalm (by rw [if_neg (fun h => hid h.2)])
    have hfe : σ e.h.nx = none := hfree _ (Nat.le_refl _) (by omega)
    have hcutσ : newSg (cutSg σ e.h.nx) e.h.nx w.heap.size sz = cutSg (newSg σ e.h.nx w.heap.size sz) (e.h.nx + 1) := by
      refine Sg.ext (funext fun id => ?_) rfl
      simp only [newSg, cutSg]
      by_cases h : id = e.h.nx
      · subst h; simp
      · by_cases h2 : id < e.h.nx
        · rw [if_neg h, if_pos h2, if_pos (by omega), if_neg h]
        · rw [if_neg h, if_neg h2, if_neg (by omega)]
    have cut_up : ∀ (τ : Sg) (a b : Nat), a ≤ b → Up (cutSg τ a) (cutSg τ b) := fun τ a b hab => ⟨fun id z hz => by
      simp only [cutSg] at hz ⊢
      split at hz
      · rw [if_pos (by omega)]; exact hz
      · exact (nomatch hz), fun _ _ h => h⟩
    have hb2 : BOK (newSg σ e.h.nx w.heap.size sz) (e.h'.cl e.h.nx) sz obj := hb.mono (by
      rw [hcutσ]
      exact ⟨fun id z hz => by
        simp only [cutSg] at hz
        split at hz
        · exact hz
        · exact (nomatch hz), fun _ _ h => h⟩)
    obtain ⟨ok', ext'⟩ := m.ok.newC hfe hceq hb2
    refine hk _ _ ⟨v1, rfl, _, m.next g heL hde hd (by rw [hn, ← hcutσ]; exact hv) ok' ext' (fun id hid => ?_) n1 (fun h => by rw [hq] at h; cases h) fun x hx hdx id hid hc b sz' o h1 h2 => ?_⟩
    · have : id ≠ e.h.nx := fun h => hid ⟨by omega, by omega⟩
      simp [newSg, this]
    · simp only [Bool.or_eq_false_iff] at hdx
      have hup : ∀ n, Up (cutSg σ n) (cutSg (newSg σ e.h.nx w.heap.size sz) n) := fun n => ⟨fun id z hz => by
        simp only [cutSg] at hz ⊢
        split at hz
        · rename_i hlt; rw [if_pos hlt]; exact newSg_up hfe _ _ hz
        · exact (nomatch hz), fun _ _ h => h⟩
      rw [hceq] at hc ⊢
      by_cases hie : id = e.h.nx
      · subst hie
        rw [newSg_at] at h1
        cases h1
        rw [alloc_new] at h2
        cases h2
        simp only [if_true]
        rw [hcutσ] at hb
        exact hb.mono (cut_up _ _ _ (by omega))
      · simp only [if_neg hie] at hc ⊢
        have h1' : σ id = some (b, sz') := by simpa [newSg, hie] using h1
        rw [alloc_old (m.ok.lt hc h1')] at h2
        exact (m.okc x hx hdx.2 id hid hc b sz' o h1' h2).mono (hup _)
end
end Go.Ev
namespace Go.Ev
section
variable {P : Program} {hp : H} {nt : Nat} {ops : Array Oper} {t0 t' : T} {h0 h' : H} {L : List PS}
variable {σ0 σ : Sg} {w0 w : World} {a0 a : Act} {D : Nat → Bool}

theorem wf_run {bm : List Nat} {t h ss pl B t1 h1} (r : Run P hp nt ops bm t0 t h ss pl B t1 h1) (hq : ∀ y ∈ B, y.loud = false) (hw : ∀ id, h.nx ≤ id → h.cl id = .dead) : ∀ id, h1.nx ≤ id → h1.cl id = .dead := by
  induction r with
  | nil => exact hw
  | @cons pe rr t h ss e L t' h' hj ho hh ht ok hl hls hls1 rest ih =>
    refine ih (fun y hy => hq y (List.mem_cons_of_mem _ hy)) fun id hid => ?_
    have q := ok.quiet (hq e (List.mem_cons_self ..))
    rw [q.cl]
    have := q.nx
    show (if e.h'.nx = e.h.nx + 1 ∧ id = e.h.nx then e.h'.cl id else e.h.cl id) = _
    rw [if_neg (fun hx => by omega), hh]
    rw [hh] at this
    exact hw id (by omega)

theorem step_loud {l : Option Nat} (m : MI L h0 nt ops σ0 w0 a0 D σ w a) (g : RG P hp nt ops t0 h0 L t' h') (hfr : ∀ id, h0.nx ≤ id → σ0 id = none) (st0 : St P hp σ0 h0 w0) (ht0 : TR σ0 nt t0 a0.tmps) {L1 L2 : List PS} {e : PS} (hL : L = L1 ++ e :: L2) (hde : D e.j = false) (hd : ∀ d ∈ deps e.o, D d = true)
    (hq : e.loud = true) : Stp P l ops e.o a w fun a' w' => ∃ v', a' = a.put e.o.dst v' ∧ ∃ σ', MI L h0 nt ops σ0 w0 a0 (fun j => j == e.j || D j) σ' w' (a.put e.o.dst v') := by
  have heL : e ∈ L := by rw [hL]; simp
  obtain ⟨pl, r⟩ := g.run
  obtain ⟨hnx, q⟩ := (r.ok e heL).loud_ hq
  obtain ⟨n1, n2⟩ := g.nx_of heL
  have hD1 := (D_next (D := D) hL g).1
  have hD2 := (D_next (D := D) hL g).2
  have hcalm := m.calm hL hde
  have hlow2 := (g.nx_pre hL).2
  have hL1 : ∀ y ∈ L1, D y.j = true := fun y hy => m.mask g heL hd ((g.good.step L1 e L2 hL).2.2.1 hq y hy)
  have r' := r
  rw [hL] at r'
  obtain ⟨pl1, pl2, t1, h1, ss1, r1, r2⟩ := r'.split
  have hh1 : e.h = h1 := by cases r2 with | cons hj ho hh ht ok hl hls hls1 rest => exact hh
  have hc1 : clm D h0.cl L1 = e.h.cl := by rw [hh1]; exact clm_all r1 hL1
  have hwf : ∀ id, e.h.nx ≤ id → e.h.cl id = .dead := by
    rw [hh1]
    rcases last_done (fun y : PS => y.loud = true) L1 with hn | ⟨A, y, B, hAB, hy1, hB⟩
    · exact wf_run r1 (fun y hy => by have := hn y hy; simpa using this) (wf0 st0.ok hfr)
    · rw [hAB] at r1
      obtain ⟨_, _, _, _, _, r3, r4⟩ := r1.split
      have hyL1 : y ∈ L1 := by rw [hAB]; simp
      have hyL : y ∈ L := by rw [hL]; exact List.mem_append_left _ hyL1
      cases r4 with
      | cons hj ho hh ht ok hl hls hls1 rest => exact wf_run rest (fun z hz => by have := hB z hz; simpa using this) (m.wf y hyL hy1 (hL1 y hyL1))
  have hfree : ∀ id, e.h.nx ≤ id → id < e.h'.nx → σ id = none := fun id h1 h2 => m.free id (by omega) fun y hy hdy ⟨h3, h4⟩ => by
    rw [hL] at hy
    rcases List.mem_append.1 hy with hy | hy
    · have := (g.nx_pre hL).1 y hy; omega
    · rcases List.mem_cons.1 hy with rfl | hy
      · rw [hdy] at hde; cases hde
      · have := (g.nx_pre hL).2 y hy; omega
  have hself : (fun j => j == e.j || D j) e.j = true := by simp
  have hsplit : ∀ id, clm (fun j => j == e.j || D j) h0.cl L id = clm D e.h'.cl L2 id := fun id => by
    rw [hL, clm_append, clm_cons, clm_congr (D := fun j => j == e.j || D j) (D' := D) (L := L2) hD2, clm_congr (D := fun j => j == e.j || D j) (D' := D) (L := L1) hD1]
    unfold eff
    rw [if_pos hself, if_pos hq]
  have hsplit0 : ∀ id, clm D h0.cl L id = clm D e.h.cl L2 id := fun id => by
    rw [hL, clm_append, clm_cons, hc1]
    unfold eff
    rw [hde]; rfl
  have hk : ∀ id, id < e.h'.nx → clm D h0.cl L id = e.h.cl id := fun id hid => by rw [hsplit0, clm_low hid hlow2 hcalm]
  have hst : St P hp (cutSg σ e.h.nx) e.h w := by
    refine ⟨st0.ctx.mono (up_cut m.low m.ext.up.fz hfr n1), m.sub heL hde fun id hid => ?_, fun id n tl ht => ?_, Nat.le_trans g.nx n1⟩
    · have hlt : id < e.h.nx := by
        rcases Nat.lt_or_ge id e.h.nx with h | h
        · exact h
        · exact absurd (hwf id h) hid
      exact ⟨hk id (by omega), hlt⟩
    · have h1 := m.ext.tabs id n tl (st0.tabs id n tl ht)
      have hlt : id < hp.nx := g.hpo.lt id (by rw [ht]; intro h; cases h)
      have := g.nx
      rw [hk id (by omega)] at h1
      exact h1
  have hs := q (cutSg σ e.h.nx) l (virt nt (needsOf ops (masks ops.toList) e.j e.o) a a0) w hst (virt_ok m g hfr ht0 hL hd) (fun id h _ => by simp only [cutSg]; rw [if_neg (by omega)])
  have hs2 := virt_stp (X := fun v1 w1 => ∃ σ', SExt (cutSg σ e.h.nx) e.h w σ' e.h' w1 ∧ HeapOK σ' e.h'.cl w1 ∧ VR σ' e.v v1) m g heL hde hd hs
  intro K Q hkk
  refine hs2 K Q fun a' w' ⟨v', ha, σr, x1, x2, x3⟩ => ?_
  subst ha
  have hout : ∀ id, e.h'.nx ≤ id → σr id = none := fun id hid => by
    rw [x1.out id (by omega)]
    simp only [cutSg]; rw [if_neg (by omega)]
  have hwf' : ∀ id, e.h'.nx ≤ id → e.h'.cl id = .dead := wf0 x2 hout
  have hceq : clm (fun j => j == e.j || D j) h0.cl L = fun id => if id < e.h'.nx then e.h'.cl id else clm D h0.cl L id := by
    funext id
    rw [hsplit]
    by_cases hid : id < e.h'.nx
    · rw [if_pos hid, clm_low hid hlow2 hcalm]
    · rw [if_neg hid, hsplit0]
      exact clm_same hcalm (by rw [hwf id (by omega), hwf' id (by omega)])
  obtain ⟨ok', ext', hcut⟩ := merge_ok hnx m.ok hk hwf hfree x1.toExt hout x2 hceq
  refine hkk _ _ ⟨v', rfl, mixSg σ σr e.h'.nx, m.next g heL hde hd (by rw [hcut]; exact x3) ok' ext' (fun id hid => ?_) n1 (fun _ => hwf') fun x hx hdx id hid hc b sz o h1 h2 => ?_⟩
  · simp only [mixSg]
    by_cases h : id < e.h'.nx
    · have hlt : id < e.h.nx := by omega
      rw [if_pos h, x1.out id (by omega)]
      simp only [cutSg]; rw [if_pos hlt]
    · rw [if_neg h]
  · simp only [Bool.or_eq_false_iff] at hdx
    have hx2 : x ∈ L2 := by
      rw [hL] at hx
      rcases List.mem_append.1 hx with hx | hx
      · have := hL1 x hx; rw [hdx.2] at this; cases this
      · rcases List.mem_cons.1 hx with rfl | hx
        · have := hdx.1; simp at this
        · exact hx
    have hxn := hlow2 x hx2
    rw [hceq] at hc ⊢
    by_cases h : id < e.h'.nx
    · simp only [if_pos h] at hc ⊢
      simp only [mixSg, if_pos h] at h1
      obtain ⟨b', sz', o', q1, q2, q3⟩ := x2.ok id hc
      rw [h1] at q1
      obtain ⟨rfl, rfl⟩ := Prod.mk.inj (Option.some.inj q1)
      rw [h2] at q2
      cases q2
      refine q3.mono (σ := σr) (τ := cutSg (mixSg σ σr e.h'.nx) x.h.nx) ⟨fun z y hz => ?_, fun _ _ h => h⟩
      have hz : cutSg (mixSg σ σr e.h'.nx) e.h'.nx z = some y := by rw [hcut]; exact hz
      simp only [cutSg] at hz ⊢
      split at hz
      · rw [if_pos (by omega)]; exact hz
      · cases hz
    · simp only [if_neg h] at hc ⊢
      simp only [mixSg, if_neg h] at h1
      have hkeep : w'.heap[b]? = w.heap[b]? := x1.keep b (m.ok.lt hc h1) fun id' sz' g1 g2 => by
        have hlt : id' < e.h.nx := by
          rcases Nat.lt_or_ge id' e.h.nx with hh | hh
          · exact hh
          · exact absurd (hwf id' hh) g1
        simp only [cutSg, if_pos hlt] at g2
        have := m.ok.inj _ _ _ _ _ hc (by rw [hk id' (by omega)]; exact g1) h1 g2
        omega
      rw [hkeep] at h2
      refine (m.okc x hx hdx.2 id hid hc b sz o h1 h2).mono (σ := cutSg σ _) (τ := cutSg (mixSg σ σr e.h'.nx) x.h.nx) ⟨fun z y hz => ?_, ext'.up.fz⟩
      simp only [cutSg] at hz ⊢
      split at hz
      · rename_i hlt; rw [if_pos hlt]; exact ext'.up _ _ hz
      · cases hz

theorem first_not {α : Type} (p : α → Prop) [DecidablePred p] : ∀ l : List α, (∀ y ∈ l, p y) ∨ ∃ A y B, l = A ++ y :: B ∧ ¬ p y ∧ ∀ z ∈ A, p z
  | [] => .inl fun y h => (by cases h)
  | x :: l => by
    by_cases hx : p x
    · rcases first_not p l with h | ⟨A, y, B, h1, h2, h3⟩
      · refine .inl fun y hy => ?_
        rcases List.mem_cons.1 hy with rfl | hy
        · exact hx
        · exact h y hy
      · refine .inr ⟨x :: A, y, B, by rw [h1]; rfl, h2, fun z hz => ?_⟩
        rcases List.mem_cons.1 hz with rfl | hz
        · exact hx
        · exact h3 z hz
    · exact .inr ⟨[], x, l, rfl, hx, fun z hz => (by cases hz)⟩

theorem mem_ready {listed : Array Bool} {i : Nat} : i ∈ Region.ready .any ops listed ↔ i < ops.size ∧ listed.getD i true = false ∧ ∃ o, ops[i]? = some o ∧ ∀ d ∈ deps o, listed.getD d false = true := by
  unfold Region.ready
  rw [List.mem_filter, List.mem_range]
  refine and_congr_right fun hi => ?_
  rw [Bool.and_eq_true]
  refine and_congr (by simp) ?_
  have ho : ops[i]? = some ops[i] := Array.getElem?_eq_getElem hi
  rw [ho]
  simp only [Option.map_some, Option.getD_some, Option.some.injEq, exists_eq_left', deps, Array.all_eq_true']
  constructor
  · intro h d hd
    obtain ⟨x, hx, rfl⟩ := List.mem_map.1 hd
    rw [List.mem_filter] at hx
    have := h x (by simpa using hx.1)
    rw [hx.2] at this
    simpa using this
  · intro h x hx
    cases hb : Region.binds .any x with
    | false => rfl
    | true =>
      have := h x.on (List.mem_map.2 ⟨x, List.mem_filter.2 ⟨by simpa using hx, hb⟩, rfl⟩)
      simpa using this

theorem draw_any {l : Option Nat} (g : RG P hp nt ops t0 h0 L t' h') (hfr : ∀ id, h0.nx ≤ id → σ0 id = none) (st0 : St P hp σ0 h0 w0) (ht0 : TR σ0 nt t0 a0.tmps) {Q : Exit → Act → World → Prop}
    (hQ : ∀ D σ w a, MI L h0 nt ops σ0 w0 a0 D σ w a → (∀ e ∈ L, D e.j = true) → Q .normal a w) : ∀ (fuel : Nat) (U : List Nat) (listed : Array Bool) (σ : Sg) (a : Act) (w : World), listed.size = ops.size → MI L h0 nt ops σ0 w0 a0 (fun j => listed.getD j false) σ w a →
      (∀ i, i < ops.size → listed.getD i false = false → i ∈ U) → U.length ≤ fuel → wpAnyIn (Fx l) 0 P .any ops Q fuel listed a w := by
  have hlen : ∀ {e : PS}, e ∈ L → e.j < ops.size := fun {e} he => by
    have := (List.getElem?_eq_some_iff.1 (g.good.at_ e he)).1
    simpa using this
  have hready : ∀ (listed : Array Bool), listed.size = ops.size → Region.ready .any ops listed = [] → ∀ e ∈ L, listed.getD e.j false = true := fun listed hsz hr => by
    rcases first_not (fun y : PS => listed.getD y.j false = true) L with h | ⟨A, y, B, hAB, hy, hA⟩
    · exact h
    · exfalso
      have hyL : y ∈ L := by rw [hAB]; simp
      have : y.j ∈ Region.ready .any ops listed := by
        refine mem_ready.2 ⟨hlen hyL, ?_, y.o, by have := g.good.at_ y hyL; simpa using this, fun d hd => ?_⟩
        · have hlt : y.j < listed.size := by rw [hsz]; exact hlen hyL
          have hy' : listed.getD y.j false = false := by simpa using hy
          simpa [Array.getD, hlt] using hy'
        · obtain ⟨z, hz, hzj⟩ := (g.good.step A y B hAB).2.1 d hd
          rw [← hzj]; exact hA z hz
      rw [hr] at this; cases this
  intro fuel
  induction fuel with
  | zero =>
    intro U listed σ a w hsz m hU hle
    have hU0 : U = [] := List.length_eq_zero_iff.1 (Nat.le_zero.1 hle)
    subst hU0
    have hr : Region.ready .any ops listed = [] := by
      rw [List.eq_nil_iff_forall_not_mem]
      intro i hi
      obtain ⟨h1, h2, _⟩ := mem_ready.1 hi
      have hlt : i < listed.size := by rw [hsz]; exact h1
      have := hU i h1 (by simpa [Array.getD, hlt] using h2)
      cases this
    exact ⟨hr, hQ _ σ w a m (hready listed hsz hr)⟩
  | succ fuel ih =>
    intro U listed σ a w hsz m hU hle
    refine ⟨fun hr => hQ _ σ w a m (hready listed hsz hr), fun i hi => ?_⟩
    obtain ⟨h1, h2, o, h3, h4⟩ := mem_ready.1 hi
    have hlt : i < listed.size := by rw [hsz]; exact h1
    have hde : listed.getD i false = false := by simpa [Array.getD, hlt] using h2
    obtain ⟨e, heL, hej⟩ := g.good.all i (by simpa using h1)
    subst hej
    have heo : o = e.o := by have := g.good.at_ e heL; rw [Array.getElem?_toList, h3] at this; exact Option.some.inj this
    subst heo
    obtain ⟨L1, L2, hL⟩ := List.append_of_mem heL
    have hs : Stp P l ops e.o a w fun a' w' => ∃ v', a' = a.put e.o.dst v' ∧ ∃ σ', MI L h0 nt ops σ0 w0 a0 (fun j => j == e.j || listed.getD j false) σ' w' (a.put e.o.dst v') := by
      cases hq : e.loud with
      | false => exact step_quiet m g hfr st0 ht0 hL hde h4 hq
      | true => exact step_loud m g hfr st0 ht0 hL hde h4 hq
    have hset : (fun j => (listed.setIfInBounds e.j true).getD j false) = fun j => j == e.j || listed.getD j false := by
      funext j
      by_cases hj : j = e.j
      · subst hj; simp [hlt]
      · have : (j == e.j) = false := by simp [hj]
        rw [this, Bool.false_or]
        simp only [Array.getD_eq_getD_getElem?]
        rw [Array.getElem?_setIfInBounds_ne (Ne.symm hj)]
    have := hs (wpAnyIn (Fx l) 0 P .any ops Q fuel (listed.setIfInBounds e.j true)) Q fun a' w' ⟨v', ha, σ', m'⟩ => by
      subst ha
      refine ih (U.erase e.j) _ σ' _ w' (by simp [hsz]) (by rw [hset]; exact m') (fun i hi hf => ?_) ?_
      · have hf' : (i == e.j || listed.getD i false) = false := by
          have h5 : (listed.setIfInBounds e.j true).getD i false = (i == e.j || listed.getD i false) := congrFun hset i
          rw [← h5]; exact hf
        simp only [Bool.or_eq_false_iff, beq_eq_false_iff_ne] at hf'
        exact (List.mem_erase_of_ne hf'.1).2 (hU i hi hf'.2)
      · rw [List.length_erase_of_mem (hU e.j h1 hde)]; omega
    simpa only [wpOpIn, h3] using this
end
end Go.Ev
namespace Go.Ev
section
variable {P : Program} {hp : H} {nt : Nat} {ops : Array Oper} {pu : PU}

theorem planOk_kind {l : List Oper} {bm : List Nat} : ∀ {pl : List PE} {done ls}, planOk ops l bm pl done ls = true → ∀ e ∈ pl, e.kind = cls e.o.op ∨ e.kind = 3
  | [], done, ls, _, e, he => by cases he
  | pe :: pl, done, ls, h, e, he => by
    have h : ((match l[pe.j]? with | some _ => true | none => false) && !done.testBit pe.j && (Nat.beq pe.kind (cls pe.o.op) || Nat.beq pe.kind 3) && (deps pe.o).all (fun d => done.testBit d) && (!Nat.beq pe.kind 3 || Nat.beq (Nat.land done (nthD 0 bm pe.j)) done) &&
      (!Nat.beq pe.kind 1 || (Nat.ble pe.back ls.length && (match ls.drop pe.back with | [] => true | x :: _ => (nthD 0 bm pe.j).testBit x))) && planOk ops l bm pl (Nat.lor done (onBit pe.j)) (if Nat.beq pe.kind 3 then pe.j :: ls else ls)) = true := h
    simp only [Bool.and_eq_true] at h
    rcases List.mem_cons.1 he with rfl | he
    · rcases (Bool.or_eq_true _ _).mp h.1.1.1.1.2 with h2 | h2
      · exact .inl (Nat.eq_of_beq_eq_true h2)
      · exact .inr (Nat.eq_of_beq_eq_true h2)
    · exact planOk_kind h.2 e he

/-- the order drawn, operation by operation -/
def AnyOK (P : Program) (hp : H) (nt : Nat) (ops : Array Oper) (f : F) : Prop := ∀ ih, IHOK P hp ih → ∀ t h k r, f ih t h k = some r → ∃ t' h', k t' h' = some r ∧ h.nx ≤ h'.nx ∧
  ∀ σ l a w w1 n0, w1 = { w with drawn := w.drawn + 1 } → St P hp σ h w → Fr σ h.nx h'.nx → TR σ nt t a.tmps → MK P n0 σ h.cl w a.defers → n0 ≤ w.heap.size → wpAnyIn (Fx l) 0 P .any ops (PostOK P σ h w nt n0 (.nor t' h')) ops.size (Array.replicate ops.size false) a w1
theorem cDrawB_ok (hpo : HpOK P hp) (hpu : PUOK P hp pu) (hdr : drawOk ops = true) {f : F} (e : cDrawB pu P nt ops = .mk f) : AnyOK P hp nt ops f := by
  rcases bcl_inv e with h | ⟨htm, e2⟩
  · exact fun ih _ t hh k r er => by rw [h] at er; cases er
  cases hc : cPlan pu P nt ops (masks ops.toList) (plan ops.toList) with | mk fd =>
  rw [hc] at e2
  cases e2
  intro ih hih t h k r er
  have er : fd ih t t h [h] k = some r := er
  unfold tmpsOk at htm
  rw [Bool.and_eq_true, List.all_eq_true] at htm
  have h256 : nt ≤ 256 := Nat.le_of_ble_eq_true htm.1
  have htm2 : ∀ o ∈ ops.toList, ((∀ d ∈ looks ops o, d < nt) ∧ (∀ d, o.dst = some d → d < nt)) ∧ plainOp o.op = true := fun o ho => by
    have := htm.2 o ho
    simp only [Bool.and_eq_true, List.all_eq_true] at this
    refine ⟨⟨fun d hd => blt_lt (this.1.1 d hd), fun d hd => ?_⟩, this.2⟩
    have h2 := this.1.2
    rw [hd] at h2
    exact blt_lt h2
  unfold drawOk at hdr
  simp only [Bool.and_eq_true, List.all_eq_true] at hdr
  obtain ⟨hpk, hpair⟩ := hdr
  have hspec := plan_spec ops.toList
  obtain ⟨L, t', h', hrun, hk⟩ := run_some hpo hpu hih hc (fun e he => by
    have hm := List.mem_of_getElem? (hspec e he)
    exact ⟨planOk_kind hpk e he, fun d hd => Nat.lt_of_lt_of_le ((htm2 _ hm).1.2 d hd) h256, (htm2 _ hm).2⟩) er
  have hgood0 := run_good (l := ops.toList) (h0 := h) (pre := []) hrun hpk hspec (fun i => by simp) rfl rfl
  have hgood : Good ops.toList (masks ops.toList) h L := ⟨hgood0.1, fun i hi => by have := hgood0.2.1 i hi; simpa using this, fun L1 e L2 hL => by have := hgood0.2.2 L1 e L2 hL; simpa using this⟩
  refine ⟨t', h', hk, hrun.nx.1, fun σ l a w w1 n0 hw1 st fr ht mk hn => ?_⟩
  have hfr : ∀ id, h.nx ≤ id → σ id = none := fun id hid => fr id hid (Nat.zero_le _)
  have hg : RG P hp nt ops t h L t' h' := ⟨hpo, st.nx, ⟨_, hrun⟩, hgood, h256, fun o ho => (htm2 o ho).1, hpair⟩
  have hheap : w1.heap = w.heap := by rw [hw1]
  have st1 : St P hp σ h w1 := ⟨st.ctx, st.ok.of_heap hheap, st.tabs, st.nx⟩
  have hnone : ∀ j, (Array.replicate ops.size false).getD j false = false := fun j => by
    simp only [Array.getD_eq_getD_getElem?, Array.getElem?_replicate]
    split <;> rfl
  have hclm0 : clm (fun j => (Array.replicate ops.size false).getD j false) h.cl L = h.cl := by
    have : ∀ (L : List PS) (c : Cm), clm (fun j => (Array.replicate ops.size false).getD j false) c L = c := fun L => by
      induction L with
      | nil => exact fun c => rfl
      | cons e L ih =>
        intro c
        rw [clm_cons, ih]
        have := hnone e.j
        unfold eff
        simp only [this, Bool.false_eq_true, if_false]
    exact this L h.cl
  have hcut : ∀ n, h.nx ≤ n → Up σ (cutSg σ n) := fun n hn => up_cut (fun _ _ => rfl) (fun _ _ h => h) hfr hn
  refine draw_any (l := l) hg hfr st1 ht (fun D σ' w' a' m hall => ?_) ops.size (List.range ops.size) _ σ a w1 (by simp) ?_ (fun i hi _ => List.mem_range.2 hi) (by simp)
  · have hcl : clm D h.cl L = h'.cl := clm_all hrun hall
    have hext := m.ext
    have hok := m.ok
    rw [hcl] at hext hok
    have hnx := hrun.nx
    have hsext : SExt σ h w σ' h' w' := by
      refine ⟨⟨hext.up, by have := hext.size; rw [hheap] at this; exact this, fun b hb hc => ?_, fun i b sz h1 h2 hb => hext.own i b sz h1 h2 (by rw [hheap]; exact hb), hext.tabs, ⟨by rw [hext.same.os, hw1], by rw [hext.same.tape, hw1], by rw [hext.same.output, hw1]⟩, fun i n l b sz hc hs hb => by rw [hext.tabk i n l b sz hc hs (by rw [hheap]; exact hb), hheap], fun b C h1 h2 hb => hext.fzn b C h1 h2 (by rw [hheap]; exact hb), hext.fzt⟩, hnx.1, fun i hi => ?_⟩
      · have := hext.keep b (by rw [hheap]; exact hb) hc
        rw [hheap] at this; exact this
      · rcases Nat.lt_or_ge i h.nx with hlt | hge
        · exact m.low i hlt
        · rw [m.free i hge fun e he _ => by have := (hnx.2 e he).2.2; omega, hfr i hge]
    refine ⟨t', h', σ', .inl ⟨rfl, rfl⟩, hsext, hok, ⟨m.size, h256, fun x hx => ?_⟩, by rw [m.defers]; exact mk.next hsext⟩
    have hT := hrun.temps hg.temps_.1 hg.temps_.2
    by_cases hex : ∃ e ∈ L, e.o.dst = some x
    · obtain ⟨e, he, hd⟩ := hex
      rw [hT.1 e he x hd]
      refine (m.val e he (hall e he) x hd).mono (σ := cutSg σ' _) (τ := σ') ⟨fun i y hy => ?_, fun _ _ h => h⟩
      simp only [cutSg] at hy
      split at hy
      · exact hy
      · cases hy
    · have hno : ∀ e ∈ L, e.o.dst ≠ some x := fun e he hd => hex ⟨e, he, hd⟩
      rw [hT.2 x (Nat.lt_of_lt_of_le hx h256) hno, m.old x fun e he _ => hno e he]
      exact (ht.at_ x hx).mono hsext.up
  · refine ⟨by rw [hclm0]; exact st1.ok, fun i hi _ => hfr i hi, fun e he hd => ?_, fun x _ => rfl, ht.size, rfl, by rw [hclm0]; exact Ext.refl _ _ _, fun _ _ => rfl, fun L1 e L2 hL hl hd => ?_, fun e he hl hd => ?_, fun i hi => ?_, fun e he _ i hi hc b sz o h1 h2 => ?_⟩
    · simp only [hnone] at hd; cases hd
    · simp only [hnone] at hd; cases hd
    · simp only [hnone] at hd; cases hd
    · simp only [hnone] at hi; cases hi
    · rw [hclm0] at hc ⊢
      obtain ⟨b', sz', o', q1, q2, q3⟩ := st1.ok.ok i hc
      rw [h1] at q1
      obtain ⟨rfl, rfl⟩ := Prod.mk.inj (Option.some.inj q1)
      rw [h2] at q2
      cases q2
      exact q3.mono (hcut _ (hg.nx_of he).1)

end
end Go.Ev
namespace Go.Ev
section
variable {P : Program} {hp : H} {nt : Nat} {ops : Array Oper} {pu : PU}

/-- where nothing leaves but by the end, what stands for leaving is no matter -/
theorem wpIn_noexit {F : Fence} {n : Nat} {o : Oper} {a : Act} {w : World} {K : Act → World → Prop} {Q Q' : Exit → Act → World → Prop} (hq : ∀ e a w, Q' e a w → e = .normal) (hh : o.wpIn F n P a w K Q') : o.wpIn F n P a w K Q := by
  have hno : ¬ LetsOut Q' := fun ⟨a, w, h⟩ => by have := hq _ _ _ h; cases this
  unfold Oper.wpIn at *
  refine ⟨hh.1, ?_⟩
  have hh := hh.2
  generalize (o.semAt F.round a.eval).run P w = r at *
  cases r with
  | ok x w' =>
    cases x <;> simp only [Oper.uponIn] at hh ⊢ <;>
      first
        | exact hh
        | exact ⟨hh.1, CallsIn.mono hh.2 (fun e w'' he => by cases e <;> first | exact he | (have := hq _ _ _ he; cases this) | exact absurd he hno)⟩
        | exact ⟨hh.1, RoundIn.mono hh.2 (fun e w'' he => by cases e <;> first | exact he | (have := hq _ _ _ he; cases this) | exact absurd he hno)⟩
  | halt x w' => cases x <;> simp only [Oper.uponIn] at hh ⊢ <;> first | exact hh | (have := hq _ _ _ hh; cases this)

theorem preOk_spec {m : Nat} (h : preOk ops m = true) : 1 ≤ m ∧ ops.size ≤ m + 4 ∧ (∀ (i : Nat) (o : Oper), ops[i]? = some o → o.guard = none) ∧ (∀ (i : Nat) (o : Oper), ops[i]? = some o → ∀ d ∈ deps o, d < i) ∧ (∀ (i : Nat) (o : Oper), ops[i]? = some o → m ≤ i → m - 1 ∈ deps o) ∧
    (∃ o, ops[m - 1]? = some o ∧ ∀ i, i < m - 1 → i ∈ deps o) ∧ drawOk (preOps ops m) = true := by
  unfold preOk at h
  simp only [Bool.and_eq_true, List.all_eq_true] at h
  obtain ⟨⟨⟨⟨⟨⟨h1, h2⟩, h3⟩, h4⟩, h5⟩, h6⟩, h7⟩ := h
  have h1 : 1 ≤ m := Nat.le_of_ble_eq_true h1
  refine ⟨h1, Nat.le_of_ble_eq_true h2, fun i o ho => ?_, fun i o ho d hd => ?_, fun i o ho hi => ?_, ?_, h7⟩
  · have := h3 o (List.mem_of_getElem? (by rw [Array.getElem?_toList]; exact ho))
    cases hg : o.guard with
    | none => rfl
    | some g => rw [hg] at this; cases this
  · have := h4 (o, i) (zip_mem (by rw [Array.getElem?_toList]; exact ho)) d hd
    simpa [Nat.blt_eq] using this
  · have := h5 (o, i) (zip_mem (by rw [Array.getElem?_toList]; exact ho))
    rw [Bool.or_eq_true] at this
    rcases this with h | h
    · have : i < m := by simpa [Nat.blt_eq] using h
      omega
    · obtain ⟨d, hd, he⟩ := List.any_eq_true.1 h
      have : d + 1 = m := Nat.eq_of_beq_eq_true he
      rw [show m - 1 = d by omega]; exact hd
  · cases ho : ops[m - 1]? with
    | none => rw [ho] at h6; cases h6
    | some o =>
      rw [ho] at h6
      refine ⟨o, rfl, fun i hi => ?_⟩
      have := List.all_eq_true.1 h6 i (List.mem_range.2 hi)
      obtain ⟨d, hd, he⟩ := List.any_eq_true.1 this
      rw [← Nat.eq_of_beq_eq_true he]; exact hd

theorem pre_at {m i : Nat} (hi : i < m) : (preOps ops m)[i]? = ops[i]? := by
  unfold preOps
  rw [List.getElem?_toArray, List.getElem?_take, if_pos hi, Array.getElem?_toList]
theorem pre_size {m : Nat} (hm : m ≤ ops.size) : (preOps ops m).size = m := by
  unfold preOps
  rw [List.size_toArray, List.length_take, Array.length_toList]; omega

/-- the front of a region, and what comes behind it -/
theorem set_getD {li : Array Bool} {i j : Nat} (hi : i < li.size) : (li.setIfInBounds i true).getD j false = (Nat.beq j i || li.getD j false) := by
  by_cases hj : j = i
  · subst hj
    have : Nat.beq j j = true := Nat.beq_refl j
    simp [hi, this]
  · have : Nat.beq j i = false := by rw [Bool.eq_false_iff]; exact fun h => hj (Nat.eq_of_beq_eq_true h)
    rw [this, Bool.false_or]
    simp only [Array.getD_eq_getD_getElem?]
    rw [Array.getElem?_setIfInBounds_ne (Ne.symm hj)]
theorem getD_tf {li : Array Bool} {i : Nat} (hi : i < li.size) : li.getD i true = li.getD i false := by simp [Array.getD, hi]
theorem any_front {l : Option Nat} {m k : Nat} (hok : preOk ops m = true) (hms : m ≤ ops.size) {Q Q' : Exit → Act → World → Prop} (hq : ∀ e a w, Q' e a w → e = .normal)
    (hQ : ∀ a w (listed : Array Bool), Q' .normal a w → listed.size = ops.size → (∀ j, j < ops.size → listed.getD j false = Nat.blt j m) → wpAnyIn (Fx l) 0 P .any ops Q k listed a w) :
    ∀ (fuel : Nat) (lp listed : Array Bool) (a : Act) (w : World), lp.size = m → listed.size = ops.size → (∀ j, j < m → listed.getD j false = lp.getD j false) → (∀ j, m ≤ j → j < ops.size → listed.getD j false = false) →
      (lp.getD (m - 1) false = true → ∀ j, j < m → lp.getD j false = true) → (∃ U : List Nat, U.length = fuel ∧ U.Nodup ∧ ∀ j, j ∈ U ↔ j < m ∧ lp.getD j false = false) → wpAnyIn (Fx l) 0 P .any (preOps ops m) Q' fuel lp a w → wpAnyIn (Fx l) 0 P .any ops Q (fuel + k) listed a w := by
  obtain ⟨h1, h2, h3, h4, h5, ⟨ol, hol, hll⟩, h7⟩ := preOk_spec hok
  have hsz := pre_size (ops := ops) hms
  have done : ∀ (lp listed : Array Bool) (a : Act) (w : World), lp.size = m → listed.size = ops.size → (∀ j, j < m → listed.getD j false = lp.getD j false) → (∀ j, m ≤ j → j < ops.size → listed.getD j false = false) →
      (∀ j, j < m → lp.getD j false = true) → Q' .normal a w → wpAnyIn (Fx l) 0 P .any ops Q k listed a w := fun lp listed a w s1 s2 s3 s4 hall hq1 => hQ a w listed hq1 s2 fun j hj => by
    rcases Nat.lt_or_ge j m with h | h
    · rw [s3 j h, hall j h]; exact (by simpa [Nat.blt_eq] using h : Nat.blt j m = true).symm
    · rw [s4 j h hj]
      have : Nat.blt j m = false := by
        rw [Bool.eq_false_iff]; intro hc
        have : j < m := by simpa [Nat.blt_eq] using hc
        omega
      exact this.symm
  have allOf : ∀ (lp : Array Bool), lp.size = m → Region.ready .any (preOps ops m) lp = [] → ∀ j, j < m → lp.getD j false = true := fun lp s1 hr j => by
    induction j using Nat.strongRecOn with
    | _ j ih =>
      intro hj
      cases hc : lp.getD j false with
      | true => rfl
      | false =>
        exfalso
        have hjo : j < ops.size := by omega
        have ho : ops[j]? = some ops[j] := Array.getElem?_eq_getElem hjo
        have : j ∈ Region.ready .any (preOps ops m) lp := mem_ready.2 ⟨by rw [hsz]; exact hj, by rw [getD_tf (by omega)]; exact hc, ops[j], by rw [pre_at hj]; exact ho, fun d hd => by
          have hd1 := h4 j _ ho d hd
          exact ih d hd1 (by omega)⟩
        rw [hr] at this; cases this
  intro fuel
  induction fuel with
  | zero =>
    intro lp listed a w s1 s2 s3 s4 s6 s5 hw
    rw [Nat.zero_add]
    exact done lp listed a w s1 s2 s3 s4 (allOf lp s1 hw.1) hw.2
  | succ fuel ih =>
    intro lp listed a w s1 s2 s3 s4 s6 ⟨U, u1, u2, u3⟩ hw
    obtain ⟨j0, hj0⟩ : ∃ j, j ∈ U := by
      cases U with
      | nil => simp at u1
      | cons x r => exact ⟨x, List.mem_cons_self ..⟩
    obtain ⟨hj0m, hj0f⟩ := (u3 j0).1 hj0
    have hlast : lp.getD (m - 1) false = false := by
      cases hc : lp.getD (m - 1) false with
      | false => rfl
      | true => rw [s6 hc j0 hj0m] at hj0f; cases hj0f
    have hready : ∀ i, i ∈ Region.ready .any ops listed → i < m ∧ i ∈ Region.ready .any (preOps ops m) lp := fun i hi => by
      obtain ⟨q1, q2, o, q3, q4⟩ := mem_ready.1 hi
      have him : i < m := by
        rcases Nat.lt_or_ge i m with h | h
        · exact h
        · exfalso
          have hl := q4 _ (h5 i o q3 h)
          rw [s3 _ (by omega), hlast] at hl
          cases hl
      refine ⟨him, mem_ready.2 ⟨by rw [hsz]; exact him, ?_, o, by rw [pre_at him]; exact q3, fun d hd => ?_⟩⟩
      · rw [getD_tf (by omega)] at q2 ⊢
        rw [← s3 i him]; exact q2
      · have := q4 d hd
        rw [s3 d (by have := h4 i o q3 d hd; omega)] at this; exact this
    have hback : ∀ i, i ∈ Region.ready .any (preOps ops m) lp → i ∈ Region.ready .any ops listed := fun i hi => by
      obtain ⟨q1, q2, o, q3, q4⟩ := mem_ready.1 hi
      rw [hsz] at q1
      rw [pre_at q1] at q3
      refine mem_ready.2 ⟨by omega, ?_, o, q3, fun d hd => ?_⟩
      · rw [getD_tf (by omega)] at q2 ⊢
        rw [s3 i q1]; exact q2
      · rw [s3 d (by have := h4 i o q3 d hd; omega)]; exact q4 d hd
    rw [show fuel + 1 + k = (fuel + k) + 1 by omega]
    refine ⟨fun hr => ?_, fun i hi => ?_⟩
    · exfalso
      have hne : Region.ready .any (preOps ops m) lp ≠ [] := fun h => by
        rw [allOf lp s1 h j0 hj0m] at hj0f; cases hj0f
      obtain ⟨i, hi⟩ := List.exists_mem_of_ne_nil _ hne
      have := hback i hi
      rw [hr] at this; cases this
    · obtain ⟨him, hip⟩ := hready i hi
      have hio : i < ops.size := by omega
      have ho : ops[i]? = some ops[i] := Array.getElem?_eq_getElem hio
      obtain ⟨_, q2, o, q3, q4⟩ := mem_ready.1 hi
      have hif : lp.getD i false = false := by
        rw [getD_tf (by omega)] at q2
        rw [← s3 i him]; exact q2
      have hg : ops[i].guard = none := h3 i ops[i] ho
      have hw2 := hw.2 i hip
      simp only [wpOpIn, pre_at him, ho] at hw2 ⊢
      have hwant : ∀ tm (ops' : Array Oper), Region.wanted ops[i] (yielded ops' tm) = true := fun tm ops' => by simp [Region.wanted, hg]
      rw [if_pos (hwant _ _)] at hw2
      rw [if_pos (hwant _ _)]
      refine Oper.wpIn_mono (fun a' w' hk => ?_) (wpIn_noexit hq hw2)
      refine ih (lp.setIfInBounds i true) (listed.setIfInBounds i true) a' w' (by simp [s1]) (by simp [s2]) (fun j hj => ?_) (fun j hj hjo => ?_) (fun hl j hj => ?_) ⟨U.erase i, ?_, u2.erase i, fun j => ?_⟩ hk
      · rw [set_getD (by omega), set_getD (by omega), s3 j hj]
      · rw [set_getD (by omega), s4 j hj hjo]
        have : Nat.beq j i = false := by rw [Bool.eq_false_iff]; intro h; have := Nat.eq_of_beq_eq_true h; omega
        rw [this]; rfl
      · rw [set_getD (by omega)] at hl ⊢
        rw [hlast, Bool.or_false] at hl
        have hmi : m - 1 = i := Nat.eq_of_beq_eq_true hl
        by_cases hji : j = i
        · subst hji; rw [Nat.beq_refl]; rfl
        · have hjl : j < m - 1 := by omega
          rw [← hmi] at q3
          rw [hol] at q3
          cases q3
          have := q4 j (hll j hjl)
          rw [s3 j hj] at this
          rw [this, Bool.or_true]
      · rw [List.length_erase_of_mem ((u3 i).2 ⟨him, hif⟩)]; omega
      · rw [u2.mem_erase_iff, u3, set_getD (by omega)]
        constructor
        · intro ⟨g1, g2, g3⟩
          refine ⟨g2, ?_⟩
          rw [g3, Bool.or_false, Bool.eq_false_iff]
          exact fun h => g1 (Nat.eq_of_beq_eq_true h)
        · intro ⟨g1, g2⟩
          rw [Bool.or_eq_false_iff] at g2
          refine ⟨fun h => ?_, g1, g2.2⟩
          subst h; rw [Nat.beq_refl] at g2; cases g2.1
end
end Go.Ev
namespace Go.Ev
section
variable {P : Program} {hp : H} {nt : Nat} {ops : Array Oper} {pu : PU}

theorem tRun_some {c : Cl} {ih : IH} {t : T} {h : H} {ids : List Nat} {q : Leaf} (e : tRun c ih t h ids = some q) : ∃ f, c = .mk f ∧ f ih t h (fun t h => some (.nor t h)) = some (.nor q.1 q.2.1) ∧ q.2.2 = ids := by
  cases c with | mk f =>
  refine ⟨f, rfl, ?_⟩
  have e : (match f ih t h (fun t h => some (.nor t h)) with | some (.nor t' h') => some (t', h', ids) | _ => none) = some q := e
  split at e
  · rename_i t' h' heq
    cases e
    exact ⟨heq, rfl⟩
  · cases e
theorem tStep_some {ih : IH} {i : Nat} {t : T} {h : H} {q : Leaf} (e : tStep pu P nt ops ih i t h = some q) : ∃ o f, ops[i]? = some o ∧ cOper pu P nt ops o = .mk f ∧ f ih t h (fun t h => some (.nor t h)) = some (.nor q.1 q.2.1) ∧
    ((cls o.op = 0 ∧ q.2.2 = []) ∨ ∃ ty d x id off, o.op = .store ty (.tmp d) x ∧ getT t d = .p id off ∧ id < 65536 ∧ q.2.2 = [id]) := by
  unfold tStep at e
  split at e
  · rename_i o ho
    cases hc : Nat.beq (cls o.op) 0 with
    | true =>
      rw [hc] at e
      obtain ⟨f, h1, h2, h3⟩ := tRun_some (show tRun (cOper pu P nt ops o) ih t h [] = some q from e)
      exact ⟨o, f, ho, h1, h2, .inl ⟨Nat.eq_of_beq_eq_true hc, h3⟩⟩
    | false =>
      rw [hc] at e
      simp only [cond_false] at e
      split at e
      · rename_i ty d x hop
        split at e
        · rename_i id off hp
          cases hb : Nat.blt id 65536 with
          | false => rw [hb] at e; cases e
          | true =>
            rw [hb] at e
            obtain ⟨f, h1, h2, h3⟩ := tRun_some (show tRun (cOper pu P nt ops o) ih t h [id] = some q from e)
            exact ⟨o, f, ho, h1, h2, .inr ⟨ty, d, x, id, off, hop, hp, by simpa [Nat.blt_eq] using hb, h3⟩⟩
        · cases e
      · cases e
  · cases e
/-- what such an operation turns -/
theorem tStep_local {ih : IH} {i : Nat} {t : T} {h : H} {q : Leaf} {o : Oper} (ho : ops[i]? = some o) (hg : o.guard = none) (e : tStep pu P nt ops ih i t h = some q) :
    (∃ v, q.1 = putT t o.dst v) ∧ (∀ n, o.dst = some n → n < nt) ∧ q.2.1.nx = h.nx ∧ ∀ x, x ∉ q.2.2 → q.2.1.cl x = h.cl x := by
  obtain ⟨o', f, h1, h2, h3, h4⟩ := tStep_some e
  rw [ho] at h1
  cases h1
  rcases cOper_cases h2 with hd | ⟨s, f0, hs, hop, hgd⟩
  · rw [hd] at h3; cases h3
  rcases hgd with ⟨_, rfl⟩ | ⟨j, w, d, hg2, _⟩
  · rcases h4 with ⟨hc, hids⟩ | ⟨ty, d, x, id, off, hop2, hp, hid, hids⟩
    · obtain ⟨v, e1, _⟩ := cOp_pure hc hop ih t h _ _ h3
      rw [hs.eq] at e1
      obtain ⟨e2, e3⟩ := Res.nor.inj (Option.some.inj e1)
      exact ⟨⟨v, e2.symm⟩, hs.lt, by rw [e3], fun x _ => by rw [e3]⟩
    · rw [hop2] at hop
      have hop : oStore ty (.tmp d) x P nt s = .mk f := hop
      rcases cG_inv (show cG nt d (fun ga => cO P nt x fun gx => ocl (shape P ty) fun sh => sh.rec (motive := fun _ => Cl) fun n _ => .mk fun _ t h k => storeK n h (ga t) (gx t) fun h => k (s undefV t) h) = .mk f from hop) with hd | ⟨hlt, e1⟩
      · rw [hd] at h3; cases h3
      rcases cO_inv e1 with hd | ⟨gx, hgx, e2⟩
      · rw [hd] at h3; cases h3
      rcases ocl_inv e2 with hd | ⟨sh, hsh, e3⟩
      · rw [hd] at h3; cases h3
      cases sh with | mk n agg =>
      cases e3
      have h3 : storeK n h (getT t d) (gx t) (fun h => some (.nor (s undefV t) h)) = some (.nor q.1 q.2.1) := h3
      obtain ⟨qn, ys, e4, _⟩ := cellsK_some h3
      obtain ⟨_, e5⟩ := bi_some.1 e4
      rw [hp] at e5
      obtain ⟨m, l, z, _, _, e6, _⟩ := storeP_some e5
      obtain ⟨e7, e8⟩ := Res.nor.inj (Option.some.inj e6)
      rw [hs.eq] at e7
      refine ⟨⟨_, e7.symm⟩, hs.lt, by rw [← e8, H.nx_set], fun y hy => ?_⟩
      rw [hids] at hy
      rw [← e8, H.cl_set _ _ _ hid]
      have : y ≠ id := fun h => hy (by rw [h]; exact List.mem_singleton.2 rfl)
      simp only [if_neg this]
  · rw [hg] at hg2; cases hg2

theorem tAll_some {f : Nat → Option (List Leaf)} : ∀ {l : List Nat} {ls : List Leaf}, tAll l f = some ls → (∀ i ∈ l, ∃ x, f i = some x ∧ ∀ q ∈ x, q ∈ ls) ∧ ∀ q ∈ ls, ∃ i ∈ l, ∃ x, f i = some x ∧ q ∈ x
  | [], ls, e => by cases e; exact ⟨fun i h => (by cases h), fun q h => (by cases h)⟩
  | i :: r, ls, e => by
    obtain ⟨x, e1, e2⟩ := Option.bind_eq_some_iff.1 (show (f i).bind _ = some ls from e)
    obtain ⟨y, e3, rfl⟩ := Option.map_eq_some_iff.1 e2
    obtain ⟨h1, h2⟩ := tAll_some e3
    refine ⟨fun j hj => ?_, fun q hq => ?_⟩
    · rcases List.mem_cons.1 hj with rfl | hj
      · exact ⟨x, e1, fun q hq => List.mem_append_left _ hq⟩
      · obtain ⟨z, h3, h4⟩ := h1 j hj
        exact ⟨z, h3, fun q hq => List.mem_append_right _ (h4 q hq)⟩
    · rcases List.mem_append.1 hq with hq | hq
      · exact ⟨i, List.mem_cons_self .., x, e1, hq⟩
      · obtain ⟨j, h3, z, h4, h5⟩ := h2 q hq
        exact ⟨j, List.mem_cons_of_mem _ h3, z, h4, h5⟩

theorem mem_readyD {D : Nat → Bool} {i : Nat} : i ∈ readyD ops D ↔ i < ops.size ∧ D i = false ∧ ∃ o, ops[i]? = some o ∧ ∀ d ∈ deps o, D d = true := by
  unfold readyD
  rw [List.mem_filter, List.mem_range]
  refine and_congr_right fun hi => ?_
  rw [Bool.and_eq_true]
  refine and_congr (by simp) ?_
  rw [Array.getElem?_eq_getElem hi]
  simp

/-- what the ways of a tail have in common -/
theorem leaves_local {ih : IH} {m : Nat} {t0 : T} {h0 : H} (hgd : ∀ (i : Nat) (o : Oper), ops[i]? = some o → o.guard = none) (hnt : nt ≤ 256) : ∀ (n : Nat) {D : Nat → Bool} {t : T} {h : H} {ids : List Nat} {ls : List Leaf}, leaves (tStep pu P nt ops ih) ops n D t h ids = some ls →
    (∀ i, i < ops.size → D i = false → m ≤ i) → (∀ x, x < 256 → x ∉ tailDs ops m → getT t x = getT t0 x) → h.nx = h0.nx → (∀ x, x ∉ ids → h.cl x = h0.cl x) →
    ∀ q ∈ ls, (∀ x, x < 256 → x ∉ tailDs ops m → getT q.1 x = getT t0 x) ∧ q.2.1.nx = h0.nx ∧ ∀ x, x ∉ q.2.2 → q.2.1.cl x = h0.cl x := by
  intro n
  induction n with
  | zero =>
    intro D t h ids ls e hD ht hn hc q hq
    unfold leaves at e
    cases hb : (readyD ops D).isEmpty with
    | false => rw [hb] at e; cases e
    | true => rw [hb] at e; cases e; rw [List.mem_singleton] at hq; subst hq; exact ⟨ht, hn, hc⟩
  | succ n ih1 =>
    intro D t h ids ls e hD ht hn hc q hq
    unfold leaves at e
    cases hb : (readyD ops D).isEmpty with
    | true => rw [hb] at e; cases e; rw [List.mem_singleton] at hq; subst hq; exact ⟨ht, hn, hc⟩
    | false =>
      rw [hb] at e
      obtain ⟨i, hi, x, e1, hqx⟩ := (tAll_some (show tAll (readyD ops D) _ = some ls from e)).2 q hq
      obtain ⟨p, e2, e3⟩ := Option.bind_eq_some_iff.1 e1
      obtain ⟨i1, i2, o, i3, i4⟩ := mem_readyD.1 hi
      obtain ⟨⟨v, l1⟩, l4, l2, l3⟩ := tStep_local i3 (hgd i o i3) e2
      refine ih1 e3 (fun j hj hDj => ?_) (fun x hx hx2 => ?_) (by rw [l2]; exact hn) (fun x hx => ?_) q hqx
      · rw [Bool.or_eq_false_iff] at hDj; exact hD j hj hDj.2
      · rw [l1]
        cases hdst : o.dst with
        | none => exact ht x hx hx2
        | some d =>
          have hd : d ∈ tailDs ops m := by
            refine List.mem_filterMap.2 ⟨o, ?_, hdst⟩
            have hmi := hD i i1 i2
            have : (ops.toList.drop m)[i - m]? = some o := by rw [List.getElem?_drop, show m + (i - m) = i by omega, Array.getElem?_toList]; exact i3
            exact List.mem_of_getElem? this
          have hne : x ≠ d := fun h => hx2 (by rw [h]; exact hd)
          show getT (setT t d v) x = _
          rw [getT_setT _ _ _ _ (Nat.lt_of_lt_of_le (l4 d hdst) hnt) hx, if_neg hne]
          exact ht x hx hx2
      · rw [List.mem_append, not_or] at hx
        rw [l3 x hx.1]; exact hc x hx.2

/-- the tail at the machine, in whatever order -/
theorem leaves_ok (hpo : HpOK P hp) (hpu : PUOK P hp pu) {ih : IH} (hih : IHOK P hp ih) (hgd : ∀ (i : Nat) (o : Oper), ops[i]? = some o → o.guard = none) {l : Option Nat} {Q : Exit → Act → World → Prop} :
    ∀ (n : Nat) {D : Nat → Bool} {t : T} {h : H} {ids : List Nat} {ls : List Leaf}, leaves (tStep pu P nt ops ih) ops n D t h ids = some ls → ∀ {σ : Sg} {a : Act} {w : World} {listed : Array Bool}, listed.size = ops.size → (∀ j, j < ops.size → listed.getD j false = D j) →
    (∀ (i : Nat) (o : Oper), ops[i]? = some o → ∀ d ∈ deps o, d < i) → St P hp σ h w → (∀ id, h.nx ≤ id → σ id = none) → TR σ nt t a.tmps →
    (∀ q ∈ ls, ∀ a' w' σ', SExt σ h w σ' q.2.1 w' → HeapOK σ' q.2.1.cl w' → TR σ' nt q.1 a'.tmps → a'.defers = a.defers → Q .normal a' w') → wpAnyIn (Fx l) 0 P .any ops Q n listed a w := by
  have hrd : ∀ {D : Nat → Bool} {listed : Array Bool}, listed.size = ops.size → (∀ j, j < ops.size → listed.getD j false = D j) → (∀ (i : Nat) (o : Oper), ops[i]? = some o → ∀ d ∈ deps o, d < i) → ∀ i, i ∈ Region.ready .any ops listed ↔ i ∈ readyD ops D := fun {D listed} hs hl hd i => by
    rw [mem_ready, mem_readyD]
    constructor
    · intro ⟨q1, q2, o, q3, q4⟩
      refine ⟨q1, by rw [← hl i q1, ← getD_tf (by omega)]; exact q2, o, q3, fun d hd1 => ?_⟩
      rw [← hl d (by have := hd i o q3 d hd1; omega)]; exact q4 d hd1
    · intro ⟨q1, q2, o, q3, q4⟩
      refine ⟨q1, by rw [getD_tf (by omega), hl i q1]; exact q2, o, q3, fun d hd1 => ?_⟩
      rw [hl d (by have := hd i o q3 d hd1; omega)]; exact q4 d hd1
  intro n
  induction n with
  | zero =>
    intro D t h ids ls e σ a w listed hs hl hd st fr ht hQ
    unfold leaves at e
    cases hb : (readyD ops D).isEmpty with
    | false => rw [hb] at e; cases e
    | true =>
      rw [hb] at e; cases e
      have hr : Region.ready .any ops listed = [] := by
        rw [List.eq_nil_iff_forall_not_mem]
        intro i hi
        have := (hrd hs hl hd i).1 hi
        rw [List.isEmpty_iff.1 hb] at this; cases this
      exact ⟨hr, hQ _ (List.mem_singleton.2 rfl) a w σ (SExt.refl _ _ _) st.ok ht rfl⟩
  | succ n ih1 =>
    intro D t h ids ls e σ a w listed hs hl hd st fr ht hQ
    unfold leaves at e
    cases hb : (readyD ops D).isEmpty with
    | true =>
      rw [hb] at e; cases e
      have hr : Region.ready .any ops listed = [] := by
        rw [List.eq_nil_iff_forall_not_mem]
        intro i hi
        have := (hrd hs hl hd i).1 hi
        rw [List.isEmpty_iff.1 hb] at this; cases this
      refine ⟨fun _ => hQ _ (List.mem_singleton.2 rfl) a w σ (SExt.refl _ _ _) st.ok ht rfl, fun i hi => ?_⟩
      rw [hr] at hi; cases hi
    | false =>
      rw [hb] at e
      have hall := (tAll_some (show tAll (readyD ops D) _ = some ls from e)).1
      refine ⟨fun hr => ?_, fun i hi => ?_⟩
      · exfalso
        cases hx : readyD ops D with
        | nil => rw [hx] at hb; cases hb
        | cons y r =>
          have := (hrd hs hl hd y).2 (by rw [hx]; exact List.mem_cons_self ..)
          rw [hr] at this; cases this
      · have hiD := (hrd hs hl hd i).1 hi
        obtain ⟨x, e1, hxl⟩ := hall i hiD
        obtain ⟨p, e2, e3⟩ := Option.bind_eq_some_iff.1 e1
        obtain ⟨i1, i2, o, i3, i4⟩ := mem_readyD.1 hiD
        obtain ⟨o', f, j1, j2, j3, j4⟩ := tStep_some e2
        rw [i3] at j1
        cases j1
        have hlt : ∀ nn, o.dst = some nn → nn < nt := (tStep_local i3 (hgd i o i3) e2).2.1
        obtain ⟨v, h', k1, k2, k3⟩ := cOper_ok hpo hpu j2 ih hih t h _ _ j3
        obtain ⟨k4, k5⟩ := Res.nor.inj (Option.some.inj k1)
        subst k5
        have hstp := k3 σ l a w st ht (fun id h1 _ => fr id h1)
        have := hstp (wpAnyIn (Fx l) 0 P .any ops Q n (listed.setIfInBounds i true)) Q fun a' w' ⟨v', σ', ha, x1, x2, x3⟩ => by
          subst ha
          refine ih1 e3 (σ := σ') (by simp [hs]) (fun j hj => by rw [set_getD (by omega), hl j hj]) hd (st.next x1 x2) (fun id hid => ?_) (by rw [← k4]; exact (ht.mono x1.up).put hlt x3) fun q hq a2 w2 σ2 y1 y2 y3 y4 => hQ q (hxl q hq) a2 w2 σ2 (x1.trans y1) y2 y3 (by rw [y4, put_defers])
          rw [x1.out id (by omega)]; exact fr id (by omega)
        simpa only [wpOpIn, i3] using this

theorem eqBl_ok {a b : B} (h : eqBl a b = true) : a = b := by
  unfold eqBl at h
  split at h
  · simp only [Bool.and_eq_true] at h
    rw [Nat.eq_of_beq_eq_true h.1, eqV_ok h.2]
  · cases h
theorem agreeL_ok {ds : List Nat} {q0 q : Leaf} (h : agreeL ds q0 q = true) : q.2.1.nx = q0.2.1.nx ∧ (∀ d ∈ ds, getT q.1 d = getT q0.1 d) ∧ ∀ id ∈ q.2.2 ++ q0.2.2, q.2.1.cl id = q0.2.1.cl id := by
  unfold agreeL at h
  simp only [Bool.and_eq_true, List.all_eq_true] at h
  obtain ⟨⟨h1, h2⟩, h3⟩ := h
  obtain ⟨t, hq, ids⟩ := q
  obtain ⟨t0, hq0, ids0⟩ := q0
  cases hq with | mk n tr =>
  cases hq0 with | mk n0 tr0 =>
  refine ⟨Nat.eq_of_beq_eq_true h1, fun d hd => eqV_ok (h2 d hd), fun id hid => ?_⟩
  have h4 := h3 id hid
  have hlt : id < 65536 := by simpa [Nat.blt_eq] using h4.1
  show (if id < 65536 then tr.get id else .dead) = (if id < 65536 then tr0.get id else .dead)
  rw [if_pos hlt, if_pos hlt]
  exact eqBl_ok h4.2

theorem cSplit_ok (hpo : HpOK P hp) (hpu : PUOK P hp pu) {m : Nat} {f : F} (e : cSplit pu P nt ops m = .mk f) : AnyOK P hp nt ops f := by
  rcases bcl_inv e with hd | ⟨hok, e1⟩
  · exact fun ih _ t hh k r er => by rw [hd] at er; cases er
  obtain ⟨p1, p2, p3, p4, p5, ⟨ol, p6, _⟩, p7⟩ := preOk_spec hok
  have hms : m ≤ ops.size := by have := (Array.getElem?_eq_some_iff.1 p6).1; omega
  cases hc : cDrawB pu P nt (preOps ops m) with | mk f1 =>
  rw [hc] at e1
  cases e1
  intro ih hih t h k r er
  obtain ⟨t1, h1, e2, hnx, hrun⟩ := cDrawB_ok hpo hpu p7 hc ih hih t h _ r er
  have e2 : tailK pu P nt ops m ih t1 h1 k = some r := e2
  unfold tailK at e2
  split at e2
  · rename_i q0 rest hlv
    cases hag : rest.all (agreeL (tailDs ops m) q0) with
    | false => rw [hag] at e2; cases e2
    | true =>
      rw [hag] at e2
      have hall : ∀ q ∈ q0 :: rest, q = q0 ∨ agreeL (tailDs ops m) q0 q = true := fun q hq => by
        rcases List.mem_cons.1 hq with h | h
        · exact .inl h
        · exact .inr (List.all_eq_true.1 hag q h)
      -- nt is small where the front was compiled
      have hnt : nt ≤ 256 := by
        rcases bcl_inv hc with hd | ⟨htm, _⟩
        · have er : f1 ih t h (fun t1 h1 => tailK pu P nt ops m ih t1 h1 k) = some r := er
          rw [hd] at er; cases er
        · unfold tmpsOk at htm
          rw [Bool.and_eq_true] at htm
          exact Nat.le_of_ble_eq_true htm.1
      have hloc := leaves_local (m := m) (t0 := t1) (h0 := h1) p3 hnt _ hlv (fun i _ hi => by
        rcases Nat.lt_or_ge i m with hh | hh
        · have : Nat.blt i m = true := by simpa [Nat.blt_eq] using hh
          rw [this] at hi; cases hi
        · exact hh) (fun _ _ _ => rfl) rfl (fun _ _ => rfl)
      have h00 := hloc q0 (List.mem_cons_self ..)
      have hsame : ∀ q ∈ q0 :: rest, q.2.1.nx = q0.2.1.nx ∧ q.2.1.cl = q0.2.1.cl ∧ ∀ x, x < 256 → getT q.1 x = getT q0.1 x := fun q hq => by
        rcases hall q hq with rfl | ha
        · exact ⟨rfl, rfl, fun _ _ => rfl⟩
        obtain ⟨a1, a2, a3⟩ := agreeL_ok ha
        obtain ⟨b1, b2, b3⟩ := hloc q hq
        refine ⟨a1, funext fun x => ?_, fun x hx => ?_⟩
        · by_cases hx : x ∈ q.2.2 ++ q0.2.2
          · exact a3 x hx
          · rw [List.mem_append, not_or] at hx
            rw [b3 x hx.1, h00.2.2 x hx.2]
        · by_cases hd : x ∈ tailDs ops m
          · exact a2 x hd
          · rw [b1 x hx hd, h00.1 x hx hd]
      refine ⟨q0.1, q0.2.1, e2, by rw [h00.2.1]; exact hnx, fun σ l a w w1 n0 hw1 st fr ht mk hn => ?_⟩
      have hfr : ∀ id, h.nx ≤ id → σ id = none := fun id hid => fr id hid (Nat.zero_le _)
      have hpre := hrun σ l a w w1 n0 hw1 st (fun id hid _ => hfr id hid) ht mk hn
      have hsz := pre_size (ops := ops) hms
      rw [hsz] at hpre
      have hQn : ∀ e a w', PostOK P σ h w nt n0 (.nor t1 h1) e a w' → e = .normal := fun e a w' hp => by
        obtain ⟨_, _, _, hx, _⟩ := hp
        rcases hx with ⟨_, h⟩ | ⟨h, _⟩ | ⟨_, h, _⟩
        · exact h
        · cases h
        · cases h
      have := any_front (k := ops.size - m) (Q := PostOK P σ h w nt n0 (.nor q0.1 q0.2.1)) hok hms hQn (fun a2 w2 listed hp hs hl => ?_) m (Array.replicate m false) (Array.replicate ops.size false) a w1 (by simp) (by simp) (fun j hj => ?_) (fun j hj hjo => ?_) (fun hl => ?_) ⟨List.range m, by simp, List.nodup_range, fun j => ?_⟩ hpre
      · rw [show m + (ops.size - m) = ops.size by omega] at this
        exact this
      · obtain ⟨t2, h2, σ1, hx, x1, x2, x3, x4⟩ := hp
        have hth : t2 = t1 ∧ h2 = h1 := by
          rcases hx with ⟨h, _⟩ | ⟨h, _⟩ | ⟨_, h, _⟩ <;> cases h
          exact ⟨rfl, rfl⟩
        obtain ⟨rfl, rfl⟩ := hth
        refine leaves_ok hpo hpu hih p3 _ hlv (σ := σ1) hs hl p4 (st.next x1 x2) (fun id hid => ?_) x3 fun q hq a3 w3 σ3 y1 y2 y3 y4 => ?_
        · rw [x1.out id (by omega)]; exact hfr id (by omega)
        · obtain ⟨c1, c2, c3⟩ := hsame q hq
          have z1 := x1.trans y1
          have z2 : SExt σ h w σ3 q0.2.1 w3 := ⟨by have := z1.toExt; rw [c2] at this; exact this, by rw [← c1]; exact z1.nx, fun id hid => z1.out id (by rw [c1]; exact hid)⟩
          refine ⟨q0.1, q0.2.1, σ3, .inl ⟨rfl, rfl⟩, z2, by rw [← c2]; exact y2, ⟨y3.size, y3.few, fun x hx => ?_⟩, ?_⟩
          · rw [← c3 x (Nat.lt_of_lt_of_le hx y3.few)]; exact y3.at_ x hx
          · have mk2 := x4.next y1
            rw [c2] at mk2
            rw [y4]; exact mk2
      · simp only [Array.getD_eq_getD_getElem?, Array.getElem?_replicate]; rw [if_pos hj, if_pos (by omega)]
      · simp only [Array.getD_eq_getD_getElem?, Array.getElem?_replicate]; split <;> rfl
      · exfalso
        simp only [Array.getD_eq_getD_getElem?, Array.getElem?_replicate] at hl
        split at hl <;> cases hl
      · rw [List.mem_range]
        simp only [Array.getD_eq_getD_getElem?, Array.getElem?_replicate]
        constructor
        · intro hj; exact ⟨hj, by rw [if_pos hj]; rfl⟩
        · exact fun h => h.1
  · cases e2

theorem cDraw_ok (hpo : HpOK P hp) (hpu : PUOK P hp pu) (hmix : P.follows .mixedOrders = true) {f : F} (e : cDraw pu P nt ops = .mk f) : DrawOK P hp nt ops f := by
  have key : AnyOK P hp nt ops f := by
    have e : (drawOk ops).rec (motive := fun _ => Cl) (ocl (preN ops) (cSplit pu P nt ops)) (cDrawB pu P nt ops) = .mk f := e
    cases hd : drawOk ops with
    | true => rw [hd] at e; exact cDrawB_ok hpo hpu hd e
    | false =>
      rw [hd] at e
      rcases ocl_inv e with hdd | ⟨m, _, e1⟩
      · exact fun ih _ t hh k r er => by rw [hdd] at er; cases er
      · exact cSplit_ok hpo hpu e1
  intro ih hih t h k r er
  obtain ⟨t', h', e1, e2, e3⟩ := key ih hih t h k r er
  exact ⟨t', h', e1, e2, fun σ l a w n0 id st fr ht mk hn => wpIn_region_any hmix (e3 σ l a w _ n0 rfl st fr ht mk hn)⟩

/-- **THE EVALUATOR TELLS WHAT THE MACHINE DOES** -/
theorem sound (hpo : HpOK P hp) (hpu : PUOK P hp pu) (hmix : P.follows .mixedOrders = true) (n : Nat) : IHOK P hp (ev pu P n) := ev_ok hpo hpu (fun _ _ _ e => cDraw_ok hpo hpu hmix e) n
end
end Go.Ev
namespace Go.Ev
open Go.RowKit
section
variable {P : Program} {hp : H}

/-- the globals alone have numbers -/
def gSg (P : Program) (sz : Nat → Nat) : Sg := ⟨fun id => if id < P.globals.size then some (id, sz id) else none, fun _ => none⟩

theorem below_of {σ σ' : Sg} {h' : H} {w w' : World} (hpo : HpOK P hp) (e : SExt σ hp w σ' h' w') : Below w.heap.size w w' := by
  refine ⟨e.same.os, e.same.tape, e.same.output, e.size, fun b hb => ?_⟩
  by_cases hx : ∃ id sz, hp.cl id ≠ .dead ∧ σ id = some (b, sz)
  · obtain ⟨id, sz, h1, h2⟩ := hx
    obtain ⟨n, l, hn⟩ := hpo.tab id h1
    exact e.tabk id n l b sz hn h2 hb
  · exact e.keep b hb fun id sz h1 h2 => hx ⟨id, sz, h1, h2⟩

/-- **A CALL THAT THE EVALUATOR SAYS IS TRUE RETURNS TRUE**, and turns no old block. -/
theorem calls_true {ih : IH} (hih : IHOK P hp ih) (hpo : HpOK P hp) {f : FuncId} {args : V} {vs : Array Value} {w : World} {σ : Sg} (st : St P hp σ hp w) (hfr : ∀ id, hp.nx ≤ id → σ id = none) (hv : VRs σ args vs.toList) {h' : H} (e : ih (.call f args hp) = some (.val (.b true) h')) :
    Calls P f vs w fun e W' => e = .returned (.bool true) ∧ Below w.heap.size w W' := by
  obtain ⟨x, h'', h1, h2, h3, h4⟩ := hih.call _ _ _ _ e
  cases h1
  refine callsIn_wide.1 ((h4 σ w vs st (fun id hid _ => hfr id hid) hv).mono fun e W' hR => ?_)
  obtain ⟨v, σ', rfl, q1, q2, q3⟩ := hR
  cases q3
  exact ⟨rfl, below_of hpo q1⟩
def isTrue (r : R) : Bool := r.rec false fun r => r.rec (fun v _ => v.rec (fun x => x) (fun _ _ => false) (fun _ _ => false) (fun _ _ _ => false) (fun _ _ => false) (fun _ => false) (fun _ _ => false) (fun _ _ _ _ => false) (fun _ => false) (fun _ _ _ _ _ => false) (fun _ => false) (fun _ _ _ => false) (fun _ _ => false) (fun _ _ _ => false) (fun _ _ _ _ => false) (fun _ _ => false) false false (fun _ _ _ _ => false)) (fun _ _ => false) (fun _ _ => false) (fun _ _ _ => false)
theorem isTrue_ok {r : R} (h : isTrue r = true) : ∃ h', r = some (.val (.b true) h') := by
  cases r with
  | none => cases h
  | some r =>
    cases r with
    | val v h' =>
      cases v with
      | b x => cases x <;> first | (cases h; done) | exact ⟨_, rfl⟩
      | _ => cases h
    | _ => cases h
end
end Go.Ev
namespace Go.Ev
section
variable {P : Program}
def h0T (nx g n : Nat) (l : V) : H := (H.mk nx HTe).set g (.tab n l)
theorem h0T_cl (nx g n : Nat) (l : V) (hg : g < 65536) (x : Nat) : (h0T nx g n l).cl x = if x = g then .tab n l else .dead := by
  unfold h0T
  rw [H.cl_set _ _ _ hg]
  by_cases h : x = g
  · simp [h]
  · simp only [if_neg h]
    show (if x < 65536 then HTe.get x else .dead) = .dead
    split
    · unfold HT.get HTe
      rw [N.get_all, N.get_all, N.get_all, N.get_all]
    · rfl
theorem h0T_nx (nx g n : Nat) (l : V) : (h0T nx g n l).nx = nx := by unfold h0T; rw [H.nx_set]; rfl
theorem h0T_ok {nx g n : Nat} {l : V} (hb : g < 65536) (h1 : P.globals.size ≤ nx) (h2 : g < nx) : HpOK P (h0T nx g n l) := by
  refine ⟨fun id h => ?_, by rw [h0T_nx]; exact h1, fun id h => ?_⟩
  · rw [h0T_cl _ _ _ _ hb] at h ⊢
    by_cases hi : id = g
    · exact ⟨n, l, by simp [hi]⟩
    · simp [hi] at h
  · rw [h0T_cl _ _ _ _ hb] at h
    rw [h0T_nx]
    by_cases hi : id = g
    · omega
    · simp [hi] at h
theorem h0T_st {nx g n : Nat} {l : V} (hb : g < 65536) (h1 : P.globals.size ≤ nx) (hg : g < P.globals.size) (hn : 0 < n) {W : World} {vs : List Value} (hl : vs.length = n) (hv : ∀ τ, VRs τ l vs) (hc : ∀ c v, vs[c]? = some v → W.cell? ⟨g, c, none⟩ = some v) :
    ∃ σ, St P (h0T nx g n l) σ (h0T nx g n l) W ∧ ∀ id, (h0T nx g n l).nx ≤ id → σ id = none := by
  have h0 : ∃ (C : Array Value) (e : TypeId) (fr : Nat × Nat), W.heap[g]? = some (.cells C e fr) ∧ ∀ (c : Nat) (v : Value), vs[c]? = some v → C[c]? = some v := by
    have hx := hc 0 (vs[0]'(by omega)) (List.getElem?_eq_getElem (by omega))
    unfold World.cell? at hx hc
    cases ho : W.heap[g]? with
    | none => simp [ho] at hx
    | some o =>
      cases o with
      | cells C e fr => exact ⟨C, e, fr, rfl, fun c v h => by have := hc c v h; simpa [ho] using this⟩
      | _ => simp [ho] at hx
  obtain ⟨C, e, fr, hC, hcv⟩ := h0
  have hsz : n ≤ C.size := by
    have := hcv (n - 1) (vs[n - 1]'(by omega)) (List.getElem?_eq_getElem (by omega))
    have := (Array.getElem?_eq_some_iff.1 this).1
    omega
  have htake : C.toList.take n = vs := by
    apply List.ext_getElem?
    intro i
    rw [List.getElem?_take]
    by_cases hi : i < n
    · rw [if_pos hi, Array.getElem?_toList]
      rw [List.getElem?_eq_getElem (by omega)]
      exact hcv i _ (List.getElem?_eq_getElem (by omega))
    · rw [if_neg hi, List.getElem?_eq_none (by omega)]
  refine ⟨gSg P fun _ => C.size, ⟨fun g hgl => ⟨C.size, by simp [gSg, hgl]⟩, ⟨fun id hid => ?_, fun id id' b s1 s2 h2 h3 e1 e2 => ?_, fun b C h => (by cases h)⟩, fun _ _ _ h => h, Nat.le_refl _⟩, fun id hid => ?_⟩
  · rw [h0T_cl _ _ _ _ hb] at hid ⊢
    by_cases hi : id = g
    · subst hi
      rw [if_pos rfl]
      refine ⟨id, C.size, .cells C e fr, by simp [gSg, hg], hC, C, e, fr, rfl, rfl, hsz, fun τ => by rw [htake]; exact hv τ⟩
    · simp [hi] at hid
  · rw [h0T_cl _ _ _ _ hb] at h2 h3
    have a : id = g := by by_cases h : id = g <;> simp_all
    have b : id' = g := by by_cases h : id' = g <;> simp_all
    rw [a, b]
  · rw [h0T_nx] at hid
    simp only [gSg]; rw [if_neg (by omega)]
end
end Go.Ev
namespace Go.Ev
def knNil (v : V) : Bool := v.rec (fun _ => false) (fun _ _ => false) (fun _ _ => false) (fun _ _ _ => false) (fun _ _ => false) (fun _ => false) (fun _ _ => false) (fun _ _ _ _ => false) (fun _ => false) (fun _ _ _ _ _ => false) (fun _ => false) (fun _ _ _ => false) (fun _ _ => false) (fun _ _ _ => false) (fun _ _ _ _ => false) (fun _ _ => false) false true (fun _ _ _ _ => false)
def valH (d : H) (r : R) : H := r.rec d fun r => r.rec (fun _ h => h) (fun _ _ => d) (fun _ _ => d) (fun _ _ _ => d)
def know (kn : Nat) (d : H) (pu : PU) : PU := fun f vs => (Nat.beq f kn).rec (pu f vs) ((knNil vs).rec (pu f vs) (some (.val (.b true) (valH d (pu kn .nil)))))
theorem knNil_ok {v : V} (h : knNil v = true) : v = .nil := by cases v <;> first | rfl | cases h
theorem know_eq {kn : Nat} {d : H} {pu : PU} (hk : isTrue (pu kn .nil) = true) : know kn d pu = pu := by
  obtain ⟨h', e⟩ := isTrue_ok hk
  funext f vs
  unfold know
  cases hf : Nat.beq f kn with
  | false => rfl
  | true =>
    obtain rfl := Nat.eq_of_beq_eq_true hf
    cases hn : knNil vs with
    | false => rfl
    | true =>
      obtain rfl := knNil_ok hn
      rw [e]
      rfl
end Go.Ev
namespace Go.Ev
section
variable {P : Program} {hp : H}
def evM (mem : IH → IH) (pu : PU) (P : Program) (n : Nat) : IH := n.rec (fun _ => none) (fun _ ih => step pu P (mem ih))
theorem soundM {mem : IH → IH} {pu : PU} (hpo : HpOK P hp) (hpu : PUOK P hp pu) (hmix : P.follows .mixedOrders = true) (hmem : ∀ ih, IHOK P hp ih → IHOK P hp (mem ih)) : ∀ n, IHOK P hp (evM mem pu P n)
  | 0 => ⟨fun _ _ _ _ e => (by cases e), fun _ _ _ _ _ _ e => (by cases e)⟩
  | n + 1 => step_ok hpo hpu (fun _ _ _ e => cDraw_ok hpo hpu hmix e) (hmem _ (soundM hpo hpu hmix hmem n))
end
end Go.Ev
namespace Go.Ev
open Go

def dropV : Nat → V → V
  | 0, l => l
  | n + 1, .cons _ r => dropV n r
  | _ + 1, _ => .nil
def takeV : Nat → V → V
  | 0, _ => .nil
  | n + 1, .cons x r => .cons x (takeV n r)
  | _ + 1, _ => .nil

theorem dropV_ok {σ : Sg} : ∀ (n : Nat) {l : V} {L : List Value}, VRs σ l L → VRs σ (dropV n l) (L.drop n)
  | 0, _, _, h => h
  | _ + 1, _, _, .nil => .nil
  | n + 1, _, _, .cons _ hr => dropV_ok n hr
theorem takeV_ok {σ : Sg} : ∀ (n : Nat) {l : V} {L : List Value}, VRs σ l L → VRs σ (takeV n l) (L.take n)
  | 0, _, _, _ => by simp only [takeV, List.take_zero]; exact .nil
  | _ + 1, _, _, .nil => .nil
  | n + 1, _, _, .cons h hr => .cons h (takeV_ok n hr)

/-- no number of a heap but those below g -/
def fro (g : Nat) : V → Bool
  | .b _ | .i _ _ | .j _ _ | .r _ _ _ | .s _ _ | .z _ | .un | .nil => true
  | .p id _ => decide (id < g)
  | .l id _ _ _ => decide (id < g)
  | .m id => decide (id < g)
  | .y _ => false
  | .f _ x y => fro g x && fro g y
  | .a _ l => fro g l
  | .t l => fro g l
  | .c _ x => fro g x
  | .k _ _ l => fro g l
  | .q l => fro g l
  | .cons x r => fro g x && fro g r

mutual
theorem fro_ok {g : Nat} {σ τ : Sg} (ha : ∀ id x, id < g → σ id = some x → τ id = some x) (hf : ∀ b C, σ.fz b = some C → τ.fz b = some C) {x : V} {v : Value} (hx : fro g x = true) : VR σ x v → VR τ x v
  | .b x => .b x
  | .i k n => .i k n
  | .j k n => .j k n
  | .r k m n hn => .r k m n hn
  | .s b => .s b
  | .z0 => .z0 | .z1 => .z1 | .z2 => .z2 | .z3 => .z3 | .z4 => .z4
  | .p e hi => .p (ha _ _ (by simpa [fro] using hx) e) hi
  | .l e hi hc hs => .l (ha _ _ (by simpa [fro] using hx) e) hi hc hs
  | .l0 e hi => .l0 (ha _ _ (by simpa [fro] using hx) e) hi
  | .m e hi => .m (ha _ _ (by simpa [fro] using hx) e) hi
  | .f h1 h2 => .f (fros_ok ha hf (by simp [fro] at hx; exact hx.1) h1) (fros_ok ha hf (by simp [fro] at hx; exact hx.2) h2)
  | .y e hi => by simp [fro] at hx
  | .a g => .a (fros_ok ha hf (by simpa [fro] using hx) g)
  | .t g => .t (fros_ok ha hf (by simpa [fro] using hx) g)
  | .c g => .c (fro_ok ha hf (by simpa [fro] using hx) g)
  | .k e hl hm hc g => .k (hf _ _ e) hl hm hc (fros_ok ha hf (by simpa [fro] using hx) g)
  | .k0 => .k0
  | .q e hl g => .q (hf _ _ e) hl (fros_ok ha hf (by simpa [fro] using hx) g)
  | .un => .un
theorem fros_ok {g : Nat} {σ τ : Sg} (ha : ∀ id x, id < g → σ id = some x → τ id = some x) (hf : ∀ b C, σ.fz b = some C → τ.fz b = some C) {x : V} {l : List Value} (hx : fro g x = true) : VRs σ x l → VRs τ x l
  | .nil => .nil
  | .cons h1 h2 => .cons (fro_ok ha hf (by simp [fro] at hx; exact hx.1) h1) (fros_ok ha hf (by simp [fro] at hx; exact hx.2) h2)
end

/-- a value frozen, out of the heap h: numbers from g on are gone -/
noncomputable def frzB (g : Nat) (h : H) (ih : V → Option V) : V → Option V
  | .b x => some (.b x) | .i a b => some (.i a b) | .j a b => some (.j a b) | .r a b c => some (.r a b c) | .s a b => some (.s a b) | .z a => some (.z a) | .un => some .un
  | .p id off => if id < g then some (.p id off) else match h.cl id with | .cells n l => if off ≤ n then (ih (dropV off l)).map .q else none | _ => none
  | .l id off len es => if id < g then some (.l id off len es) else match h.cl id with | .cells n l => if off + len * es ≤ n then (ih (takeV (len * es) (dropV off l))).map (.k es len) else none | _ => none
  | .m _ => none
  | .f a x y => (frzB g h ih x).bind fun x => (frzB g h ih y).map fun y => .f a x y
  | .y _ => none
  | .a n l => (frzB g h ih l).map (.a n)
  | .t l => (frzB g h ih l).map .t
  | .c ty v => (frzB g h ih v).map (.c ty)
  | .k es n l => (frzB g h ih l).map (.k es n)
  | .q l => (frzB g h ih l).map .q
  | .nil => some .nil
  | .cons x r => (frzB g h ih x).bind fun x => (frzB g h ih r).map fun r => .cons x r
noncomputable def frz (g : Nat) (h : H) : Nat → V → Option V
  | 0, _ => none
  | n + 1, v => frzB g h (frz g h n) v

open Classical in
noncomputable def fzAll (g : Nat) (σ : Sg) (c : Cm) (w : World) : Nat → Option (List Value) := fun b =>
  match σ.fz b with
  | some C => some C
  | none => if (∃ id sz n l, g ≤ id ∧ c id = .cells n l ∧ σ id = some (b, sz)) then (match w.heap[b]? with | some (.cells C _ _) => some C.toList | _ => none) else none
noncomputable def frzSg (g : Nat) (σ : Sg) (c : Cm) (w : World) : Sg := ⟨fun id => if id < g then σ id else none, fzAll g σ c w⟩

theorem fzAll_old {g : Nat} {σ : Sg} {c : Cm} {w : World} {b : Nat} {C : List Value} (h : σ.fz b = some C) : fzAll g σ c w b = some C := by
  unfold fzAll; rw [h]
/-- the block of a number that lives -/
theorem fzAll_new {g : Nat} {σ : Sg} {c : Cm} {w : World} (ok : HeapOK σ c w) {id n b sz : Nat} {l : V} (hg : g ≤ id) (hc : c id = .cells n l) (hs : σ id = some (b, sz)) :
    ∃ C : Array Value, fzAll g σ c w b = some C.toList ∧ C.size = sz ∧ n ≤ sz ∧ VRs σ l (C.toList.take n) ∧ ∃ e fr, w.heap[b]? = some (.cells C e fr) := by
  have hd : c id ≠ .dead := by rw [hc]; intro h; cases h
  obtain ⟨b', sz', o, g1, g2, g3⟩ := ok.ok id hd
  rw [hs] at g1
  obtain ⟨rfl, rfl⟩ := Prod.mk.inj (Option.some.inj g1)
  rw [hc] at g3
  obtain ⟨C, e, fr, rfl, q1, q2, q3, _⟩ := g3
  refine ⟨C, ?_, q1, q2, q3, e, fr, g2⟩
  unfold fzAll
  cases hz : σ.fz b with
  | some C0 => exact absurd hs ((ok.fz b C0 hz).2 id _ hd)
  | none =>
    simp only
    rw [if_pos ⟨id, _, n, l, hg, hc, hs⟩, g2]
/-- what is frozen anew had a number -/
theorem fzAll_inv {g : Nat} {σ : Sg} {c : Cm} {w : World} {b : Nat} {C : List Value} (h : fzAll g σ c w b = some C) : σ.fz b = some C ∨ (σ.fz b = none ∧ (∃ id sz n l, g ≤ id ∧ c id = .cells n l ∧ σ id = some (b, sz)) ∧ ∃ e fr, w.heap[b]? = some (.cells C.toArray e fr)) := by
  unfold fzAll at h
  cases hz : σ.fz b with
  | some C0 => rw [hz] at h; exact .inl h
  | none =>
    rw [hz] at h
    simp only at h
    split at h
    · rename_i hx
      refine .inr ⟨rfl, hx, ?_⟩
      split at h
      · rename_i C0 e fr he
        cases h
        exact ⟨e, fr, by rw [he]⟩
      · cases h
    · cases h

theorem frzB_ok {g : Nat} {σ : Sg} {h : H} {w : World} (ok : HeapOK σ h.cl w) {ih : V → Option V}
    (hih : ∀ v u, ih v = some u → ∀ L, VRs σ v L → VRs (frzSg g σ h.cl w) u L) :
    ∀ (v u : V), frzB g h ih v = some u → (∀ x, VR σ v x → VR (frzSg g σ h.cl w) u x) ∧ (∀ L, VRs σ v L → VRs (frzSg g σ h.cl w) u L) := by
  have hat : ∀ id x, id < g → σ id = some x → (frzSg g σ h.cl w) id = some x := fun id x hi hs => by
    show (if id < g then σ id else none) = some x
    rw [if_pos hi]; exact hs
  intro v
  induction v with
  | b x => intro u e; cases e; exact ⟨fun x h => by cases h; exact .b _, fun L h => by cases h⟩
  | i a b => intro u e; cases e; exact ⟨fun x h => by cases h; exact .i _ _, fun L h => by cases h⟩
  | j a b => intro u e; cases e; exact ⟨fun x h => by cases h; exact .j _ _, fun L h => by cases h⟩
  | r a b c => intro u e; cases e; exact ⟨fun x h => by cases h; exact .r _ _ _ (by assumption), fun L h => by cases h⟩
  | s a b => intro u e; cases e; exact ⟨fun x h => (by cases h; exact .s _), fun L h => (by cases h)⟩
  | z a => intro u e; cases e; exact ⟨fun x h => (by cases h <;> constructor), fun L h => (by cases h)⟩
  | m a => intro u e; cases e
  | y a => intro u e; cases e
  | nil => intro u e; cases e; exact ⟨fun x h => (by cases h), fun L h => (by cases h; exact .nil)⟩
  | un => intro u e; cases e; exact ⟨fun x h => .un, fun L h => (by cases h)⟩
  | p id off =>
    intro u e
    refine ⟨fun x hx => ?_, fun L h => by cases h⟩
    simp only [frzB] at e
    split at e
    · rename_i hi
      cases e
      cases hx with
      | p hs hb => exact .p (hat _ _ hi hs) hb
    · rename_i hi
      split at e
      · rename_i n l hc
        split at e
        · rename_i ho
          obtain ⟨xs, e1, rfl⟩ := Option.map_eq_some_iff.1 e
          cases hx with
          | p hs hb =>
            obtain ⟨C, q1, q2, q3, q4, _⟩ := fzAll_new ok (Nat.le_of_not_lt hi) hc hs
            have := hih _ _ e1 _ (dropV_ok off q4)
            rw [List.drop_take] at this
            exact .q (m := n - off) q1 (by rw [Array.length_toList]; omega) this
        · cases e
      · cases e
  | l id off len es =>
    intro u e
    refine ⟨fun x hx => ?_, fun L h => by cases h⟩
    simp only [frzB] at e
    split at e
    · rename_i hi
      cases e
      cases hx with
      | l hs hb hc hz => exact .l (hat _ _ hi hs) hb hc hz
      | l0 hs hb => exact .l0 (hat _ _ hi hs) hb
    · rename_i hi
      split at e
      · rename_i n l hc
        split at e
        · rename_i ho
          obtain ⟨xs, e1, rfl⟩ := Option.map_eq_some_iff.1 e
          cases hx with
          | l hs hb hcp hz =>
            obtain ⟨C, q1, q2, q3, q4, _⟩ := fzAll_new ok (Nat.le_of_not_lt hi) hc hs
            have := hih _ _ e1 _ (takeV_ok (len * es) (dropV_ok off q4))
            rw [List.drop_take, List.take_take, Nat.min_eq_left (by omega)] at this
            exact .k q1 (by rw [Array.length_toList]; omega) (Nat.le_refl _) hcp this
          | l0 hs hb => exact .k0
        · cases e
      · cases e
  | f a x y ihx ihy =>
    intro u e
    refine ⟨fun v hv => ?_, fun L h => by cases h⟩
    simp only [frzB] at e
    obtain ⟨x', e1, e2⟩ := Option.bind_eq_some_iff.1 e
    obtain ⟨y', e3, rfl⟩ := Option.map_eq_some_iff.1 e2
    cases hv with
    | f hx hy => exact .f ((ihx _ e1).2 _ hx) ((ihy _ e3).2 _ hy)
  | a n l ihl =>
    intro u e
    refine ⟨fun v hv => ?_, fun L h => by cases h⟩
    simp only [frzB] at e
    obtain ⟨x', e1, rfl⟩ := Option.map_eq_some_iff.1 e
    cases hv with
    | a hx => exact .a ((ihl _ e1).2 _ hx)
  | t l ihl =>
    intro u e
    refine ⟨fun v hv => ?_, fun L h => by cases h⟩
    simp only [frzB] at e
    obtain ⟨x', e1, rfl⟩ := Option.map_eq_some_iff.1 e
    cases hv with
    | t hx => exact .t ((ihl _ e1).2 _ hx)
  | c ty l ihl =>
    intro u e
    refine ⟨fun v hv => ?_, fun L h => by cases h⟩
    simp only [frzB] at e
    obtain ⟨x', e1, rfl⟩ := Option.map_eq_some_iff.1 e
    cases hv with
    | c hx => exact .c ((ihl _ e1).1 _ hx)
  | k es n l ihl =>
    intro u e
    refine ⟨fun v hv => ?_, fun L h => by cases h⟩
    simp only [frzB] at e
    obtain ⟨x', e1, rfl⟩ := Option.map_eq_some_iff.1 e
    cases hv with
    | k hf hl hm hc hx => exact .k (fzAll_old hf) hl hm hc ((ihl _ e1).2 _ hx)
    | k0 => exact .k0
  | q l ihl =>
    intro u e
    refine ⟨fun v hv => ?_, fun L h => by cases h⟩
    simp only [frzB] at e
    obtain ⟨x', e1, rfl⟩ := Option.map_eq_some_iff.1 e
    cases hv with
    | q hf hl hx => exact .q (fzAll_old hf) hl ((ihl _ e1).2 _ hx)
  | cons x r ihx ihr =>
    intro u e
    refine ⟨fun v hv => (by cases hv), fun L h => ?_⟩
    simp only [frzB] at e
    obtain ⟨x', e1, e2⟩ := Option.bind_eq_some_iff.1 e
    obtain ⟨y', e3, rfl⟩ := Option.map_eq_some_iff.1 e2
    cases h with
    | cons hx hy => exact .cons ((ihx _ e1).1 _ hx) ((ihr _ e3).2 _ hy)

theorem frz_ok {g : Nat} {σ : Sg} {h : H} {w : World} (ok : HeapOK σ h.cl w) : ∀ (n : Nat) (v u : V), frz g h n v = some u → (∀ x, VR σ v x → VR (frzSg g σ h.cl w) u x) ∧ (∀ L, VRs σ v L → VRs (frzSg g σ h.cl w) u L)
  | 0, _, _, e => by cases e
  | n + 1, v, u, e => frzB_ok ok (fun v u e => (frz_ok ok n v u e).2) v u e

end Go.Ev
namespace Go.Ev
open Go
variable {P : Program} {hp : H}

/-- a call with these arguments, from tables alone, gives that frozen value -/
structure SpecOK (P : Program) (hp : H) (f : Nat) (vs u : V) : Prop where
  fro : fro 0 u = true
  runs : RunsFn P f
  call : ∀ σ w (args : Array Value), St P hp σ hp w → Fr σ hp.nx hp.nx → VRs σ vs args.toList → CallsIn Fence.wide 0 P f args w (EndOK σ hp w u hp)

theorem frz_back {σ σ' : Sg} {h' : H} {w w' : World} (hpo : HpOK P hp) (st : St P hp σ hp w) (fr : Fr σ hp.nx hp.nx) (x : SExt σ hp w σ' h' w') (ok : HeapOK σ' h'.cl w') :
    SExt σ hp w (frzSg hp.nx σ' h'.cl w') hp w' ∧ HeapOK (frzSg hp.nx σ' h'.cl w') hp.cl w' := by
  have hlow : ∀ id, id < hp.nx → (frzSg hp.nx σ' h'.cl w') id = σ' id := fun id hi => by
    show (if id < hp.nx then σ' id else none) = σ' id
    rw [if_pos hi]
  have htab : ∀ id n l, hp.cl id = .tab n l → h'.cl id = .tab n l := x.tabs
  have hlive : ∀ id, hp.cl id ≠ .dead → h'.cl id ≠ .dead := fun id hc => by
    obtain ⟨n, l, hn⟩ := hpo.tab id hc
    rw [htab id n l hn]; intro h; cases h
  have hnew : ∀ b id sz n l id' sz', hp.nx ≤ id → h'.cl id = .cells n l → σ' id = some (b, sz) → hp.cl id' ≠ .dead → σ' id' ≠ some (b, sz') := fun b id sz n l id' sz' h1 h2 h3 h4 h5 => by
    have := ok.inj id id' b sz sz' (by rw [h2]; intro h; cases h) (hlive id' h4) h3 h5
    have h6 := hpo.lt id' h4
    omega
  refine ⟨⟨⟨⟨fun id y hs => ?_, fun b C hf => fzAll_old (x.up.fz b C hf)⟩, x.size, x.keep, fun id b sz hc hs _ => ?_, fun _ _ _ h => h, x.same, x.tabk, fun b C hf hn hb => ?_, fun id n l b sz C hc hs hf => ?_⟩, Nat.le_refl _, fun id hid => ?_⟩, ⟨fun id hc => ?_, fun id id' b s1 s2 h1 h2 e1 e2 => ?_, fun b C hf => ?_⟩⟩
  · rcases Nat.lt_or_ge id hp.nx with hi | hi
    · rw [hlow id hi]; exact x.up _ _ hs
    · have := fr id hi (Nat.zero_le _); rw [this] at hs; cases hs
  · rw [hlow id (hpo.lt id hc)] at hs
    obtain ⟨b', sz', o, g1, _, _⟩ := st.ok.ok id hc
    have := x.up _ _ g1
    rw [hs] at this
    obtain ⟨rfl, rfl⟩ := Prod.mk.inj (Option.some.inj this)
    exact ⟨id, _, hc, g1⟩
  · rcases fzAll_inv hf with h | ⟨_, ⟨id, sz, n, l, h1, h2, h3⟩, _⟩
    · exact x.fzn b C h hn hb
    · exact x.own id b sz (by rw [h2]; intro h; cases h) h3 hb
  · rcases fzAll_inv hf with h | ⟨_, ⟨id', sz', n', l', h1, h2, h3⟩, _⟩
    · exact x.fzt id n l b sz C hc hs h
    · exact absurd (x.up _ _ hs) (hnew b id' sz' n' l' id sz h1 h2 h3 (by rw [hc]; intro h; cases h))
  · rcases Nat.lt_or_ge id hp.nx with hi | hi
    · rw [hlow id hi]; exact x.out id (by omega)
    · rw [fr id hi (Nat.zero_le _)]
      show (if id < hp.nx then σ' id else none) = none
      rw [if_neg (by omega)]
  · obtain ⟨n, l, hn⟩ := hpo.tab id hc
    obtain ⟨b, sz, o, g1, g2, g3⟩ := ok.ok id (hlive id hc)
    refine ⟨b, sz, o, by rw [hlow id (hpo.lt id hc)]; exact g1, g2, ?_⟩
    rw [htab id n l hn] at g3
    rw [hn]
    exact g3
  · rw [hlow id (hpo.lt id h1)] at e1
    rw [hlow id' (hpo.lt id' h2)] at e2
    exact ok.inj id id' b s1 s2 (hlive id h1) (hlive id' h2) e1 e2
  · rcases fzAll_inv hf with h | ⟨_, ⟨id', sz', n', l', h1, h2, h3⟩, h4⟩
    · exact ⟨(ok.fz b C h).1, fun id sz hc hs => (ok.fz b C h).2 id sz (hlive id hc) (by rw [hlow id (hpo.lt id hc)] at hs; exact hs)⟩
    · exact ⟨h4, fun id sz hc hs => hnew b id' sz' n' l' id sz h1 h2 h3 hc (by rw [hlow id (hpo.lt id hc)] at hs; exact hs)⟩

/-- a call that the evaluator has run from tables alone, its value frozen -/
theorem SpecOK.of (hpo : HpOK P hp) {ih : IH} (hih : IHOK P hp ih) {f : Nat} {vs x u : V} {h' : H} {n : Nat} (e : ih (.call f vs hp) = some (.val x h')) (ez : frz hp.nx h' n x = some u) (hu : Go.Ev.fro 0 u = true) : SpecOK P hp f vs u := by
  obtain ⟨x1, h1, e1, e2, e3, e4⟩ := hih.call _ _ _ _ e
  cases e1
  refine ⟨hu, e3, fun σ w args st fr hv => ?_⟩
  refine CallsIn.mono (e4 σ w args st (fun id h1 h2 => fr id h1 (Nat.zero_le _)) hv) fun en w' hR => ?_
  obtain ⟨v, σ', rfl, q1, q2, q3⟩ := hR
  obtain ⟨r1, r2⟩ := frz_back hpo st fr q1 q2
  exact ⟨v, _, rfl, r1, r2, (frz_ok q2 n x u ez).1 _ q3⟩

/-- such calls, anywhere -/
theorem SpecOK.anyw (hpo : HpOK P hp) {f : Nat} {vs u : V} (s : SpecOK P hp f vs u) (hv : Go.Ev.fro hp.nx vs = true) {σ : Sg} {h : H} {w : World} {args : Array Value} (st : St P hp σ h w) (ha : VRs σ vs args.toList) :
    CallsIn Fence.wide 0 P f args w (EndOK σ h w u h) := by
  have ha' : VRs (cutSg σ hp.nx) vs args.toList := fros_ok (σ := σ) (τ := cutSg σ hp.nx) (g := hp.nx) (fun id x hi hs => by
    show (if id < hp.nx then σ id else none) = some x
    rw [if_pos hi]; exact hs) (fun _ _ h => h) hv ha
  refine CallsIn.mono (s.call _ w args (st.cut hpo) (cut_fr _ _ _) ha') fun en w' hR => ?_
  obtain ⟨v, σ', rfl, q1, q2, q3⟩ := hR
  obtain ⟨r1, r2⟩ := st.back hpo q1 q2
  exact ⟨v, _, rfl, r1, r2, fro_ok (σ := σ') (τ := backSg σ σ') (g := 0) (fun id x hi _ => absurd hi (Nat.not_lt_zero _)) (fun _ _ h => h) s.fro q3⟩

/-- a table of such calls -/
def SpOK (P : Program) (hp : H) (sp : Nat → V → Option V) : Prop := ∀ f vs u, sp f vs = some u → SpecOK P hp f vs u
def frzIH (sp : Nat → V → Option V) (g : Nat) (ih : IH) : IH := fun k => match k with
  | .call f vs h => if fro g vs then (match sp f vs with | some u => some (.val u h) | none => ih (.call f vs h)) else ih (.call f vs h)
  | .code rnd nt c t h => ih (.code rnd nt c t h)
theorem frzIH_ok (hpo : HpOK P hp) {sp : Nat → V → Option V} (hsp : SpOK P hp sp) {ih : IH} (hih : IHOK P hp ih) : IHOK P hp (frzIH sp hp.nx ih) := by
  refine ⟨fun f args h r e => ?_, fun rnd nt c t h r e => hih.code rnd nt c t h r e⟩
  have e : (if fro hp.nx args then (match sp f args with | some u => some (.val u h) | none => ih (.call f args h)) else ih (.call f args h)) = some r := e
  split at e
  · rename_i hf
    split at e
    · rename_i u hs
      cases e
      exact ⟨u, h, rfl, Nat.le_refl _, (hsp _ _ _ hs).runs, fun σ w vs st _ hv => (hsp _ _ _ hs).anyw hpo hf st hv⟩
    · exact hih.call _ _ _ _ e
  · exact hih.call _ _ _ _ e

end Go.Ev
namespace Go.Ev
open Go

variable {F : Fence} {n : Nat} {P : Program} (w : World) {ops : Array Oper} {rest : List Oper} {o : Oper} {a : Act} {Q : Exit → Act → World → Prop}

theorem wpListIn_range_raw (hg : o.guard = none) (m : Operand) (t k e : TypeId) (hop : o.op = Op.range t m) (ht : P.underlying t = some (.map k e)) (bm : Nat) (es : Array MapEntry) (ck : Nat)
    (hm : a.eval m = .map (some bm)) (hb : w.heap[bm]? = some (.map es ck))
    (hK : wpListIn F n P ops Q rest (a.put o.dst (.pointer (some ⟨w.heap.size, 0, none⟩))) (w.alloc (.mapIter (some bm) ck #[] ck))) :
    wpListIn F n P ops Q (o :: rest) a w := by
  refine wpListIn_plain hg fun K' hK' => ?_
  unfold Oper.wpIn
  refine ⟨by simp [Oper.about, hop], ?_⟩
  rw [Oper.semAt_plain F _ _ (by rw [hop]; intro c hc'; cases hc')]
  simp [execOp, hop, hm, run_range_map w t k e bm es ck ht hb, Result.andThen]
  exact hK' _ _ hK

theorem wpListIn_next_raw (hg : o.guard = none) (it : Operand) (hop : o.op = Op.next it false) (r bm since c0 : Nat) (seen : Array Nat) (es : Array MapEntry) (ck : Nat)
    (hit : a.eval it = .pointer (some ⟨r, 0, none⟩)) (hr : w.heap[r]? = some (.mapIter (some bm) since seen c0)) (hb : w.heap[bm]? = some (.map es ck)) (hold : ∀ x ∈ es.toList, x.born < since) (hsc : since ≤ c0)
    (hDone : (leftOf es seen).size = 0 → wpListIn F n P ops Q rest (a.put o.dst (.tuple #[.bool false])) w)
    (hMore : ∀ e ∈ (leftOf es seen).toList, ∀ w1 : World, (w1 = w ∨ w1 = w.drew) → wpListIn F n P ops Q rest (a.put o.dst (.tuple #[.bool true, e.key, e.val])) (Go.ChangeMaps.setBlock w1 r (.mapIter (some bm) since (seen.push e.born) ck))) :
    wpListIn F n P ops Q (o :: rest) a w := by
  refine wpListIn_plain hg fun K' hK' => ?_
  unfold Oper.wpIn
  refine ⟨by simp [Oper.about, hop], ?_⟩
  rw [Oper.semAt_plain F _ _ (by rw [hop]; intro c hc'; cases hc')]
  rcases run_next_at (P := P) w o.type r bm since c0 seen es ck hr hb hold hsc with ⟨h0, hrun⟩ | ⟨e, he, w1, h1, hrun⟩
  · simp [execOp, hop, hit, hrun, Result.andThen]
    exact hK' _ _ (hDone h0)
  · simp [execOp, hop, hit, hrun, Result.andThen]
    exact hK' _ _ (hMore e he w1 h1)

theorem wpListIn_entry_raw (hg : o.guard = none) (it : Operand) (hop : o.op = Op.entry it) (r bm since : Nat) (seen : Array Nat) (es : Array MapEntry) (ck : Nat) (e : MapEntry)
    (hit : a.eval it = .pointer (some ⟨r, 0, none⟩)) (hr : w.heap[r]? = some (.mapIter (some bm) since (seen.push e.born) ck)) (hb : w.heap[bm]? = some (.map es ck)) (he : e ∈ es.toList) (hn : (es.toList.map (·.born)).Nodup)
    (hK : wpListIn F n P ops Q rest (a.put o.dst (.tuple #[e.key, e.val])) w) :
    wpListIn F n P ops Q (o :: rest) a w := by
  refine wpListIn_plain hg fun K' hK' => ?_
  unfold Oper.wpIn
  refine ⟨by simp [Oper.about, hop], ?_⟩
  rw [Oper.semAt_plain F _ _ (by rw [hop]; intro c hc'; cases hc')]
  simp [execOp, hop, hit, run_entry_at w r bm since seen es ck e hr hb he hn, Result.andThen]
  exact hK' _ _ hK

end Go.Ev
end
