/- The evaluator of translated Go, part 4: The evaluator: a drawn region: what the plan's check says. · The evaluator: a drawn region: the chain of heaps, what is claimed, the virtual temporaries. · The evaluator: a drawn region, in whatever order. · The evaluator: a drawn region: each step. · The evaluator: a drawn region: quiet steps and loud ones. · The evaluator: a drawn region: loud steps; all orders. · The evaluator: THE WHOLE. · The evaluator: a call from a heap of tables alone. · The evaluator: a start heap with one table, at number g. · The evaluator: a pure call without arguments that is known to be true is not reckoned again. · The evaluator: equality of values; calls whose answers are kept. -/
import Derived.Test.YtfcjbkddkaeliaaGreatDoorEv3
import Derived.Below
set_option linter.unusedVariables false
set_option linter.unusedSimpArgs false
noncomputable section
namespace Go.Ev

/-! ### the masks -/
theorem orAll_bit {bm : List Nat} {x : Nat} : ∀ {ds : List Nat}, (orAll bm ds).testBit x = true → ∃ d ∈ ds, d = x ∨ (nthD 0 bm d).testBit x = true
  | [], h => by simp [orAll] at h
  | d :: ds, h => by
    have h : (Nat.lor (Nat.lor (onBit d) (nthD 0 bm d)) (orAll bm ds)).testBit x = true := h
    rw [show ∀ a b, Nat.lor a b = a ||| b from fun _ _ => rfl, show ∀ a b, Nat.lor a b = a ||| b from fun _ _ => rfl, Nat.testBit_or, Nat.testBit_or] at h
    rcases (Bool.or_eq_true _ _).mp h with h | h
    · rcases (Bool.or_eq_true _ _).mp h with h | h
      · refine ⟨d, List.mem_cons_self .., .inl ?_⟩
        have : (2 ^ d).testBit x = true := h
        rw [Nat.testBit_two_pow] at this
        simpa using this
      · exact ⟨d, List.mem_cons_self .., .inr h⟩
    · obtain ⟨d', h1, h2⟩ := orAll_bit h
      exact ⟨d', List.mem_cons_of_mem _ h1, h2⟩

def masksFrom (bm : List Nat) (l : List Oper) : List Nat := l.foldl (fun bm o => bm ++ [orAll bm (deps o)]) bm
theorem masksFrom_pre : ∀ (l : List Oper) (bm : List Nat), ∃ r, masksFrom bm l = bm ++ r ∧ r.length = l.length ∧ ∀ i o, l[i]? = some o → ∀ x, (nthD 0 (bm ++ r) (bm.length + i)).testBit x = true → ∃ d ∈ deps o, d = x ∨ (d < bm.length + i ∧ (nthD 0 (bm ++ r) d).testBit x = true)
  | [], bm => ⟨[], by simp [masksFrom], rfl, fun i o h => by simp at h⟩
  | o :: l, bm => by
    obtain ⟨r, h1, h2, h3⟩ := masksFrom_pre l (bm ++ [orAll bm (deps o)])
    refine ⟨orAll bm (deps o) :: r, ?_, by simp [h2], fun i o' hi x hx => ?_⟩
    · show masksFrom (bm ++ [orAll bm (deps o)]) l = _
      rw [h1]; simp
    · have e : bm ++ orAll bm (deps o) :: r = (bm ++ [orAll bm (deps o)]) ++ r := by simp
      cases i with
      | zero =>
        rw [List.getElem?_cons_zero] at hi
        cases hi
        have hn : nthD 0 (bm ++ orAll bm (deps o) :: r) (bm.length + 0) = orAll bm (deps o) := by simp [nthD]
        rw [hn] at hx
        obtain ⟨d, hd, hh⟩ := orAll_bit hx
        refine ⟨d, hd, hh.imp id fun hb => ?_⟩
        have hlt : d < bm.length := by
          rcases Nat.lt_or_ge d bm.length with h | h
          · exact h
          · have : nthD 0 bm d = 0 := by simp [nthD, List.getElem?_eq_none h]
            rw [this] at hb; simp at hb
        refine ⟨by omega, ?_⟩
        have : nthD 0 (bm ++ orAll bm (deps o) :: r) d = nthD 0 bm d := by simp [nthD, List.getElem?_append_left hlt]
        rw [this]; exact hb
      | succ i =>
        rw [List.getElem?_cons_succ] at hi
        have := h3 i o' hi x (by rw [← e]; simpa [Nat.add_assoc, Nat.add_comm 1 i] using hx)
        rw [← e] at this
        simpa [Nat.add_assoc, Nat.add_comm 1 i] using this
theorem masks_spec {l : List Oper} {i : Nat} {o : Oper} (hi : l[i]? = some o) {x : Nat} (hx : (nthD 0 (masks l) i).testBit x = true) : ∃ d ∈ deps o, d = x ∨ (d < i ∧ (nthD 0 (masks l) d).testBit x = true) := by
  obtain ⟨r, h1, h2, h3⟩ := masksFrom_pre l []
  have hm : masks l = [] ++ r := h1
  rw [hm] at hx ⊢
  have := h3 i o hi x (by simpa using hx)
  simpa using this

/-- what is closed under 'must stand ahead' holds the mask of what it is ready for -/
theorem mask_closed {l : List Oper} {D : Nat → Bool} (hc : ∀ i, D i = true → ∀ o, l[i]? = some o → ∀ d ∈ deps o, D d = true) : ∀ (i : Nat) (o : Oper), l[i]? = some o → (∀ d ∈ deps o, D d = true) →
    ∀ x, (nthD 0 (masks l) i).testBit x = true → D x = true := by
  intro i
  induction i using Nat.strongRecOn with
  | _ i ih =>
    intro o hi hd x hx
    obtain ⟨d, h1, h2⟩ := masks_spec hi hx
    rcases h2 with rfl | ⟨hlt, hb⟩
    · exact hd _ h1
    · have hlen : d < l.length := Nat.lt_trans hlt (List.getElem?_eq_some_iff.1 hi).1
      exact ih d hlt l[d] (List.getElem?_eq_getElem hlen) (hc d (hd d h1) _ (List.getElem?_eq_getElem hlen)) x hb

/-! ### the plan's entries -/
theorem plan_spec (l : List Oper) : ∀ e ∈ plan l, l[e.j]? = some e.o := by
  unfold plan
  have : ∀ (is : List Nat) (q : List Nat × List PE), (∀ e ∈ q.2, l[e.j]? = some e.o) → ∀ e ∈ (is.foldl (fun (q : List Nat × List PE) j => match l[j]? with
    | some o => (if Nat.beq (cls o.op) 3 then j :: q.1 else q.1, q.2 ++ [⟨j, o, cls o.op, backs (masks l) j q.1⟩])
    | none => q) q).2, l[e.j]? = some e.o := by
    intro is
    induction is with
    | nil => exact fun q h => h
    | cons j is ih =>
      intro q hq
      rw [List.foldl_cons]
      refine ih _ ?_
      cases hj : l[j]? with
      | none => exact hq
      | some o =>
        intro e he
        rcases List.mem_append.1 he with he | he
        · exact hq e he
        · rw [List.mem_singleton.1 he]; exact hj
  exact this _ _ fun e he => by cases he

section
variable {P : Program} {hp : H} {nt : Nat} {ops : Array Oper} {bm : List Nat} {t0 : T}

/-- what the check of the plan says of a step, with those ahead of it -/
structure StepOK (l : List Oper) (bm : List Nat) (pre : List PS) (e : PS) (back : Nat) : Prop where
  new : ∀ y ∈ pre, y.j ≠ e.j
  deps_ : ∀ d ∈ deps e.o, ∃ y ∈ pre, y.j = d
  loud : e.loud = true → ∀ y ∈ pre, (nthD 0 bm e.j).testBit y.j = true

/-- the louds among those gone through, the last ahead -/
def loudsOf (pre : List PS) : List PS := (pre.filter (·.loud)).reverse

structure Good (l : List Oper) (bm : List Nat) (h0 : H) (L : List PS) : Prop where
  at_ : ∀ e ∈ L, l[e.j]? = some e.o
  all : ∀ i, i < l.length → ∃ e ∈ L, e.j = i
  step : ∀ L1 e L2, L = L1 ++ e :: L2 → (∀ y ∈ L1, y.j ≠ e.j) ∧ (∀ d ∈ deps e.o, ∃ y ∈ L1, y.j = d) ∧ (e.loud = true → ∀ y ∈ L1, (nthD 0 bm e.j).testBit y.j = true) ∧
    (e.ls = [] ∨ ∃ back, e.ls = ((loudsOf L1).map (·.h') ++ [h0]).take (back + 1) ∧ back ≤ (loudsOf L1).length ∧ ∀ x, (loudsOf L1)[back]? = some x → (nthD 0 bm e.j).testBit x.j = true)

theorem run_good {l : List Oper} {h0 : H} : ∀ {pl : List PE} {L pre : List PS} {t h ss t' h' done ls}, Run P hp nt ops bm t0 t h ss pl L t' h' → planOk ops l bm pl done ls = true → (∀ e ∈ pl, l[e.j]? = some e.o) →
    (∀ i, done.testBit i = true ↔ ∃ y ∈ pre, y.j = i) → ls = (loudsOf pre).map (·.j) → ss = (loudsOf pre).map (·.h') ++ [h0] →
    (∀ e ∈ L, l[e.j]? = some e.o) ∧ (∀ i, i < l.length → ∃ e ∈ pre ++ L, e.j = i) ∧ ∀ L1 e L2, L = L1 ++ e :: L2 → (∀ y ∈ pre ++ L1, y.j ≠ e.j) ∧ (∀ d ∈ deps e.o, ∃ y ∈ pre ++ L1, y.j = d) ∧ (e.loud = true → ∀ y ∈ pre ++ L1, (nthD 0 bm e.j).testBit y.j = true) ∧
      (e.ls = [] ∨ ∃ back, e.ls = ((loudsOf (pre ++ L1)).map (·.h') ++ [h0]).take (back + 1) ∧ back ≤ (loudsOf (pre ++ L1)).length ∧ ∀ x, (loudsOf (pre ++ L1))[back]? = some x → (nthD 0 bm e.j).testBit x.j = true) := by
  intro pl
  induction pl with
  | nil =>
    intro L pre t h ss t' h' done ls hr hpk hat hd hls hss
    cases hr
    refine ⟨fun e he => (by cases he), fun i hi => ?_, fun L1 e L2 he => by simp at he⟩
    have hpk : (List.range l.length).all (fun i => done.testBit i) = true := hpk
    have := List.all_eq_true.1 hpk i (List.mem_range.2 hi)
    obtain ⟨y, h1, h2⟩ := (hd i).1 this
    exact ⟨y, by simpa using h1, h2⟩
  | cons pe pl ih =>
    intro L pre t h ss t' h' done ls hr hpk hat hd hls hss
    cases hr with
    | @cons _ _ _ _ _ e L _ _ hj ho hh ht ok hl hels hls1 rest =>
    have hpk : ((match l[pe.j]? with | some _ => true | none => false) && !done.testBit pe.j && Nat.beq pe.kind (cls pe.o.op) && (deps pe.o).all (fun d => done.testBit d) && (!Nat.beq pe.kind 3 || Nat.beq (Nat.land done (nthD 0 bm pe.j)) done) &&
      (!Nat.beq pe.kind 1 || (Nat.ble pe.back ls.length && (match ls.drop pe.back with | [] => true | x :: _ => (nthD 0 bm pe.j).testBit x))) && planOk ops l bm pl (Nat.lor done (onBit pe.j)) (if Nat.beq pe.kind 3 then pe.j :: ls else ls)) = true := hpk
    simp only [Bool.and_eq_true] at hpk
    obtain ⟨⟨⟨⟨⟨⟨p1, p2⟩, p3⟩, p4⟩, p5⟩, p6⟩, p7⟩ := hpk
    have hpre : loudsOf (pre ++ [e]) = if e.loud then e :: loudsOf pre else loudsOf pre := by
      unfold loudsOf
      rw [List.filter_append, List.reverse_append]
      cases he : e.loud <;> simp [List.filter, he]
    have hdone : ∀ i, (Nat.lor done (onBit pe.j)).testBit i = true ↔ ∃ y ∈ pre ++ [e], y.j = i := fun i => by
      rw [show ∀ a b, Nat.lor a b = a ||| b from fun _ _ => rfl, Nat.testBit_or, Bool.or_eq_true, hd i]
      rw [show onBit pe.j = 2 ^ pe.j from rfl, Nat.testBit_two_pow]
      constructor
      · rintro (⟨y, h1, h2⟩ | h1)
        · exact ⟨y, List.mem_append_left _ h1, h2⟩
        · exact ⟨e, by simp, by rw [hj]; simpa using h1⟩
      · rintro ⟨y, h1, h2⟩
        rcases List.mem_append.1 h1 with h1 | h1
        · exact .inl ⟨y, h1, h2⟩
        · rw [List.mem_singleton.1 h1] at h2
          exact .inr (by rw [← hj, h2]; simp)
    have hlse : (if Nat.beq pe.kind 3 then pe.j :: ls else ls) = (loudsOf (pre ++ [e])).map (·.j) := by
      rw [hpre, ← hl]
      cases e.loud <;> simp [hls, hj]
    have hsse : (if e.loud then e.h' :: ss else ss) = (loudsOf (pre ++ [e])).map (·.h') ++ [h0] := by
      rw [hpre]
      cases e.loud <;> simp [hss]
    obtain ⟨g1, g2, g3⟩ := ih (pre := pre ++ [e]) rest p7 (fun x hx => hat x (List.mem_cons_of_mem _ hx)) hdone hlse hsse
    have hate : l[e.j]? = some e.o := by rw [hj, ho]; exact hat pe (List.mem_cons_self ..)
    refine ⟨fun x hx => ?_, fun i hi => ?_, fun L1 x L2 hx => ?_⟩
    · rcases List.mem_cons.1 hx with rfl | hx
      · exact hate
      · exact g1 x hx
    · obtain ⟨y, h1, h2⟩ := g2 i hi
      exact ⟨y, by simpa using h1, h2⟩
    · cases L1 with
      | nil =>
        obtain ⟨rfl, rfl⟩ := List.cons.inj hx
        rw [List.append_nil]
        refine ⟨fun y hy hyj => ?_, fun d hd' => ?_, fun hloud y hy => ?_, ?_⟩
        · have := (hd pe.j).2 ⟨y, hy, by rw [hyj, hj]⟩
          rw [this] at p2; cases p2
        · rw [ho] at hd'
          exact (hd d).1 (List.all_eq_true.1 p4 d hd')
        · rw [hl] at hloud
          rw [hloud] at p5
          have p5 : Nat.land done (nthD 0 bm pe.j) = done := Nat.eq_of_beq_eq_true (by simpa using p5)
          have hb := (hd y.j).2 ⟨y, hy, rfl⟩
          rw [← p5, show ∀ a b, Nat.land a b = a &&& b from fun _ _ => rfl, Nat.testBit_and, Bool.and_eq_true] at hb
          rw [hj]; exact hb.2
        · cases hk : Nat.beq pe.kind 1 with
          | false => exact .inl (by rw [hels, hk]; rfl)
          | true =>
            refine .inr ⟨pe.back, by rw [hels, hk, hss]; rfl, ?_⟩
            rw [hk] at p6
            have p6 : Nat.ble pe.back ls.length = true ∧ (match ls.drop pe.back with | [] => true | x :: _ => (nthD 0 bm pe.j).testBit x) = true := by simpa using p6
            have hbl : pe.back ≤ ls.length := Nat.le_of_ble_eq_true p6.1
            rw [hls, List.length_map] at hbl
            refine ⟨hbl, fun x hx => ?_⟩
            have hx2 : ls[pe.back]? = some x.j := by rw [hls, List.getElem?_map, hx]; rfl
            have hlt : pe.back < ls.length := (List.getElem?_eq_some_iff.1 hx2).1
            have hp := p6.2
            rw [List.drop_eq_getElem_cons hlt] at hp
            rw [List.getElem?_eq_getElem hlt] at hx2
            rw [hj, ← Option.some.inj hx2]
            exact hp
      | cons y L1 =>
        obtain ⟨hey, hx2⟩ := List.cons.inj hx
        subst hey
        have := g3 L1 x L2 hx2
        simpa using this
end
end Go.Ev
namespace Go.Ev
section
variable {P : Program} {hp : H} {nt : Nat} {ops : Array Oper} {bm : List Nat} {t0 : T}

theorem OutOK.nx {e : PS} (ok : OutOK P hp nt ops e) : e.h.nx ≤ e.h'.nx := by
  cases h : e.loud with
  | false => exact (ok.quiet h).nx.1
  | true => exact (ok.loud_ h).1

theorem Run.nx {t h ss pl L t' h'} (r : Run P hp nt ops bm t0 t h ss pl L t' h') : h.nx ≤ h'.nx ∧ ∀ e ∈ L, h.nx ≤ e.h.nx ∧ e.h.nx ≤ e.h'.nx ∧ e.h'.nx ≤ h'.nx := by
  induction r with
  | nil => exact ⟨Nat.le_refl _, fun e he => (by cases he)⟩
  | @cons pe rr t h ss e L t' h' hj ho hh ht ok hl hls hls1 rest ih =>
    have h1 := ok.nx
    rw [hh] at h1
    refine ⟨Nat.le_trans h1 ih.1, fun x hx => ?_⟩
    rcases List.mem_cons.1 hx with rfl | hx
    · exact ⟨by rw [hh]; exact Nat.le_refl _, by rw [hh]; exact h1, ih.1⟩
    · obtain ⟨a, b, c⟩ := ih.2 x hx
      exact ⟨Nat.le_trans h1 a, b, c⟩
theorem Run.ok {t h ss pl L t' h'} (r : Run P hp nt ops bm t0 t h ss pl L t' h') : ∀ e ∈ L, OutOK P hp nt ops e := by
  induction r with
  | nil => exact fun e he => (by cases he)
  | @cons pe rr t h ss e L t' h' hj ho hh ht ok hl hls hls1 rest ih =>
    intro x hx
    rcases List.mem_cons.1 hx with rfl | hx
    · exact ok
    · exact ih x hx

theorem Run.split {t h ss pl L1 L2 t' h'} (r : Run P hp nt ops bm t0 t h ss pl (L1 ++ L2) t' h') : ∃ pl1 pl2 t1 h1 ss1, Run P hp nt ops bm t0 t h ss pl1 L1 t1 h1 ∧ Run P hp nt ops bm t0 t1 h1 ss1 pl2 L2 t' h' := by
  induction L1 generalizing t h ss pl with
  | nil => exact ⟨[], pl, t, h, ss, .nil, r⟩
  | cons x L1 ih =>
    cases r with
    | @cons pe rr _ _ _ e L _ _ hj ho hh ht ok hl hls hls1 rest =>
      obtain ⟨pl1, pl2, t1, h1, ss1, a, b⟩ := ih rest
      exact ⟨pe :: pl1, pl2, t1, h1, ss1, .cons hj ho hh ht ok hl hls hls1 a, b⟩

/-- what a step does to the claims -/
def eff (D : Nat → Bool) (c : Cm) (e : PS) : Cm := if D e.j then (if e.loud then e.h'.cl else fun id => if e.h'.nx = e.h.nx + 1 ∧ id = e.h.nx then e.h'.cl id else c id) else c
def clm (D : Nat → Bool) (c : Cm) (L : List PS) : Cm := L.foldl (eff D) c

theorem clm_low {D : Nat → Bool} {m : Nat} {id : Nat} (hid : id < m) : ∀ {L : List PS} {c : Cm}, (∀ e ∈ L, m ≤ e.h.nx) → (∀ e ∈ L, e.loud = true → D e.j = false) → clm D c L id = c id
  | [], c, _, _ => rfl
  | e :: L, c, hm, hl => by
    show clm D (eff D c e) L id = c id
    rw [clm_low hid (fun x hx => hm x (List.mem_cons_of_mem _ hx)) fun x hx => hl x (List.mem_cons_of_mem _ hx)]
    unfold eff
    have h1 := hm e (List.mem_cons_self ..)
    cases hd : D e.j with
    | false => rfl
    | true =>
      cases hlo : e.loud with
      | true => have := hl e (List.mem_cons_self ..) hlo; rw [hd] at this; cases this
      | false => simp only [if_true, Bool.false_eq_true, if_false]; rw [if_neg (by omega)]
theorem clm_same {D : Nat → Bool} {id : Nat} : ∀ {L : List PS} {c c' : Cm}, (∀ e ∈ L, e.loud = true → D e.j = false) → c id = c' id → clm D c L id = clm D c' L id
  | [], c, c', _, h => h
  | e :: L, c, c', hl, h => by
    show clm D (eff D c e) L id = clm D (eff D c' e) L id
    refine clm_same (fun x hx => hl x (List.mem_cons_of_mem _ hx)) ?_
    unfold eff
    cases hd : D e.j with
    | false => exact h
    | true =>
      cases hlo : e.loud with
      | true => have := hl e (List.mem_cons_self ..) hlo; rw [hd] at this; cases this
      | false =>
        simp only [if_true, Bool.false_eq_true, if_false]
        split
        · rfl
        · exact h
theorem clm_append {D : Nat → Bool} {c : Cm} {L1 L2 : List PS} : clm D c (L1 ++ L2) = clm D (clm D c L1) L2 := List.foldl_append
theorem clm_cons {D : Nat → Bool} {c : Cm} {e : PS} {L : List PS} : clm D c (e :: L) = clm D (eff D c e) L := rfl
theorem eff_done {D : Nat → Bool} {e : PS} (ok : OutOK P hp nt ops e) (hd : D e.j = true) : eff D e.h.cl e = e.h'.cl := by
  unfold eff
  rw [if_pos hd]
  cases hl : e.loud with
  | true => rfl
  | false =>
    simp only [Bool.false_eq_true, if_false]
    exact (ok.quiet hl).cl.symm
theorem clm_all {D : Nat → Bool} {t h ss pl L t' h'} (r : Run P hp nt ops bm t0 t h ss pl L t' h') (hd : ∀ e ∈ L, D e.j = true) : clm D h.cl L = h'.cl := by
  induction r with
  | nil => rfl
  | @cons pe rr t h ss e L t' h' hj ho hh ht ok hl hls hls1 rest ih =>
    rw [clm_cons, ← hh, eff_done ok (hd e (List.mem_cons_self ..))]
    exact ih fun x hx => hd x (List.mem_cons_of_mem _ hx)
/-- only who is asked counts -/
theorem clm_congr {D D' : Nat → Bool} : ∀ {L : List PS} {c : Cm}, (∀ e ∈ L, D e.j = D' e.j) → clm D c L = clm D' c L
  | [], c, _ => rfl
  | e :: L, c, h => by
    rw [clm_cons, clm_cons, clm_congr fun x hx => h x (List.mem_cons_of_mem _ hx)]
    unfold eff
    rw [h e (List.mem_cons_self ..)]

/-- the temporaries that the plan lays -/
theorem Run.temps {t h ss pl L t' h'} (r : Run P hp nt ops bm t0 t h ss pl L t' h') (h256 : ∀ e ∈ L, ∀ d, e.o.dst = some d → d < 256) (hp : L.Pairwise fun e e' => ∀ d, e.o.dst = some d → e'.o.dst ≠ some d) :
    (∀ e ∈ L, ∀ d, e.o.dst = some d → getT t' d = e.v) ∧ ∀ x, x < 256 → (∀ e ∈ L, e.o.dst ≠ some x) → getT t' x = getT t x := by
  induction r with
  | nil => exact ⟨fun e he => (by cases he), fun _ _ _ => rfl⟩
  | @cons pe rr t h ss e L t' h' hj ho hh ht ok hl hls hls1 rest ih =>
    obtain ⟨p1, p2⟩ := List.pairwise_cons.1 hp
    obtain ⟨g1, g2⟩ := ih (fun x hx => h256 x (List.mem_cons_of_mem _ hx)) p2
    refine ⟨fun x hx d hd => ?_, fun x hx hne => ?_⟩
    · rcases List.mem_cons.1 hx with rfl | hx
      · have hd256 := h256 x (List.mem_cons_self ..) d hd
        rw [g2 d hd256 fun y hy => p1 y hy d hd, hd]
        show getT (setT t d x.v) d = x.v
        rw [getT_setT _ _ _ _ hd256 hd256, if_pos rfl]
      · exact g1 x hx d hd
    · rw [g2 x hx fun y hy => hne y (List.mem_cons_of_mem _ hy)]
      have hne1 := hne e (List.mem_cons_self ..)
      cases hdst : e.o.dst with
      | none => rfl
      | some d =>
        have hd256 := h256 e (List.mem_cons_self ..) d hdst
        show getT (setT t d e.v) x = getT t x
        rw [getT_setT _ _ _ _ hd256 hx, if_neg (fun h => hne1 (by rw [hdst, h]))]
theorem fillT_at {ds : List Nat} (h : ∀ d ∈ ds, d < 256) {t0 t : T} {x : Nat} (hx : x < 256) : (x ∈ ds → getT (fillT ds t0 t) x = getT t x) ∧ (x ∉ ds → getT (fillT ds t0 t) x = getT t0 x) := by
  induction ds with
  | nil => exact ⟨fun h => (by cases h), fun _ => rfl⟩
  | cons d ds ih =>
    obtain ⟨g1, g2⟩ := ih fun y hy => h y (List.mem_cons_of_mem _ hy)
    have hd := h d (List.mem_cons_self ..)
    have e : fillT (d :: ds) t0 t = setT (fillT ds t0 t) d (getT t d) := rfl
    rw [e, getT_setT _ _ _ _ hd hx]
    by_cases hxd : x = d
    · rw [if_pos hxd, hxd]
      exact ⟨fun _ => rfl, fun hn => absurd (List.mem_cons_self ..) hn⟩
    · rw [if_neg hxd]
      exact ⟨fun hm => g1 ((List.mem_cons.1 hm).resolve_left hxd), fun hn => g2 fun hm => hn (List.mem_cons_of_mem _ hm)⟩
end

/-! ### merging -/
/-- a block of one's own -/
theorem HeapOK.newC {σ : Sg} {c c' : Cm} {w : World} (ok : HeapOK σ c w) {id : Nat} {b : B} {o : Obj} {sz : Nat} (free : σ id = none)
    (hc : c' = fun x => if x = id then b else c x) (hb : BOK (newSg σ id w.heap.size sz) b sz o) : HeapOK (newSg σ id w.heap.size sz) c' (w.alloc o) ∧ Ext σ c w (newSg σ id w.heap.size sz) c' (w.alloc o) := by
  have up := newSg_up (b := w.heap.size) (sz := sz) free
  have old : ∀ x, x ≠ id → newSg σ id w.heap.size sz x = σ x := fun x hx => by simp [newSg, hx]
  have hdead : c id = .dead := by
    by_cases hd : c id = .dead
    · exact hd
    · obtain ⟨b', sz', o', h1, _⟩ := ok.ok _ hd
      rw [free] at h1; cases h1
  subst hc
  refine ⟨⟨fun x hx => ?_, fun x y b1 s1 s2 h1 h2 e1 e2 => ?_⟩, ⟨up, by simp, fun b' hb' _ => alloc_old hb', fun x b' sz' h1 e1 hb' => ?_, fun x n l he => ?_, ⟨rfl, rfl, rfl⟩, fun _ _ _ _ _ _ _ hb' => alloc_old hb'⟩⟩
  · by_cases e : x = id
    · subst e
      simp only [if_true]
      exact ⟨_, _, o, newSg_at _ _ _ _, alloc_new _ _, hb⟩
    · simp only [if_neg e] at hx ⊢
      obtain ⟨b', sz', o', g1, g2, g3⟩ := ok.ok x hx
      exact ⟨b', sz', o', by rw [old x e]; exact g1, by rw [alloc_old (ok.lt hx g1)]; exact g2, g3.mono up⟩
  · by_cases ex : x = id <;> by_cases ey : y = id
    · rw [ex, ey]
    · subst ex
      rw [newSg_at] at e1
      rw [old y ey] at e2
      simp only [if_neg ey] at h2
      have := ok.lt h2 e2
      cases e1
      omega
    · subst ey
      rw [newSg_at] at e2
      rw [old x ex] at e1
      simp only [if_neg ex] at h1
      have := ok.lt h1 e1
      cases e2
      omega
    · rw [old x ex] at e1
      rw [old y ey] at e2
      simp only [if_neg ex] at h1
      simp only [if_neg ey] at h2
      exact ok.inj _ _ _ _ _ h1 h2 e1 e2
  · by_cases ex : x = id
    · subst ex
      rw [newSg_at] at e1
      cases e1; omega
    · rw [old x ex] at e1
      simp only [if_neg ex] at h1
      exact ⟨x, sz', h1, e1⟩
  · by_cases ex : x = id
    · subst ex; rw [hdead] at he; cases he
    · simp only [if_neg ex]; exact he

def mixSg (σ σ' : Sg) (n : Nat) : Sg := fun id => if id < n then σ' id else σ id
/-- what is done within some numbers, seen from all -/
theorem merge_ok {σ σ' : Sg} {c c' k k' : Cm} {w w' : World} {n1 n2 : Nat} (hn : n1 ≤ n2) (ok : HeapOK σ c w) (hk : ∀ id, id < n2 → c id = k id) (wf : ∀ id, n1 ≤ id → k id = .dead) (hfree : ∀ id, n1 ≤ id → id < n2 → σ id = none)
    (ext : Ext (cutSg σ n1) k w σ' k' w') (hout : ∀ id, n2 ≤ id → σ' id = none) (ok' : HeapOK σ' k' w') (hc : c' = fun id => if id < n2 then k' id else c id) :
    HeapOK (mixSg σ σ' n2) c' w' ∧ Ext σ c w (mixSg σ σ' n2) c' w' ∧ cutSg (mixSg σ σ' n2) n2 = σ' := by
  have hcut : cutSg (mixSg σ σ' n2) n2 = σ' := by
    funext id
    simp only [cutSg, mixSg]
    by_cases h : id < n2
    · rw [if_pos h, if_pos h]
    · rw [if_neg h, hout id (by omega)]
  have up : Up σ (mixSg σ σ' n2) := fun id x hx => by
    simp only [mixSg]
    by_cases h : id < n2
    · rw [if_pos h]
      have h1 : id < n1 := by
        rcases Nat.lt_or_ge id n1 with h1 | h1
        · exact h1
        · rw [hfree id h1 h] at hx; cases hx
      exact ext.up id x (by simp only [cutSg]; rw [if_pos h1]; exact hx)
    · rw [if_neg h]; exact hx
  have up' : Up σ' (mixSg σ σ' n2) := fun id x hx => by
    simp only [mixSg]
    by_cases h : id < n2
    · rw [if_pos h]; exact hx
    · rw [hout id (by omega)] at hx; cases hx
  -- claims within
  have kin : ∀ id b sz, k id ≠ .dead → cutSg σ n1 id = some (b, sz) → c id ≠ .dead ∧ σ id = some (b, sz) ∧ id < n1 := fun id b sz h1 h2 => by
    have hlt : id < n1 := by
      rcases Nat.lt_or_ge id n1 with h | h
      · exact h
      · exact absurd (wf id h) h1
    simp only [cutSg, if_pos hlt] at h2
    exact ⟨by rw [hk id (by omega)]; exact h1, h2, hlt⟩
  have klt : ∀ id, k' id ≠ .dead → id < n2 := fun id h => by
    rcases Nat.lt_or_ge id n2 with hh | hh
    · exact hh
    · obtain ⟨b, sz, o, g1, _⟩ := ok'.ok id h
      rw [hout id hh] at g1; cases g1
  have keep : ∀ id b sz, n2 ≤ id → c id ≠ .dead → σ id = some (b, sz) → w'.heap[b]? = w.heap[b]? := fun id b sz h1 h2 h3 => ext.keep b (ok.lt h2 h3) fun id' sz' g1 g2 => by
    obtain ⟨q1, q2, q3⟩ := kin id' b sz' g1 g2
    have := ok.inj _ _ _ _ _ h2 q1 h3 q2
    omega
  subst hc
  refine ⟨⟨fun id hid => ?_, fun x y b s1 s2 h1 h2 e1 e2 => ?_⟩, ⟨up, ext.size, fun b hb hnc => ext.keep b hb fun id sz g1 g2 => ?_, fun id b sz h1 e1 hb => ?_, fun id n l he => ?_, ext.same, fun id n l b sz he hs hb => ?_⟩, hcut⟩
  · by_cases h : id < n2
    · simp only [if_pos h] at hid ⊢
      obtain ⟨b, sz, o, g1, g2, g3⟩ := ok'.ok id hid
      exact ⟨b, sz, o, up' _ _ g1, g2, g3.mono up'⟩
    · simp only [if_neg h] at hid ⊢
      obtain ⟨b, sz, o, g1, g2, g3⟩ := ok.ok id hid
      exact ⟨b, sz, o, up _ _ g1, by rw [keep id b sz (by omega) hid g1]; exact g2, g3.mono up⟩
  · have cross : ∀ x y b s1 s2, x < n2 → ¬ y < n2 → k' x ≠ .dead → c y ≠ .dead → mixSg σ σ' n2 x = some (b, s1) → mixSg σ σ' n2 y = some (b, s2) → False := fun x y b s1 s2 hx hy h1 h2 e1 e2 => by
      simp only [mixSg, if_pos hx] at e1
      simp only [mixSg, if_neg hy] at e2
      obtain ⟨i, z, g1, g2⟩ := ext.own x b s1 h1 e1 (ok.lt h2 e2)
      obtain ⟨q1, q2, q3⟩ := kin i b z g1 g2
      have := ok.inj _ _ _ _ _ h2 q1 e2 q2
      omega
    by_cases hx : x < n2 <;> by_cases hy : y < n2
    · simp only [if_pos hx] at h1
      simp only [if_pos hy] at h2
      simp only [mixSg, if_pos hx] at e1
      simp only [mixSg, if_pos hy] at e2
      exact ok'.inj _ _ _ _ _ h1 h2 e1 e2
    · simp only [if_pos hx] at h1
      simp only [if_neg hy] at h2
      exact (cross x y b s1 s2 hx hy h1 h2 e1 e2).elim
    · simp only [if_neg hx] at h1
      simp only [if_pos hy] at h2
      exact (cross y x b s2 s1 hy hx h2 h1 e2 e1).elim
    · simp only [if_neg hx] at h1
      simp only [if_neg hy] at h2
      simp only [mixSg, if_neg hx] at e1
      simp only [mixSg, if_neg hy] at e2
      exact ok.inj _ _ _ _ _ h1 h2 e1 e2
  · obtain ⟨q1, q2, _⟩ := kin id b sz g1 g2
    exact hnc id sz q1 q2
  · by_cases h : id < n2
    · simp only [if_pos h] at h1
      simp only [mixSg, if_pos h] at e1
      obtain ⟨i, z, g1, g2⟩ := ext.own id b sz h1 e1 hb
      obtain ⟨q1, q2, _⟩ := kin i b z g1 g2
      exact ⟨i, z, q1, q2⟩
    · simp only [if_neg h] at h1
      simp only [mixSg, if_neg h] at e1
      exact ⟨id, sz, h1, e1⟩
  · by_cases h : id < n2
    · simp only [if_pos h]
      exact ext.tabs id n l (by rw [← hk id h]; exact he)
    · simp only [if_neg h]; exact he
  · by_cases h : id < n2
    · rw [hk id h] at he
      have hlt : id < n1 := by
        rcases Nat.lt_or_ge id n1 with hh | hh
        · exact hh
        · rw [wf id hh] at he; cases he
      exact ext.tabk id n l b sz he (by simp only [cutSg]; rw [if_pos hlt]; exact hs) hb
    · exact keep id b sz (by omega) (by rw [he]; intro h; cases h) hs
end Go.Ev
namespace Go.Ev

theorem put_at (a : Act) (dst : Option Tmp) (v : Value) (x : Nat) : (a.put dst v).tmps.getD x undef = if dst = some x ∧ x < a.tmps.size then v else a.tmps.getD x undef := by
  cases dst with
  | none => simp [Act.put]
  | some d =>
    show (a.tmps.setIfInBounds d v).getD x undef = _
    by_cases hx : d = x
    · subst hx
      by_cases hlt : d < a.tmps.size
      · rw [if_pos ⟨rfl, hlt⟩]; simp [hlt]
      · rw [if_neg (fun h => hlt h.2)]; simp [Array.getD, hlt]
    · rw [if_neg (fun h => hx (Option.some.inj h.1))]
      simp only [Array.getD_eq_getD_getElem?]
      rw [Array.getElem?_setIfInBounds_ne hx]
theorem put_size (a : Act) (dst : Option Tmp) (v : Value) : (a.put dst v).tmps.size = a.tmps.size := by
  cases dst with
  | none => rfl
  | some d => show (a.tmps.setIfInBounds d v).size = _; simp
theorem put_defers (a : Act) (dst : Option Tmp) (v : Value) : (a.put dst v).defers = a.defers := by cases dst <;> rfl

/-- a region, its plan gone through -/
structure RG (P : Program) (hp : H) (nt : Nat) (ops : Array Oper) (t0 : T) (h0 : H) (L : List PS) (t' : T) (h' : H) : Prop where
  hpo : HpOK P hp
  nx : hp.nx ≤ h0.nx
  run : ∃ pl, Run P hp nt ops (masks ops.toList) t0 t0 h0 [h0] pl L t' h'
  good : Good ops.toList (masks ops.toList) h0 L
  few : nt ≤ 256
  tm : ∀ o ∈ ops.toList, (∀ d ∈ looks ops o, d < nt) ∧ (∀ d, o.dst = some d → d < nt)
  pair : ∀ x ∈ ops.toList.zipIdx, ∀ y ∈ ops.toList.zipIdx, pairOk ops (masks ops.toList) x y = true

structure MI (L : List PS) (h0 : H) (nt : Nat) (ops : Array Oper) (σ0 : Sg) (w0 : World) (a0 : Act) (D : Nat → Bool) (σ : Sg) (w : World) (a : Act) : Prop where
  ok : HeapOK σ (clm D h0.cl L) w
  free : ∀ id, h0.nx ≤ id → (∀ e ∈ L, D e.j = true → ¬ (e.h.nx ≤ id ∧ id < e.h'.nx)) → σ id = none
  val : ∀ e ∈ L, D e.j = true → ∀ d, e.o.dst = some d → VR (cutSg σ e.h'.nx) e.v (a.tmps.getD d undef)
  old : ∀ x, (∀ e ∈ L, D e.j = true → e.o.dst ≠ some x) → a.tmps.getD x undef = a0.tmps.getD x undef
  size : a.tmps.size = nt
  defers : a.defers = a0.defers
  ext : Ext σ0 h0.cl w0 σ (clm D h0.cl L) w
  low : ∀ id, id < h0.nx → σ id = σ0 id
  ord : ∀ L1 e L2, L = L1 ++ e :: L2 → e.loud = true → D e.j = true → ∀ y ∈ L1, D y.j = true
  wf : ∀ e ∈ L, e.loud = true → D e.j = true → ∀ id, e.h'.nx ≤ id → e.h'.cl id = .dead
  closed : ∀ i, D i = true → ∀ o, ops.toList[i]? = some o → ∀ d ∈ deps o, D d = true
  okc : ∀ e ∈ L, D e.j = false → ∀ id, id < e.h.nx → clm D h0.cl L id ≠ .dead → ∀ b sz o, σ id = some (b, sz) → w.heap[b]? = some o → BOK (cutSg σ e.h.nx) (clm D h0.cl L id) sz o

section
variable {P : Program} {hp : H} {nt : Nat} {ops : Array Oper} {t0 t' : T} {h0 h' : H} {L : List PS}

theorem RG.uniq (g : RG P hp nt ops t0 h0 L t' h') {x e : PS} (hx : x ∈ L) (he : e ∈ L) (hj : x.j = e.j) : x = e := by
  obtain ⟨L1, L2, rfl⟩ := List.append_of_mem he
  rcases List.mem_append.1 hx with hx | hx
  · exact absurd hj ((g.good.step L1 e L2 rfl).1 x hx)
  · rcases List.mem_cons.1 hx with rfl | hx
    · rfl
    · obtain ⟨A, B, rfl⟩ := List.append_of_mem hx
      exact absurd hj.symm ((g.good.step (L1 ++ e :: A) x B (by simp)).1 e (by simp))

theorem zip_mem {l : List Oper} {i : Nat} {o : Oper} (h : l[i]? = some o) : (o, i) ∈ l.zipIdx := by
  rw [List.mem_zipIdx_iff_getElem?]; exact h

/-- two that write write different temporaries; who looks at what another writes stands behind or ahead of it -/
theorem RG.dst (g : RG P hp nt ops t0 h0 L t' h') {x e : PS} (hx : x ∈ L) (he : e ∈ L) (hj : x.j ≠ e.j) {d : Nat} (hd : e.o.dst = some d) :
    x.o.dst ≠ some d ∧ (d ∈ looks ops x.o → (nthD 0 (masks ops.toList) x.j).testBit e.j = true ∨ (nthD 0 (masks ops.toList) e.j).testBit x.j = true) := by
  have h := g.pair _ (zip_mem (g.good.at_ x hx)) _ (zip_mem (g.good.at_ e he))
  unfold pairOk at h
  have hne : Nat.beq x.j e.j = false := by cases hb : Nat.beq x.j e.j with | false => rfl | true => exact absurd (Nat.eq_of_beq_eq_true hb) hj
  simp only [hne, hd, Bool.false_and, Bool.false_or, Bool.not_false, Bool.true_and, Bool.and_eq_true, Bool.or_eq_true, bne_iff_ne, Bool.not_eq_true', List.contains_eq_mem, decide_eq_false_iff_not] at h
  refine ⟨h.1, fun hl => ?_⟩
  rcases h.2 with (h | h) | h
  · exact absurd hl h
  · exact .inl h
  · exact .inr h
theorem RG.self (g : RG P hp nt ops t0 h0 L t' h') {e : PS} (he : e ∈ L) {d : Nat} (hd : e.o.dst = some d) : d ∉ looks ops e.o := by
  have h := g.pair _ (zip_mem (g.good.at_ e he)) _ (zip_mem (g.good.at_ e he))
  unfold pairOk at h
  have hne : Nat.beq e.j e.j = true := Nat.beq_refl _
  simpa [hne, hd] using h

variable {σ0 σ : Sg} {w0 w : World} {a0 a : Act} {D : Nat → Bool}

theorem MI.mask (m : MI L h0 nt ops σ0 w0 a0 D σ w a) (g : RG P hp nt ops t0 h0 L t' h') {e : PS} (he : e ∈ L) (hd : ∀ d ∈ deps e.o, D d = true) {x : Nat} (hx : (nthD 0 (masks ops.toList) e.j).testBit x = true) : D x = true :=
  mask_closed m.closed e.j e.o (g.good.at_ e he) hd x hx

/-- the state behind one more -/
theorem MI.next (m : MI L h0 nt ops σ0 w0 a0 D σ w a) (g : RG P hp nt ops t0 h0 L t' h') {e : PS} (he : e ∈ L) (hde : D e.j = false) (hd : ∀ d ∈ deps e.o, D d = true) {σ' : Sg} {w' : World} {v' : Value}
    (hv : VR (cutSg σ' e.h'.nx) e.v v') (ok' : HeapOK σ' (clm (fun j => j == e.j || D j) h0.cl L) w') (ext' : Ext σ (clm D h0.cl L) w σ' (clm (fun j => j == e.j || D j) h0.cl L) w')
    (hsame : ∀ id, ¬ (e.h.nx ≤ id ∧ id < e.h'.nx) → σ' id = σ id) (hnx : h0.nx ≤ e.h.nx) (hwf : e.loud = true → ∀ id, e.h'.nx ≤ id → e.h'.cl id = .dead)
    (hokc : ∀ x ∈ L, (x.j == e.j || D x.j) = false → ∀ id, id < x.h.nx → clm (fun j => j == e.j || D j) h0.cl L id ≠ .dead → ∀ b sz o, σ' id = some (b, sz) → w'.heap[b]? = some o → BOK (cutSg σ' x.h.nx) (clm (fun j => j == e.j || D j) h0.cl L id) sz o) :
    MI L h0 nt ops σ0 w0 a0 (fun j => j == e.j || D j) σ' w' (a.put e.o.dst v') := by
  have hD : ∀ {j}, (j == e.j || D j) = true → j = e.j ∨ D j = true := fun {j} h => by
    rcases (Bool.or_eq_true _ _).mp h with h | h
    · exact .inl (by simpa using h)
    · exact .inr h
  have hDr : ∀ {j}, D j = true → (j == e.j || D j) = true := fun {j} h => by simp [h]
  refine ⟨ok', fun id hid hn => ?_, fun y hy hdy d hdst => ?_, fun x hx => ?_, by rw [put_size]; exact m.size, by rw [put_defers]; exact m.defers, m.ext.trans ext', fun id hid => ?_, fun L1 x L2 hL hl hdx y hy => ?_, fun x hx hl hdx => ?_, fun i hi o ho d hdd => ?_, hokc⟩
  · rw [hsame id (hn e he (by simp))]
    exact m.free id hid fun y hy hdy => hn y hy (hDr hdy)
  · rcases hD hdy with hj | hdy
    · have := g.uniq hy he hj
      subst this
      have hlt : d < a.tmps.size := by rw [m.size]; exact (g.tm _ (List.mem_of_getElem? (g.good.at_ _ hy))).2 d hdst
      rw [put_at, if_pos ⟨hdst, hlt⟩]
      exact hv
    · have hj : e.j ≠ y.j := fun h => by rw [h, hdy] at hde; cases hde
      rw [put_at, if_neg (fun h => (g.dst he hy hj hdst).1 h.1)]
      refine (m.val y hy hdy d hdst).mono fun id x hx => ?_
      simp only [cutSg] at hx ⊢
      split at hx
      · rename_i hlt; rw [if_pos hlt]; exact ext'.up _ _ hx
      · cases hx
  · rw [put_at, if_neg (fun h => hx e he (by simp) h.1)]
    exact m.old x fun y hy hdy => hx y hy (hDr hdy)
  · rw [hsame id (by omega)]; exact m.low id hid
  · have hxL : x ∈ L := by rw [hL]; simp
    rcases hD hdx with hj | hdx
    · have := g.uniq hxL he hj
      subst this
      exact hDr (m.mask g hxL hd ((g.good.step L1 x L2 hL).2.2.1 hl y hy))
    · exact hDr (m.ord L1 x L2 hL hl hdx y hy)
  · rcases hD hdx with hj | hdx
    · have := g.uniq hx he hj
      subst this
      exact hwf hl
    · exact m.wf x hx hl hdx
  · rcases hD hi with hj | hi
    · subst hj
      rw [g.good.at_ e he] at ho
      cases ho
      exact hDr (hd d hdd)
    · exact hDr (m.closed i hi o ho d hdd)

/-- the temporaries as the operation is to see them -/
def virt (nt : Nat) (ds : List Nat) (a a0 : Act) : Act := ⟨Array.ofFn fun x : Fin nt => if x.1 ∈ ds then a.tmps.getD x.1 undef else a0.tmps.getD x.1 undef, a.defers⟩
theorem virt_at {ds : List Nat} {x : Nat} (hx : x < nt) : (virt nt ds a a0).tmps.getD x undef = if x ∈ ds then a.tmps.getD x undef else a0.tmps.getD x undef := by
  simp [virt, Array.getD, hx]
theorem virt_size {ds : List Nat} : (virt nt ds a a0).tmps.size = nt := by simp [virt]

theorem mem_needs {bm : List Nat} {j : Nat} {o : Oper} {d : Nat} : d ∈ needsOf ops bm j o ↔ d ∈ looks ops o ∧ ∃ i o', ops.toList[i]? = some o' ∧ o'.dst = some d ∧ (nthD 0 bm j).testBit i = true := by
  unfold needsOf
  rw [List.mem_filter, List.any_eq_true]
  refine and_congr_right fun _ => ⟨fun ⟨y, h1, h2⟩ => ?_, fun ⟨i, o', h1, h2, h3⟩ => ⟨(o', i), zip_mem h1, ?_⟩⟩
  · rw [Bool.and_eq_true] at h2
    refine ⟨y.2, y.1, by rw [List.mem_zipIdx_iff_getElem?] at h1; exact h1, ?_, h2.2⟩
    have := h2.1
    split at this
    · rename_i d' hd'
      rw [hd', Nat.eq_of_beq_eq_true this]
    · cases this
  · simp [h2, h3, Nat.beq_refl]

end
end Go.Ev
namespace Go.Ev
section
variable {P : Program} {hp : H} {nt : Nat} {ops : Array Oper} {t0 t' : T} {h0 h' : H} {L : List PS}
variable {σ0 σ : Sg} {w0 w : World} {a0 a : Act} {D : Nat → Bool}

theorem RG.nx_of (g : RG P hp nt ops t0 h0 L t' h') {e : PS} (he : e ∈ L) : h0.nx ≤ e.h.nx ∧ e.h.nx ≤ e.h'.nx := by
  obtain ⟨pl, r⟩ := g.run
  exact ⟨(r.nx.2 e he).1, (r.nx.2 e he).2.1⟩
theorem RG.nx_pre (g : RG P hp nt ops t0 h0 L t' h') {L1 L2 : List PS} {e : PS} (hL : L = L1 ++ e :: L2) : (∀ y ∈ L1, y.h'.nx ≤ e.h.nx) ∧ ∀ y ∈ L2, e.h'.nx ≤ y.h.nx := by
  obtain ⟨pl, r⟩ := g.run
  rw [hL] at r
  obtain ⟨pl1, pl2, t1, h1, ss1, r1, r2⟩ := r.split
  cases r2 with
  | cons hj ho hh ht ok hl hls hls1 rest =>
    refine ⟨fun y hy => ?_, fun y hy => (rest.nx.2 y hy).1⟩
    rw [hh]; exact (r1.nx.2 y hy).2.2

theorem RG.needs (g : RG P hp nt ops t0 h0 L t' h') {L1 L2 : List PS} {e : PS} (hL : L = L1 ++ e :: L2) {d : Nat} (hd : d ∈ needsOf ops (masks ops.toList) e.j e.o) :
    ∃ y ∈ L1, y.o.dst = some d ∧ (nthD 0 (masks ops.toList) e.j).testBit y.j = true := by
  obtain ⟨_, i, o', h1, h2, h3⟩ := mem_needs.1 hd
  obtain ⟨q1, q2, q3, q4⟩ := g.good.step L1 e L2 hL
  have heL : e ∈ L := by rw [hL]; simp
  have hcl := mask_closed (l := ops.toList) (D := fun j => L1.any fun y => y.j == j) (fun i hi o ho dd hdd => ?_) e.j e.o (g.good.at_ e heL) (fun d hd => ?_) i h3
  · obtain ⟨y, hy, hyj⟩ := List.any_eq_true.1 hcl
    have hyj : y.j = i := by simpa using hyj
    have hyL : y ∈ L := by rw [hL]; exact List.mem_append_left _ hy
    have := g.good.at_ y hyL
    rw [hyj, h1] at this
    cases this
    exact ⟨y, hy, h2, by rw [hyj]; exact h3⟩
  · obtain ⟨y, hy, hyj⟩ := List.any_eq_true.1 hi
    have hyj : y.j = i := by simpa using hyj
    obtain ⟨A, B, hAB⟩ := List.append_of_mem hy
    have hyL : y ∈ L := by rw [hL]; exact List.mem_append_left _ hy
    have := g.good.at_ y hyL
    rw [hyj, ho] at this
    cases this
    obtain ⟨z, hz, hzj⟩ := (g.good.step A y (B ++ e :: L2) (by rw [hL, hAB]; simp)).2.1 dd hdd
    exact List.any_eq_true.2 ⟨z, by rw [hAB]; exact List.mem_append_left _ hz, by simp [hzj]⟩
  · obtain ⟨y, hy, hyj⟩ := q2 d hd
    exact List.any_eq_true.2 ⟨y, hy, by simp [hyj]⟩

theorem RG.temps_ (g : RG P hp nt ops t0 h0 L t' h') : (∀ e ∈ L, ∀ d, e.o.dst = some d → d < 256) ∧ L.Pairwise fun e e' => ∀ d, e.o.dst = some d → e'.o.dst ≠ some d := by
  refine ⟨fun e he d hd => Nat.lt_of_lt_of_le ((g.tm _ (List.mem_of_getElem? (g.good.at_ e he))).2 d hd) g.few, ?_⟩
  suffices h : ∀ A B, L = A ++ B → B.Pairwise fun e e' => ∀ d, e.o.dst = some d → e'.o.dst ≠ some d from h [] L rfl
  intro A B
  induction B generalizing A with
  | nil => exact fun _ => .nil
  | cons x B ih =>
    intro hL
    refine List.pairwise_cons.2 ⟨fun y hy d hd => ?_, ih (A ++ [x]) (by rw [hL]; simp)⟩
    have hx : x ∈ L := by rw [hL]; simp
    have hyL : y ∈ L := by rw [hL]; simp [hy]
    have hne : y.j ≠ x.j := fun hj => by
      obtain ⟨C, E, rfl⟩ := List.append_of_mem hy
      exact (g.good.step (A ++ x :: C) y E (by rw [hL]; simp)).1 x (by simp) hj.symm
    exact (g.dst hyL hx hne hd).1

theorem up_cut {n : Nat} (hlow : ∀ id, id < h0.nx → σ id = σ0 id) (hfr : ∀ id, h0.nx ≤ id → σ0 id = none) (hn : h0.nx ≤ n) : Up σ0 (cutSg σ n) := fun id x hx => by
  have hlt : id < h0.nx := by
    rcases Nat.lt_or_ge id h0.nx with h | h
    · exact h
    · rw [hfr id h] at hx; cases hx
  simp only [cutSg]
  rw [if_pos (by omega), hlow id hlt]; exact hx

/-- the virtual temporaries are those of the plan -/
theorem virt_ok (m : MI L h0 nt ops σ0 w0 a0 D σ w a) (g : RG P hp nt ops t0 h0 L t' h') (hfr : ∀ id, h0.nx ≤ id → σ0 id = none) (ht0 : TR σ0 nt t0 a0.tmps) {L1 L2 : List PS} {e : PS} (hL : L = L1 ++ e :: L2) (hd : ∀ d ∈ deps e.o, D d = true) :
    TR (cutSg σ e.h.nx) nt e.t (virt nt (needsOf ops (masks ops.toList) e.j e.o) a a0).tmps := by
  have heL : e ∈ L := by rw [hL]; simp
  have hlk := (g.tm _ (List.mem_of_getElem? (g.good.at_ e heL))).1
  refine ⟨virt_size, g.few, fun x hx => ?_⟩
  rw [virt_at hx]
  obtain ⟨pl, r⟩ := g.run
  have htm := g.temps_
  rw [hL] at r
  obtain ⟨pl1, pl2, t1, h1, ss1, r1, r2⟩ := r.split
  have het : e.t = fillT (needsOf ops (masks ops.toList) e.j e.o) t0 t1 := by
    cases r2 with
    | cons hj ho hh ht ok hl hls hls1 rest => rw [ht, hj, ho]
  have hT := r1.temps (fun y hy => htm.1 y (by rw [hL]; exact List.mem_append_left _ hy)) ((List.pairwise_append.1 (hL ▸ htm.2)).1)
  have hF := fillT_at (ds := needsOf ops (masks ops.toList) e.j e.o) (fun d hd => Nat.lt_of_lt_of_le (hlk d (mem_needs.1 hd).1) g.few) (t0 := t0) (t := t1) (Nat.lt_of_lt_of_le hx g.few)
  rw [het]
  by_cases hm : x ∈ needsOf ops (masks ops.toList) e.j e.o
  · rw [if_pos hm, hF.1 hm]
    obtain ⟨y, hy, hyd, hyb⟩ := g.needs hL hm
    have hyL : y ∈ L := by rw [hL]; exact List.mem_append_left _ hy
    rw [hT.1 y hy x hyd]
    refine (m.val y hyL (m.mask g heL hd hyb) x hyd).mono fun id z hz => ?_
    simp only [cutSg] at hz ⊢
    split at hz
    · rename_i hlt
      rw [if_pos (Nat.lt_of_lt_of_le hlt ((g.nx_pre hL).1 y hy))]; exact hz
    · cases hz
  · rw [if_neg hm, hF.2 hm]
    exact (ht0.at_ x hx).mono (up_cut m.low hfr (g.nx_of heL).1)

/-- what the operation looks at is the same there -/
theorem virt_same (m : MI L h0 nt ops σ0 w0 a0 D σ w a) (g : RG P hp nt ops t0 h0 L t' h') {e : PS} (he : e ∈ L) (hde : D e.j = false) (hd : ∀ d ∈ deps e.o, D d = true) {x : Nat} (hx : x ∈ looks ops e.o) :
    (virt nt (needsOf ops (masks ops.toList) e.j e.o) a a0).tmps.getD x undef = a.tmps.getD x undef := by
  have hlt := (g.tm _ (List.mem_of_getElem? (g.good.at_ e he))).1 x hx
  rw [virt_at hlt]
  by_cases hm : x ∈ needsOf ops (masks ops.toList) e.j e.o
  · rw [if_pos hm]
  · rw [if_neg hm]
    refine (m.old x fun y hy hdy hyd => ?_).symm
    have hne : e.j ≠ y.j := fun h => by rw [h, hdy] at hde; cases hde
    rcases (g.dst he hy hne hyd).2 hx with h | h
    · exact hm (mem_needs.2 ⟨hx, y.j, y.o, g.good.at_ y hy, hyd, h⟩)
    · have := mask_closed m.closed y.j y.o (g.good.at_ y hy) (fun d hdd => m.closed y.j hdy y.o (g.good.at_ y hy) d hdd) e.j h
      rw [this] at hde; cases hde

theorem virt_stp {l : Option Nat} {X : Value → World → Prop} (m : MI L h0 nt ops σ0 w0 a0 D σ w a) (g : RG P hp nt ops t0 h0 L t' h') {e : PS} (he : e ∈ L) (hde : D e.j = false) (hd : ∀ d ∈ deps e.o, D d = true)
    (h : Stp P l ops e.o (virt nt (needsOf ops (masks ops.toList) e.j e.o) a a0) w fun a' w' => ∃ v', a' = (virt nt (needsOf ops (masks ops.toList) e.j e.o) a a0).put e.o.dst v' ∧ X v' w') :
    Stp P l ops e.o a w fun a' w' => ∃ v', a' = a.put e.o.dst v' ∧ X v' w' := by
  obtain ⟨pl, r⟩ := g.run
  have hsupp := (r.ok e he).supp
  refine Stp.move hsupp.1 hsupp.2 h (fun x hx => ?_) (by rw [virt_size, m.size]) (fun d hdst => by rw [virt_size]; exact (g.tm _ (List.mem_of_getElem? (g.good.at_ e he))).2 d hdst) ?_
  · cases x with
    | tmp n => exact virt_same m g he hde hd (List.mem_append_left _ (List.mem_filterMap.2 ⟨.tmp n, by simpa using hx, rfl⟩))
    | const v => rfl
    | global n => rfl
    | func f => rfl
  · unfold Region.wanted
    cases hg : e.o.guard with
    | none => rfl
    | some q =>
      obtain ⟨j, wnt⟩ := q
      have : yielded ops (virt nt (needsOf ops (masks ops.toList) e.j e.o) a a0).tmps j = yielded ops a.tmps j := by
        unfold yielded
        cases hdst : (ops[j]?).bind (·.dst) with
        | none => rfl
        | some d =>
          have hlk : d ∈ looks ops e.o := by
            refine List.mem_append_right _ ?_
            rw [hg]
            simp [hdst]
          have hlt := (g.tm _ (List.mem_of_getElem? (g.good.at_ e he))).1 d hlk
          have hs := virt_same m g he hde hd hlk
          simp only [Option.bind_some]
          have e1 : ∀ b : Act, b.tmps.size = nt → b.tmps[d]? = some (b.tmps.getD d undef) := fun b hb => by
            have : d < b.tmps.size := by rw [hb]; exact hlt
            simp [Array.getD, this]
          rw [e1 _ virt_size, e1 _ m.size, hs]
      simp only [this]

theorem D_next {L1 L2 : List PS} {e : PS} (hL : L = L1 ++ e :: L2) (g : RG P hp nt ops t0 h0 L t' h') : (∀ y ∈ L1, ((fun j => j == e.j || D j) y.j) = D y.j) ∧ (∀ y ∈ L2, ((fun j => j == e.j || D j) y.j) = D y.j) := by
  have heL : e ∈ L := by rw [hL]; simp
  have hne : ∀ y ∈ L, y ≠ e → (y.j == e.j) = false := fun y hy h => by
    cases hb : y.j == e.j with
    | false => rfl
    | true => exact absurd (g.uniq hy heL (by simpa using hb)) h
  constructor
  · intro y hy
    have : y.j ≠ e.j := (g.good.step L1 e L2 hL).1 y hy
    simp [this]
  · intro y hy
    have : y.j ≠ e.j := fun hj => by
      obtain ⟨A, B, rfl⟩ := List.append_of_mem hy
      exact (g.good.step (L1 ++ e :: A) y B (by rw [hL]; simp)).1 e (by simp) hj.symm
    simp [this]

/-- nobody loud behind has been done -/
theorem MI.calm (m : MI L h0 nt ops σ0 w0 a0 D σ w a) {L1 L2 : List PS} {e : PS} (hL : L = L1 ++ e :: L2) (hde : D e.j = false) : ∀ y ∈ L2, y.loud = true → D y.j = false := fun y hy hl => by
  cases hd : D y.j with
  | false => rfl
  | true =>
    obtain ⟨A, B, rfl⟩ := List.append_of_mem hy
    have := m.ord (L1 ++ e :: A) y B (by rw [hL]; simp) hl hd e (by simp)
    rw [this] at hde; cases hde
end
end Go.Ev
namespace Go.Ev
section
variable {P : Program} {hp : H} {nt : Nat} {ops : Array Oper} {t0 t' : T} {h0 h' : H} {L : List PS}
variable {σ0 σ : Sg} {w0 w : World} {a0 a : Act} {D : Nat → Bool}

theorem last_done {α : Type} (p : α → Prop) [DecidablePred p] : ∀ l : List α, (∀ y ∈ l, ¬ p y) ∨ ∃ A y B, l = A ++ y :: B ∧ p y ∧ ∀ z ∈ B, ¬ p z
  | [] => .inl fun y h => (by cases h)
  | x :: l => by
    rcases last_done p l with h | ⟨A, y, B, h1, h2, h3⟩
    · by_cases hx : p x
      · exact .inr ⟨[], x, l, rfl, hx, h⟩
      · refine .inl fun y hy => ?_
        rcases List.mem_cons.1 hy with rfl | hy
        · exact hx
        · exact h y hy
    · exact .inr ⟨x :: A, y, B, by rw [h1]; rfl, h2, h3⟩

/-- some of the claims, seen by those ahead -/
theorem MI.sub (m : MI L h0 nt ops σ0 w0 a0 D σ w a) {e : PS} (he : e ∈ L) (hde : D e.j = false) {k : Cm} (hk : ∀ id, k id ≠ .dead → clm D h0.cl L id = k id ∧ id < e.h.nx) : HeapOK (cutSg σ e.h.nx) k w := by
  refine ⟨fun id hid => ?_, fun x y b s1 s2 h1 h2 e1 e2 => ?_⟩
  · obtain ⟨g1, g2⟩ := hk id hid
    obtain ⟨b, sz, o, q1, q2, q3⟩ := m.ok.ok id (by rw [g1]; exact hid)
    refine ⟨b, sz, o, by simp only [cutSg]; rw [if_pos g2]; exact q1, q2, ?_⟩
    rw [← g1]
    exact m.okc e he hde id g2 (by rw [g1]; exact hid) b sz o q1 q2
  · obtain ⟨g1, g2⟩ := hk x h1
    obtain ⟨g3, g4⟩ := hk y h2
    simp only [cutSg, if_pos g2] at e1
    simp only [cutSg, if_pos g4] at e2
    exact m.ok.inj _ _ _ _ _ (by rw [g1]; exact h1) (by rw [g3]; exact h2) e1 e2

theorem wf0 (ok0 : HeapOK σ0 h0.cl w0) (hfr : ∀ id, h0.nx ≤ id → σ0 id = none) : ∀ id, h0.nx ≤ id → h0.cl id = .dead := fun id hid => by
  by_cases h : h0.cl id = .dead
  · exact h
  · obtain ⟨b, sz, o, g, _⟩ := ok0.ok id h
    rw [hfr id hid] at g; cases g

theorem loudsOf_split (A B : List PS) (y : PS) (hy : y.loud = true) : loudsOf (A ++ y :: B) = loudsOf B ++ y :: loudsOf A := by
  unfold loudsOf
  rw [List.filter_append, List.filter_cons_of_pos (by exact hy), List.reverse_append]
  simp

/-- a look is at the heap of the last loud one done -/
theorem snap_ok (m : MI L h0 nt ops σ0 w0 a0 D σ w a) (g : RG P hp nt ops t0 h0 L t' h') (w0f : ∀ id, h0.nx ≤ id → h0.cl id = .dead) {L1 L2 : List PS} {e : PS} (hL : L = L1 ++ e :: L2) (hde : D e.j = false) (hd : ∀ d ∈ deps e.o, D d = true) :
    e.ls = [] ∨ ∃ S ∈ e.ls, HeapOK (cutSg σ e.h.nx) S.cl w := by
  have heL : e ∈ L := by rw [hL]; simp
  rcases (g.good.step L1 e L2 hL).2.2.2 with h | ⟨back, h1, h2, h3⟩
  · exact .inl h
  refine .inr ?_
  have hcalm := m.calm hL hde
  have hlt : ∀ x, (loudsOf L1)[back]? = some x → D x.j = true := fun x hx => m.mask g heL hd (h3 x hx)
  rcases last_done (fun y : PS => y.loud = true ∧ D y.j = true) L1 with hn | ⟨A, y, B, rfl, ⟨hy1, hy2⟩, hB⟩
  · have hb : back = (loudsOf L1).length := by
      rcases Nat.lt_or_ge back (loudsOf L1).length with hh | hh
      · have hx := hlt _ (List.getElem?_eq_getElem hh)
        have hm : (loudsOf L1)[back] ∈ loudsOf L1 := List.getElem_mem hh
        unfold loudsOf at hm
        rw [List.mem_reverse, List.mem_filter] at hm
        exact absurd ⟨hm.2, hx⟩ (hn _ hm.1)
      · omega
    refine ⟨h0, ?_, m.sub heL hde fun id hid => ?_⟩
    · rw [h1]
      refine List.mem_of_getElem? (i := (loudsOf L1).length) ?_
      rw [List.getElem?_take, if_pos (by omega), List.getElem?_append_right (by simp)]
      simp
    · have hlt : id < h0.nx := by
        rcases Nat.lt_or_ge id h0.nx with h | h
        · exact h
        · exact absurd (w0f id h) hid
      refine ⟨clm_low hlt (fun y hy => (g.nx_of hy).1) fun y hy hl => ?_, Nat.lt_of_lt_of_le hlt (g.nx_of heL).1⟩
      rw [hL] at hy
      rcases List.mem_append.1 hy with hy | hy
      · cases hh : D y.j with
        | false => rfl
        | true => exact absurd ⟨hl, hh⟩ (hn y hy)
      · rcases List.mem_cons.1 hy with rfl | hy
        · exact hde
        · exact hcalm y hy hl
  · rw [loudsOf_split A B y hy1] at h1 h2 hlt
    have hb : (loudsOf B).length ≤ back := by
      rcases Nat.lt_or_ge back (loudsOf B).length with hh | hh
      · have hx := hlt _ (by rw [List.getElem?_append_left hh]; exact List.getElem?_eq_getElem hh)
        have hm : (loudsOf B)[back] ∈ loudsOf B := List.getElem_mem hh
        unfold loudsOf at hm
        rw [List.mem_reverse, List.mem_filter] at hm
        exact absurd ⟨hm.2, hx⟩ (hB _ hm.1)
      · exact hh
    have hyL : y ∈ L := by rw [hL]; simp
    have hLs : L = A ++ y :: (B ++ e :: L2) := by rw [hL]; simp
    have hye : y.h'.nx ≤ e.h.nx := (g.nx_pre hL).1 y (by simp)
    refine ⟨y.h', ?_, m.sub heL hde fun id hid => ?_⟩
    · rw [h1]
      refine List.mem_of_getElem? (i := (loudsOf B).length) ?_
      rw [List.getElem?_take, if_pos (by omega), List.map_append, List.append_assoc, List.getElem?_append_right (by simp)]
      simp
    · have hlt : id < y.h'.nx := by
        rcases Nat.lt_or_ge id y.h'.nx with h | h
        · exact h
        · exact absurd (m.wf y hyL hy1 hy2 id h) hid
      refine ⟨?_, Nat.lt_of_lt_of_le hlt hye⟩
      rw [hLs, clm_append, clm_cons]
      rw [clm_low hlt (fun z hz => (g.nx_pre hLs).2 z hz) fun z hz hl => ?_]
      · unfold eff; rw [if_pos hy2, if_pos hy1]
      · rcases List.mem_append.1 hz with hz | hz
        · cases hh : D z.j with
          | false => rfl
          | true => exact absurd ⟨hl, hh⟩ (hB z hz)
        · rcases List.mem_cons.1 hz with rfl | hz
          · exact hde
          · exact hcalm z hz hl

theorem step_quiet {l : Option Nat} (m : MI L h0 nt ops σ0 w0 a0 D σ w a) (g : RG P hp nt ops t0 h0 L t' h') (hfr : ∀ id, h0.nx ≤ id → σ0 id = none) (st0 : St P hp σ0 h0 w0) (ht0 : TR σ0 nt t0 a0.tmps) {L1 L2 : List PS} {e : PS} (hL : L = L1 ++ e :: L2) (hde : D e.j = false) (hd : ∀ d ∈ deps e.o, D d = true)
    (hq : e.loud = false) : Stp P l ops e.o a w fun a' w' => ∃ v', a' = a.put e.o.dst v' ∧ ∃ σ', MI L h0 nt ops σ0 w0 a0 (fun j => j == e.j || D j) σ' w' (a.put e.o.dst v') := by
  have heL : e ∈ L := by rw [hL]; simp
  obtain ⟨pl, r⟩ := g.run
  have q := (r.ok e heL).quiet hq
  obtain ⟨n1, n2⟩ := g.nx_of heL
  have hcutn : cutSg σ e.h.nx e.h.nx = none := by simp [cutSg]
  have hD1 := (D_next (D := D) hL g).1
  have hD2 := (D_next (D := D) hL g).2
  have hfree : ∀ id, e.h.nx ≤ id → id < e.h'.nx → σ id = none := fun id h1 h2 => m.free id (by omega) fun y hy hdy ⟨h3, h4⟩ => by
    rw [hL] at hy
    rcases List.mem_append.1 hy with hy | hy
    · have := (g.nx_pre hL).1 y hy; omega
    · rcases List.mem_cons.1 hy with rfl | hy
      · rw [hdy] at hde; cases hde
      · have := (g.nx_pre hL).2 y hy; omega
  obtain ⟨v', w', σq, hs, hv, hcase⟩ := q.step (cutSg σ e.h.nx) l (virt nt (needsOf ops (masks ops.toList) e.j e.o) a a0) w (st0.ctx.mono (up_cut m.low hfr n1)) (virt_ok m g hfr ht0 hL hd) hcutn
    (snap_ok m g (wf0 st0.ok hfr) hL hde hd)
  have hs2 := virt_stp (X := fun v1 w1 => v1 = v' ∧ w1 = w') m g heL hde hd hs
  have hself : (fun j => j == e.j || D j) e.j = true := by simp
  have hsplit : ∀ id, clm (fun j => j == e.j || D j) h0.cl L id = clm D (fun id => if e.h'.nx = e.h.nx + 1 ∧ id = e.h.nx then e.h'.cl id else clm D h0.cl L1 id) L2 id := fun id => by
    rw [hL, clm_append, clm_cons, clm_congr (D := fun j => j == e.j || D j) (D' := D) (L := L2) hD2, clm_congr (D := fun j => j == e.j || D j) (D' := D) (L := L1) hD1]
    unfold eff
    rw [if_pos hself, hq]
    rfl
  have hsplit0 : ∀ id, clm D h0.cl L id = clm D (clm D h0.cl L1) L2 id := fun id => by
    rw [hL, clm_append, clm_cons]
    unfold eff
    rw [hde]; rfl
  intro K Q hk
  refine hs2 K Q fun a' w1 ⟨v1, ha, hv1, hw1⟩ => ?_
  subst hv1; subst hw1; subst ha
  rcases hcase with ⟨hn, hw, hσ⟩ | ⟨hn, obj, sz, hw, hσ, hb⟩
  · subst hw; subst hσ
    have hceq : clm (fun j => j == e.j || D j) h0.cl L = clm D h0.cl L := by
      funext id
      rw [hsplit, hsplit0]
      congr 1
      funext x
      rw [if_neg (fun h => by omega)]
    refine hk _ _ ⟨v1, rfl, σ, m.next g heL hde hd (by rw [hn]; exact hv) (by rw [hceq]; exact m.ok) (by rw [hceq]; exact Ext.refl _ _ _) (fun _ _ => rfl) n1 (fun h => by rw [hq] at h; cases h) fun x hx hdx => ?_⟩
    rw [hceq]
    exact m.okc x hx (by simp only [Bool.or_eq_false_iff] at hdx; exact hdx.2)
  · subst hw; subst hσ
    have hlow2 : ∀ y ∈ L2, e.h.nx + 1 ≤ y.h.nx := fun y hy => by have := (g.nx_pre hL).2 y hy; omega
    have hcalm := m.calm hL hde
    have hceq : clm (fun j => j == e.j || D j) h0.cl L = fun x => if x = e.h.nx then e.h'.cl e.h.nx else clm D h0.cl L x := by
      funext id
      rw [hsplit]
      by_cases hid : id = e.h.nx
      · subst hid
        rw [clm_low (Nat.lt_succ_self _) hlow2 hcalm, if_pos rfl, if_pos ⟨hn, rfl⟩]
      · rw [if_neg hid, hsplit0]
        exact clm_same hcalm (by rw [if_neg (fun h => hid h.2)])
    have hfe : σ e.h.nx = none := hfree _ (Nat.le_refl _) (by omega)
    have hcutσ : newSg (cutSg σ e.h.nx) e.h.nx w.heap.size sz = cutSg (newSg σ e.h.nx w.heap.size sz) (e.h.nx + 1) := by
      funext id
      simp only [newSg, cutSg]
      by_cases h : id = e.h.nx
      · subst h; simp
      · by_cases h2 : id < e.h.nx
        · rw [if_neg h, if_pos h2, if_pos (by omega), if_neg h]
        · rw [if_neg h, if_neg h2, if_neg (by omega)]
    have cut_up : ∀ (τ : Sg) (a b : Nat), a ≤ b → Up (cutSg τ a) (cutSg τ b) := fun τ a b hab id z hz => by
      simp only [cutSg] at hz ⊢
      split at hz
      · rw [if_pos (by omega)]; exact hz
      · cases hz
    have hb2 : BOK (newSg σ e.h.nx w.heap.size sz) (e.h'.cl e.h.nx) sz obj := hb.mono (by
      rw [hcutσ]
      intro id z hz
      simp only [cutSg] at hz
      split at hz
      · exact hz
      · cases hz)
    obtain ⟨ok', ext'⟩ := m.ok.newC hfe hceq hb2
    refine hk _ _ ⟨v1, rfl, _, m.next g heL hde hd (by rw [hn, ← hcutσ]; exact hv) ok' ext' (fun id hid => ?_) n1 (fun h => by rw [hq] at h; cases h) fun x hx hdx id hid hc b sz' o h1 h2 => ?_⟩
    · have : id ≠ e.h.nx := fun h => hid ⟨by omega, by omega⟩
      simp [newSg, this]
    · simp only [Bool.or_eq_false_iff] at hdx
      have hup : ∀ n, Up (cutSg σ n) (cutSg (newSg σ e.h.nx w.heap.size sz) n) := fun n id z hz => by
        simp only [cutSg] at hz ⊢
        split at hz
        · rename_i hlt; rw [if_pos hlt]; exact newSg_up hfe _ _ hz
        · cases hz
      rw [hceq] at hc ⊢
      by_cases hie : id = e.h.nx
      · subst hie
        rw [newSg_at] at h1
        cases h1
        rw [alloc_new] at h2
        cases h2
        simp only [if_true]
        rw [hcutσ] at hb
        exact hb.mono (cut_up _ _ _ (by omega))
      · simp only [if_neg hie] at hc ⊢
        have h1' : σ id = some (b, sz') := by simpa [newSg, hie] using h1
        rw [alloc_old (m.ok.lt hc h1')] at h2
        exact (m.okc x hx hdx.2 id hid hc b sz' o h1' h2).mono (hup _)
end
end Go.Ev
namespace Go.Ev
section
variable {P : Program} {hp : H} {nt : Nat} {ops : Array Oper} {t0 t' : T} {h0 h' : H} {L : List PS}
variable {σ0 σ : Sg} {w0 w : World} {a0 a : Act} {D : Nat → Bool}

theorem wf_run {bm : List Nat} {t h ss pl B t1 h1} (r : Run P hp nt ops bm t0 t h ss pl B t1 h1) (hq : ∀ y ∈ B, y.loud = false) (hw : ∀ id, h.nx ≤ id → h.cl id = .dead) : ∀ id, h1.nx ≤ id → h1.cl id = .dead := by
  induction r with
  | nil => exact hw
  | @cons pe rr t h ss e L t' h' hj ho hh ht ok hl hls hls1 rest ih =>
    refine ih (fun y hy => hq y (List.mem_cons_of_mem _ hy)) fun id hid => ?_
    have q := ok.quiet (hq e (List.mem_cons_self ..))
    rw [q.cl]
    have := q.nx
    show (if e.h'.nx = e.h.nx + 1 ∧ id = e.h.nx then e.h'.cl id else e.h.cl id) = _
    rw [if_neg (fun hx => by omega), hh]
    rw [hh] at this
    exact hw id (by omega)

theorem step_loud {l : Option Nat} (m : MI L h0 nt ops σ0 w0 a0 D σ w a) (g : RG P hp nt ops t0 h0 L t' h') (hfr : ∀ id, h0.nx ≤ id → σ0 id = none) (st0 : St P hp σ0 h0 w0) (ht0 : TR σ0 nt t0 a0.tmps) {L1 L2 : List PS} {e : PS} (hL : L = L1 ++ e :: L2) (hde : D e.j = false) (hd : ∀ d ∈ deps e.o, D d = true)
    (hq : e.loud = true) : Stp P l ops e.o a w fun a' w' => ∃ v', a' = a.put e.o.dst v' ∧ ∃ σ', MI L h0 nt ops σ0 w0 a0 (fun j => j == e.j || D j) σ' w' (a.put e.o.dst v') := by
  have heL : e ∈ L := by rw [hL]; simp
  obtain ⟨pl, r⟩ := g.run
  obtain ⟨hnx, q⟩ := (r.ok e heL).loud_ hq
  obtain ⟨n1, n2⟩ := g.nx_of heL
  have hD1 := (D_next (D := D) hL g).1
  have hD2 := (D_next (D := D) hL g).2
  have hcalm := m.calm hL hde
  have hlow2 := (g.nx_pre hL).2
  have hL1 : ∀ y ∈ L1, D y.j = true := fun y hy => m.mask g heL hd ((g.good.step L1 e L2 hL).2.2.1 hq y hy)
  have r' := r
  rw [hL] at r'
  obtain ⟨pl1, pl2, t1, h1, ss1, r1, r2⟩ := r'.split
  have hh1 : e.h = h1 := by cases r2 with | cons hj ho hh ht ok hl hls hls1 rest => exact hh
  have hc1 : clm D h0.cl L1 = e.h.cl := by rw [hh1]; exact clm_all r1 hL1
  have hwf : ∀ id, e.h.nx ≤ id → e.h.cl id = .dead := by
    rw [hh1]
    rcases last_done (fun y : PS => y.loud = true) L1 with hn | ⟨A, y, B, hAB, hy1, hB⟩
    · exact wf_run r1 (fun y hy => by have := hn y hy; simpa using this) (wf0 st0.ok hfr)
    · rw [hAB] at r1
      obtain ⟨_, _, _, _, _, r3, r4⟩ := r1.split
      have hyL1 : y ∈ L1 := by rw [hAB]; simp
      have hyL : y ∈ L := by rw [hL]; exact List.mem_append_left _ hyL1
      cases r4 with
      | cons hj ho hh ht ok hl hls hls1 rest => exact wf_run rest (fun z hz => by have := hB z hz; simpa using this) (m.wf y hyL hy1 (hL1 y hyL1))
  have hfree : ∀ id, e.h.nx ≤ id → id < e.h'.nx → σ id = none := fun id h1 h2 => m.free id (by omega) fun y hy hdy ⟨h3, h4⟩ => by
    rw [hL] at hy
    rcases List.mem_append.1 hy with hy | hy
    · have := (g.nx_pre hL).1 y hy; omega
    · rcases List.mem_cons.1 hy with rfl | hy
      · rw [hdy] at hde; cases hde
      · have := (g.nx_pre hL).2 y hy; omega
  have hself : (fun j => j == e.j || D j) e.j = true := by simp
  have hsplit : ∀ id, clm (fun j => j == e.j || D j) h0.cl L id = clm D e.h'.cl L2 id := fun id => by
    rw [hL, clm_append, clm_cons, clm_congr (D := fun j => j == e.j || D j) (D' := D) (L := L2) hD2, clm_congr (D := fun j => j == e.j || D j) (D' := D) (L := L1) hD1]
    unfold eff
    rw [if_pos hself, if_pos hq]
  have hsplit0 : ∀ id, clm D h0.cl L id = clm D e.h.cl L2 id := fun id => by
    rw [hL, clm_append, clm_cons, hc1]
    unfold eff
    rw [hde]; rfl
  have hk : ∀ id, id < e.h'.nx → clm D h0.cl L id = e.h.cl id := fun id hid => by rw [hsplit0, clm_low hid hlow2 hcalm]
  have hst : St P hp (cutSg σ e.h.nx) e.h w := by
    refine ⟨st0.ctx.mono (up_cut m.low hfr n1), m.sub heL hde fun id hid => ?_, fun id n tl ht => ?_, Nat.le_trans g.nx n1⟩
    · have hlt : id < e.h.nx := by
        rcases Nat.lt_or_ge id e.h.nx with h | h
        · exact h
        · exact absurd (hwf id h) hid
      exact ⟨hk id (by omega), hlt⟩
    · have h1 := m.ext.tabs id n tl (st0.tabs id n tl ht)
      have hlt : id < hp.nx := g.hpo.lt id (by rw [ht]; intro h; cases h)
      have := g.nx
      rw [hk id (by omega)] at h1
      exact h1
  have hs := q (cutSg σ e.h.nx) l (virt nt (needsOf ops (masks ops.toList) e.j e.o) a a0) w hst (virt_ok m g hfr ht0 hL hd) (fun id h _ => by simp only [cutSg]; rw [if_neg (by omega)])
  have hs2 := virt_stp (X := fun v1 w1 => ∃ σ', SExt (cutSg σ e.h.nx) e.h w σ' e.h' w1 ∧ HeapOK σ' e.h'.cl w1 ∧ VR σ' e.v v1) m g heL hde hd hs
  intro K Q hkk
  refine hs2 K Q fun a' w' ⟨v', ha, σr, x1, x2, x3⟩ => ?_
  subst ha
  have hout : ∀ id, e.h'.nx ≤ id → σr id = none := fun id hid => by
    rw [x1.out id (by omega)]
    simp only [cutSg]; rw [if_neg (by omega)]
  have hwf' : ∀ id, e.h'.nx ≤ id → e.h'.cl id = .dead := wf0 x2 hout
  have hceq : clm (fun j => j == e.j || D j) h0.cl L = fun id => if id < e.h'.nx then e.h'.cl id else clm D h0.cl L id := by
    funext id
    rw [hsplit]
    by_cases hid : id < e.h'.nx
    · rw [if_pos hid, clm_low hid hlow2 hcalm]
    · rw [if_neg hid, hsplit0]
      exact clm_same hcalm (by rw [hwf id (by omega), hwf' id (by omega)])
  obtain ⟨ok', ext', hcut⟩ := merge_ok hnx m.ok hk hwf hfree x1.toExt hout x2 hceq
  refine hkk _ _ ⟨v', rfl, mixSg σ σr e.h'.nx, m.next g heL hde hd (by rw [hcut]; exact x3) ok' ext' (fun id hid => ?_) n1 (fun _ => hwf') fun x hx hdx id hid hc b sz o h1 h2 => ?_⟩
  · simp only [mixSg]
    by_cases h : id < e.h'.nx
    · have hlt : id < e.h.nx := by omega
      rw [if_pos h, x1.out id (by omega)]
      simp only [cutSg]; rw [if_pos hlt]
    · rw [if_neg h]
  · simp only [Bool.or_eq_false_iff] at hdx
    have hx2 : x ∈ L2 := by
      rw [hL] at hx
      rcases List.mem_append.1 hx with hx | hx
      · have := hL1 x hx; rw [hdx.2] at this; cases this
      · rcases List.mem_cons.1 hx with rfl | hx
        · have := hdx.1; simp at this
        · exact hx
    have hxn := hlow2 x hx2
    rw [hceq] at hc ⊢
    by_cases h : id < e.h'.nx
    · simp only [if_pos h] at hc ⊢
      simp only [mixSg, if_pos h] at h1
      obtain ⟨b', sz', o', q1, q2, q3⟩ := x2.ok id hc
      rw [h1] at q1
      obtain ⟨rfl, rfl⟩ := Prod.mk.inj (Option.some.inj q1)
      rw [h2] at q2
      cases q2
      refine q3.mono fun z y hz => ?_
      have hz : cutSg (mixSg σ σr e.h'.nx) e.h'.nx z = some y := by rw [hcut]; exact hz
      simp only [cutSg] at hz ⊢
      split at hz
      · rw [if_pos (by omega)]; exact hz
      · cases hz
    · simp only [if_neg h] at hc ⊢
      simp only [mixSg, if_neg h] at h1
      have hkeep : w'.heap[b]? = w.heap[b]? := x1.keep b (m.ok.lt hc h1) fun id' sz' g1 g2 => by
        have hlt : id' < e.h.nx := by
          rcases Nat.lt_or_ge id' e.h.nx with hh | hh
          · exact hh
          · exact absurd (hwf id' hh) g1
        simp only [cutSg, if_pos hlt] at g2
        have := m.ok.inj _ _ _ _ _ hc (by rw [hk id' (by omega)]; exact g1) h1 g2
        omega
      rw [hkeep] at h2
      refine (m.okc x hx hdx.2 id hid hc b sz o h1 h2).mono fun z y hz => ?_
      simp only [cutSg] at hz ⊢
      split at hz
      · rename_i hlt; rw [if_pos hlt]; exact ext'.up _ _ hz
      · cases hz

theorem first_not {α : Type} (p : α → Prop) [DecidablePred p] : ∀ l : List α, (∀ y ∈ l, p y) ∨ ∃ A y B, l = A ++ y :: B ∧ ¬ p y ∧ ∀ z ∈ A, p z
  | [] => .inl fun y h => (by cases h)
  | x :: l => by
    by_cases hx : p x
    · rcases first_not p l with h | ⟨A, y, B, h1, h2, h3⟩
      · refine .inl fun y hy => ?_
        rcases List.mem_cons.1 hy with rfl | hy
        · exact hx
        · exact h y hy
      · refine .inr ⟨x :: A, y, B, by rw [h1]; rfl, h2, fun z hz => ?_⟩
        rcases List.mem_cons.1 hz with rfl | hz
        · exact hx
        · exact h3 z hz
    · exact .inr ⟨[], x, l, rfl, hx, fun z hz => (by cases hz)⟩

theorem mem_ready {listed : Array Bool} {i : Nat} : i ∈ Region.ready .any ops listed ↔ i < ops.size ∧ listed.getD i true = false ∧ ∃ o, ops[i]? = some o ∧ ∀ d ∈ deps o, listed.getD d false = true := by
  unfold Region.ready
  rw [List.mem_filter, List.mem_range]
  refine and_congr_right fun hi => ?_
  rw [Bool.and_eq_true]
  refine and_congr (by simp) ?_
  have ho : ops[i]? = some ops[i] := Array.getElem?_eq_getElem hi
  rw [ho]
  simp only [Option.map_some, Option.getD_some, Option.some.injEq, exists_eq_left', deps, Array.all_eq_true']
  constructor
  · intro h d hd
    obtain ⟨x, hx, rfl⟩ := List.mem_map.1 hd
    rw [List.mem_filter] at hx
    have := h x (by simpa using hx.1)
    rw [hx.2] at this
    simpa using this
  · intro h x hx
    cases hb : Region.binds .any x with
    | false => rfl
    | true =>
      have := h x.on (List.mem_map.2 ⟨x, List.mem_filter.2 ⟨by simpa using hx, hb⟩, rfl⟩)
      simpa using this

theorem draw_any {l : Option Nat} (g : RG P hp nt ops t0 h0 L t' h') (hfr : ∀ id, h0.nx ≤ id → σ0 id = none) (st0 : St P hp σ0 h0 w0) (ht0 : TR σ0 nt t0 a0.tmps) {Q : Exit → Act → World → Prop}
    (hQ : ∀ D σ w a, MI L h0 nt ops σ0 w0 a0 D σ w a → (∀ e ∈ L, D e.j = true) → Q .normal a w) : ∀ (fuel : Nat) (U : List Nat) (listed : Array Bool) (σ : Sg) (a : Act) (w : World), listed.size = ops.size → MI L h0 nt ops σ0 w0 a0 (fun j => listed.getD j false) σ w a →
      (∀ i, i < ops.size → listed.getD i false = false → i ∈ U) → U.length ≤ fuel → wpAnyIn (Fx l) 0 P .any ops Q fuel listed a w := by
  have hlen : ∀ {e : PS}, e ∈ L → e.j < ops.size := fun {e} he => by
    have := (List.getElem?_eq_some_iff.1 (g.good.at_ e he)).1
    simpa using this
  have hready : ∀ (listed : Array Bool), listed.size = ops.size → Region.ready .any ops listed = [] → ∀ e ∈ L, listed.getD e.j false = true := fun listed hsz hr => by
    rcases first_not (fun y : PS => listed.getD y.j false = true) L with h | ⟨A, y, B, hAB, hy, hA⟩
    · exact h
    · exfalso
      have hyL : y ∈ L := by rw [hAB]; simp
      have : y.j ∈ Region.ready .any ops listed := by
        refine mem_ready.2 ⟨hlen hyL, ?_, y.o, by have := g.good.at_ y hyL; simpa using this, fun d hd => ?_⟩
        · have hlt : y.j < listed.size := by rw [hsz]; exact hlen hyL
          have hy' : listed.getD y.j false = false := by simpa using hy
          simpa [Array.getD, hlt] using hy'
        · obtain ⟨z, hz, hzj⟩ := (g.good.step A y B hAB).2.1 d hd
          rw [← hzj]; exact hA z hz
      rw [hr] at this; cases this
  intro fuel
  induction fuel with
  | zero =>
    intro U listed σ a w hsz m hU hle
    have hU0 : U = [] := List.length_eq_zero_iff.1 (Nat.le_zero.1 hle)
    subst hU0
    have hr : Region.ready .any ops listed = [] := by
      rw [List.eq_nil_iff_forall_not_mem]
      intro i hi
      obtain ⟨h1, h2, _⟩ := mem_ready.1 hi
      have hlt : i < listed.size := by rw [hsz]; exact h1
      have := hU i h1 (by simpa [Array.getD, hlt] using h2)
      cases this
    exact ⟨hr, hQ _ σ w a m (hready listed hsz hr)⟩
  | succ fuel ih =>
    intro U listed σ a w hsz m hU hle
    refine ⟨fun hr => hQ _ σ w a m (hready listed hsz hr), fun i hi => ?_⟩
    obtain ⟨h1, h2, o, h3, h4⟩ := mem_ready.1 hi
    have hlt : i < listed.size := by rw [hsz]; exact h1
    have hde : listed.getD i false = false := by simpa [Array.getD, hlt] using h2
    obtain ⟨e, heL, hej⟩ := g.good.all i (by simpa using h1)
    subst hej
    have heo : o = e.o := by have := g.good.at_ e heL; rw [Array.getElem?_toList, h3] at this; exact Option.some.inj this
    subst heo
    obtain ⟨L1, L2, hL⟩ := List.append_of_mem heL
    have hs : Stp P l ops e.o a w fun a' w' => ∃ v', a' = a.put e.o.dst v' ∧ ∃ σ', MI L h0 nt ops σ0 w0 a0 (fun j => j == e.j || listed.getD j false) σ' w' (a.put e.o.dst v') := by
      cases hq : e.loud with
      | false => exact step_quiet m g hfr st0 ht0 hL hde h4 hq
      | true => exact step_loud m g hfr st0 ht0 hL hde h4 hq
    have hset : (fun j => (listed.setIfInBounds e.j true).getD j false) = fun j => j == e.j || listed.getD j false := by
      funext j
      by_cases hj : j = e.j
      · subst hj; simp [hlt]
      · have : (j == e.j) = false := by simp [hj]
        rw [this, Bool.false_or]
        simp only [Array.getD_eq_getD_getElem?]
        rw [Array.getElem?_setIfInBounds_ne (Ne.symm hj)]
    have := hs (wpAnyIn (Fx l) 0 P .any ops Q fuel (listed.setIfInBounds e.j true)) Q fun a' w' ⟨v', ha, σ', m'⟩ => by
      subst ha
      refine ih (U.erase e.j) _ σ' _ w' (by simp [hsz]) (by rw [hset]; exact m') (fun i hi hf => ?_) ?_
      · have hf' : (i == e.j || listed.getD i false) = false := by
          have h5 : (listed.setIfInBounds e.j true).getD i false = (i == e.j || listed.getD i false) := congrFun hset i
          rw [← h5]; exact hf
        simp only [Bool.or_eq_false_iff, beq_eq_false_iff_ne] at hf'
        exact (List.mem_erase_of_ne hf'.1).2 (hU i hi hf'.2)
      · rw [List.length_erase_of_mem (hU e.j h1 hde)]; omega
    simpa only [wpOpIn, h3] using this
end
end Go.Ev
namespace Go.Ev
section
variable {P : Program} {hp : H} {nt : Nat} {ops : Array Oper} {pu : PU}

theorem planOk_kind {l : List Oper} {bm : List Nat} : ∀ {pl : List PE} {done ls}, planOk ops l bm pl done ls = true → ∀ e ∈ pl, e.kind = cls e.o.op
  | [], done, ls, _, e, he => by cases he
  | pe :: pl, done, ls, h, e, he => by
    have h : ((match l[pe.j]? with | some _ => true | none => false) && !done.testBit pe.j && Nat.beq pe.kind (cls pe.o.op) && (deps pe.o).all (fun d => done.testBit d) && (!Nat.beq pe.kind 3 || Nat.beq (Nat.land done (nthD 0 bm pe.j)) done) &&
      (!Nat.beq pe.kind 1 || (Nat.ble pe.back ls.length && (match ls.drop pe.back with | [] => true | x :: _ => (nthD 0 bm pe.j).testBit x))) && planOk ops l bm pl (Nat.lor done (onBit pe.j)) (if Nat.beq pe.kind 3 then pe.j :: ls else ls)) = true := h
    simp only [Bool.and_eq_true] at h
    rcases List.mem_cons.1 he with rfl | he
    · exact Nat.eq_of_beq_eq_true h.1.1.1.1.2
    · exact planOk_kind h.2 e he

theorem cDraw_ok (hpo : HpOK P hp) (hpu : PUOK P hp pu) (hmix : P.follows .mixedOrders = true) {f : F} (e : cDraw pu P nt ops = .mk f) : DrawOK P hp nt ops f := by
  rcases bcl_inv e with h | ⟨htm, e1⟩
  · exact fun ih _ t hh k r er => by rw [h] at er; cases er
  rcases bcl_inv e1 with h | ⟨hdr, e2⟩
  · exact fun ih _ t hh k r er => by rw [h] at er; cases er
  cases hc : cPlan pu P nt ops (masks ops.toList) (plan ops.toList) with | mk fd =>
  rw [hc] at e2
  cases e2
  intro ih hih t h k r er
  have er : fd ih t t h [h] k = some r := er
  unfold tmpsOk at htm
  rw [Bool.and_eq_true, List.all_eq_true] at htm
  have h256 : nt ≤ 256 := Nat.le_of_ble_eq_true htm.1
  have htm2 : ∀ o ∈ ops.toList, ((∀ d ∈ looks ops o, d < nt) ∧ (∀ d, o.dst = some d → d < nt)) ∧ plainOp o.op = true := fun o ho => by
    have := htm.2 o ho
    simp only [Bool.and_eq_true, List.all_eq_true] at this
    refine ⟨⟨fun d hd => blt_lt (this.1.1 d hd), fun d hd => ?_⟩, this.2⟩
    have h2 := this.1.2
    rw [hd] at h2
    exact blt_lt h2
  unfold drawOk at hdr
  simp only [Bool.and_eq_true, List.all_eq_true] at hdr
  obtain ⟨hpk, hpair⟩ := hdr
  have hspec := plan_spec ops.toList
  obtain ⟨L, t', h', hrun, hk⟩ := run_some hpo hpu hih hc (fun e he => by
    have hm := List.mem_of_getElem? (hspec e he)
    exact ⟨planOk_kind hpk e he, fun d hd => Nat.lt_of_lt_of_le ((htm2 _ hm).1.2 d hd) h256, (htm2 _ hm).2⟩) er
  have hgood0 := run_good (l := ops.toList) (h0 := h) (pre := []) hrun hpk hspec (fun i => by simp) rfl rfl
  have hgood : Good ops.toList (masks ops.toList) h L := ⟨hgood0.1, fun i hi => by have := hgood0.2.1 i hi; simpa using this, fun L1 e L2 hL => by have := hgood0.2.2 L1 e L2 hL; simpa using this⟩
  refine ⟨t', h', hk, hrun.nx.1, fun σ l a w n0 id st fr ht mk hn => wpIn_region_any hmix ?_⟩
  have hfr : ∀ id, h.nx ≤ id → σ id = none := fun id hid => fr id hid (Nat.zero_le _)
  have hg : RG P hp nt ops t h L t' h' := ⟨hpo, st.nx, ⟨_, hrun⟩, hgood, h256, fun o ho => (htm2 o ho).1, hpair⟩
  obtain ⟨w1, hw1⟩ : ∃ w1 : World, w1 = { w with drawn := w.drawn + 1 } := ⟨_, rfl⟩
  have hheap : w1.heap = w.heap := by rw [hw1]
  have st1 : St P hp σ h w1 := ⟨st.ctx, st.ok.of_heap hheap, st.tabs, st.nx⟩
  have hnone : ∀ j, (Array.replicate ops.size false).getD j false = false := fun j => by
    simp only [Array.getD_eq_getD_getElem?, Array.getElem?_replicate]
    split <;> rfl
  have hclm0 : clm (fun j => (Array.replicate ops.size false).getD j false) h.cl L = h.cl := by
    have : ∀ (L : List PS) (c : Cm), clm (fun j => (Array.replicate ops.size false).getD j false) c L = c := fun L => by
      induction L with
      | nil => exact fun c => rfl
      | cons e L ih =>
        intro c
        rw [clm_cons, ih]
        have := hnone e.j
        unfold eff
        simp only [this, Bool.false_eq_true, if_false]
    exact this L h.cl
  have hcut : ∀ n, h.nx ≤ n → Up σ (cutSg σ n) := fun n hn => up_cut (fun _ _ => rfl) hfr hn
  rw [← hw1]
  refine draw_any (l := l) hg hfr st1 ht (fun D σ' w' a' m hall => ?_) ops.size (List.range ops.size) _ σ a w1 (by simp) ?_ (fun i hi _ => List.mem_range.2 hi) (by simp)
  · have hcl : clm D h.cl L = h'.cl := clm_all hrun hall
    have hext := m.ext
    have hok := m.ok
    rw [hcl] at hext hok
    have hnx := hrun.nx
    have hsext : SExt σ h w σ' h' w' := by
      refine ⟨⟨hext.up, by have := hext.size; rw [hheap] at this; exact this, fun b hb hc => ?_, fun i b sz h1 h2 hb => hext.own i b sz h1 h2 (by rw [hheap]; exact hb), hext.tabs, ⟨by rw [hext.same.os, hw1], by rw [hext.same.tape, hw1], by rw [hext.same.output, hw1]⟩, fun i n l b sz hc hs hb => by rw [hext.tabk i n l b sz hc hs (by rw [hheap]; exact hb), hheap]⟩, hnx.1, fun i hi => ?_⟩
      · have := hext.keep b (by rw [hheap]; exact hb) hc
        rw [hheap] at this; exact this
      · rcases Nat.lt_or_ge i h.nx with hlt | hge
        · exact m.low i hlt
        · rw [m.free i hge fun e he _ => by have := (hnx.2 e he).2.2; omega, hfr i hge]
    refine ⟨t', h', σ', .inl ⟨rfl, rfl⟩, hsext, hok, ⟨m.size, h256, fun x hx => ?_⟩, by rw [m.defers]; exact mk.next hsext⟩
    have hT := hrun.temps hg.temps_.1 hg.temps_.2
    by_cases hex : ∃ e ∈ L, e.o.dst = some x
    · obtain ⟨e, he, hd⟩ := hex
      rw [hT.1 e he x hd]
      refine (m.val e he (hall e he) x hd).mono fun i y hy => ?_
      simp only [cutSg] at hy
      split at hy
      · exact hy
      · cases hy
    · have hno : ∀ e ∈ L, e.o.dst ≠ some x := fun e he hd => hex ⟨e, he, hd⟩
      rw [hT.2 x (Nat.lt_of_lt_of_le hx h256) hno, m.old x fun e he _ => hno e he]
      exact (ht.at_ x hx).mono hsext.up
  · refine ⟨by rw [hclm0]; exact st1.ok, fun i hi _ => hfr i hi, fun e he hd => ?_, fun x _ => rfl, ht.size, rfl, by rw [hclm0]; exact Ext.refl _ _ _, fun _ _ => rfl, fun L1 e L2 hL hl hd => ?_, fun e he hl hd => ?_, fun i hi => ?_, fun e he _ i hi hc b sz o h1 h2 => ?_⟩
    · simp only [hnone] at hd; cases hd
    · simp only [hnone] at hd; cases hd
    · simp only [hnone] at hd; cases hd
    · simp only [hnone] at hi; cases hi
    · rw [hclm0] at hc ⊢
      obtain ⟨b', sz', o', q1, q2, q3⟩ := st1.ok.ok i hc
      rw [h1] at q1
      obtain ⟨rfl, rfl⟩ := Prod.mk.inj (Option.some.inj q1)
      rw [h2] at q2
      cases q2
      exact q3.mono (hcut _ (hg.nx_of he).1)

/-- **THE EVALUATOR TELLS WHAT THE MACHINE DOES** -/
theorem sound (hpo : HpOK P hp) (hpu : PUOK P hp pu) (hmix : P.follows .mixedOrders = true) (n : Nat) : IHOK P hp (ev pu P n) := ev_ok hpo hpu (fun _ _ _ e => cDraw_ok hpo hpu hmix e) n
end
end Go.Ev
namespace Go.Ev
open Go.RowKit
section
variable {P : Program} {hp : H}

/-- the globals alone have numbers -/
def gSg (P : Program) (sz : Nat → Nat) : Sg := fun id => if id < P.globals.size then some (id, sz id) else none

theorem below_of {σ σ' : Sg} {h' : H} {w w' : World} (hpo : HpOK P hp) (e : SExt σ hp w σ' h' w') : Below w.heap.size w w' := by
  refine ⟨e.same.os, e.same.tape, e.same.output, e.size, fun b hb => ?_⟩
  by_cases hx : ∃ id sz, hp.cl id ≠ .dead ∧ σ id = some (b, sz)
  · obtain ⟨id, sz, h1, h2⟩ := hx
    obtain ⟨n, l, hn⟩ := hpo.tab id h1
    exact e.tabk id n l b sz hn h2 hb
  · exact e.keep b hb fun id sz h1 h2 => hx ⟨id, sz, h1, h2⟩

/-- **A CALL THAT THE EVALUATOR SAYS IS TRUE RETURNS TRUE**, and turns no old block. -/
theorem calls_true {ih : IH} (hih : IHOK P hp ih) (hpo : HpOK P hp) {f : FuncId} {args : V} {vs : Array Value} {w : World} {σ : Sg} (st : St P hp σ hp w) (hfr : ∀ id, hp.nx ≤ id → σ id = none) (hv : VRs σ args vs.toList) {h' : H} (e : ih (.call f args hp) = some (.val (.b true) h')) :
    Calls P f vs w fun e W' => e = .returned (.bool true) ∧ Below w.heap.size w W' := by
  obtain ⟨x, h'', h1, h2, h3, h4⟩ := hih.call _ _ _ _ e
  cases h1
  refine callsIn_wide.1 ((h4 σ w vs st (fun id hid _ => hfr id hid) hv).mono fun e W' hR => ?_)
  obtain ⟨v, σ', rfl, q1, q2, q3⟩ := hR
  cases q3
  exact ⟨rfl, below_of hpo q1⟩
def isTrue (r : R) : Bool := r.rec false fun r => r.rec (fun v _ => v.rec (fun x => x) (fun _ _ => false) (fun _ _ => false) (fun _ _ _ => false) (fun _ _ => false) (fun _ => false) (fun _ _ => false) (fun _ _ _ _ => false) (fun _ => false) (fun _ _ _ _ _ => false) (fun _ => false) (fun _ _ _ => false) (fun _ _ => false) (fun _ _ _ => false) false (fun _ _ _ _ => false)) (fun _ _ => false) (fun _ _ => false) (fun _ _ _ => false)
theorem isTrue_ok {r : R} (h : isTrue r = true) : ∃ h', r = some (.val (.b true) h') := by
  cases r with
  | none => cases h
  | some r =>
    cases r with
    | val v h' =>
      cases v with
      | b x => cases x <;> first | (cases h; done) | exact ⟨_, rfl⟩
      | _ => cases h
    | _ => cases h
end
end Go.Ev
namespace Go.Ev
section
variable {P : Program}
def h0T (nx g n : Nat) (l : V) : H := (H.mk nx HTe).set g (.tab n l)
theorem h0T_cl (nx g n : Nat) (l : V) (hg : g < 65536) (x : Nat) : (h0T nx g n l).cl x = if x = g then .tab n l else .dead := by
  unfold h0T
  rw [H.cl_set _ _ _ hg]
  by_cases h : x = g
  · simp [h]
  · simp only [if_neg h]
    show (if x < 65536 then HTe.get x else .dead) = .dead
    split
    · unfold HT.get HTe
      rw [N.get_all, N.get_all, N.get_all, N.get_all]
    · rfl
theorem h0T_nx (nx g n : Nat) (l : V) : (h0T nx g n l).nx = nx := by unfold h0T; rw [H.nx_set]; rfl
theorem h0T_ok {nx g n : Nat} {l : V} (hb : g < 65536) (h1 : P.globals.size ≤ nx) (h2 : g < nx) : HpOK P (h0T nx g n l) := by
  refine ⟨fun id h => ?_, by rw [h0T_nx]; exact h1, fun id h => ?_⟩
  · rw [h0T_cl _ _ _ _ hb] at h ⊢
    by_cases hi : id = g
    · exact ⟨n, l, by simp [hi]⟩
    · simp [hi] at h
  · rw [h0T_cl _ _ _ _ hb] at h
    rw [h0T_nx]
    by_cases hi : id = g
    · omega
    · simp [hi] at h
theorem h0T_st {nx g n : Nat} {l : V} (hb : g < 65536) (h1 : P.globals.size ≤ nx) (hg : g < P.globals.size) (hn : 0 < n) {W : World} {vs : List Value} (hl : vs.length = n) (hv : ∀ τ, VRs τ l vs) (hc : ∀ c v, vs[c]? = some v → W.cell? ⟨g, c, none⟩ = some v) :
    ∃ σ, St P (h0T nx g n l) σ (h0T nx g n l) W ∧ ∀ id, (h0T nx g n l).nx ≤ id → σ id = none := by
  have h0 : ∃ (C : Array Value) (e : TypeId) (fr : Nat × Nat), W.heap[g]? = some (.cells C e fr) ∧ ∀ (c : Nat) (v : Value), vs[c]? = some v → C[c]? = some v := by
    have hx := hc 0 (vs[0]'(by omega)) (List.getElem?_eq_getElem (by omega))
    unfold World.cell? at hx hc
    cases ho : W.heap[g]? with
    | none => simp [ho] at hx
    | some o =>
      cases o with
      | cells C e fr => exact ⟨C, e, fr, rfl, fun c v h => by have := hc c v h; simpa [ho] using this⟩
      | _ => simp [ho] at hx
  obtain ⟨C, e, fr, hC, hcv⟩ := h0
  have hsz : n ≤ C.size := by
    have := hcv (n - 1) (vs[n - 1]'(by omega)) (List.getElem?_eq_getElem (by omega))
    have := (Array.getElem?_eq_some_iff.1 this).1
    omega
  have htake : C.toList.take n = vs := by
    apply List.ext_getElem?
    intro i
    rw [List.getElem?_take]
    by_cases hi : i < n
    · rw [if_pos hi, Array.getElem?_toList]
      rw [List.getElem?_eq_getElem (by omega)]
      exact hcv i _ (List.getElem?_eq_getElem (by omega))
    · rw [if_neg hi, List.getElem?_eq_none (by omega)]
  refine ⟨gSg P fun _ => C.size, ⟨fun g hgl => ⟨C.size, by simp [gSg, hgl]⟩, ⟨fun id hid => ?_, fun id id' b s1 s2 h2 h3 e1 e2 => ?_⟩, fun _ _ _ h => h, Nat.le_refl _⟩, fun id hid => ?_⟩
  · rw [h0T_cl _ _ _ _ hb] at hid ⊢
    by_cases hi : id = g
    · subst hi
      rw [if_pos rfl]
      refine ⟨id, C.size, .cells C e fr, by simp [gSg, hg], hC, C, e, fr, rfl, rfl, hsz, fun τ => by rw [htake]; exact hv τ⟩
    · simp [hi] at hid
  · rw [h0T_cl _ _ _ _ hb] at h2 h3
    have a : id = g := by by_cases h : id = g <;> simp_all
    have b : id' = g := by by_cases h : id' = g <;> simp_all
    rw [a, b]
  · rw [h0T_nx] at hid
    simp only [gSg]; rw [if_neg (by omega)]
end
end Go.Ev
namespace Go.Ev
def knNil (v : V) : Bool := v.rec (fun _ => false) (fun _ _ => false) (fun _ _ => false) (fun _ _ _ => false) (fun _ _ => false) (fun _ => false) (fun _ _ => false) (fun _ _ _ _ => false) (fun _ => false) (fun _ _ _ _ _ => false) (fun _ => false) (fun _ _ _ => false) (fun _ _ => false) (fun _ _ _ => false) true (fun _ _ _ _ => false)
def valH (d : H) (r : R) : H := r.rec d fun r => r.rec (fun _ h => h) (fun _ _ => d) (fun _ _ => d) (fun _ _ _ => d)
def know (kn : Nat) (d : H) (pu : PU) : PU := fun f vs => (Nat.beq f kn).rec (pu f vs) ((knNil vs).rec (pu f vs) (some (.val (.b true) (valH d (pu kn .nil)))))
theorem knNil_ok {v : V} (h : knNil v = true) : v = .nil := by cases v <;> first | rfl | cases h
theorem know_eq {kn : Nat} {d : H} {pu : PU} (hk : isTrue (pu kn .nil) = true) : know kn d pu = pu := by
  obtain ⟨h', e⟩ := isTrue_ok hk
  funext f vs
  unfold know
  cases hf : Nat.beq f kn with
  | false => rfl
  | true =>
    obtain rfl := Nat.eq_of_beq_eq_true hf
    cases hn : knNil vs with
    | false => rfl
    | true =>
      obtain rfl := knNil_ok hn
      rw [e]
      rfl
end Go.Ev
namespace Go.Ev
open Go.RowKit
def an (a b : Bool) : Bool := a.rec false b
theorem an_ok {a b : Bool} (h : an a b = true) : a = true ∧ b = true := by cases a <;> cases b <;> first | exact ⟨rfl, rfl⟩ | cases h
def eqBo (x y : Bool) : Bool := x.rec (y.rec true false) (y.rec false true)
theorem eqBo_ok {x y : Bool} (h : eqBo x y = true) : x = y := by cases x <;> cases y <;> first | rfl | cases h
def sameV (a : V) : V → Bool := a.rec (fun x0 b => b.rec (fun y0 => eqBo x0 y0) (fun _ _ => false) (fun _ _ => false) (fun _ _ _ => false) (fun _ _ => false) (fun _ => false) (fun _ _ => false) (fun _ _ _ _ => false) (fun _ => false) (fun _ _ _ _ _ => false) (fun _ => false) (fun _ _ _ => false) (fun _ _ => false) (fun _ _ _ => false) false (fun _ _ _ _ => false)) (fun x0 x1 b => b.rec (fun _ => false) (fun y0 y1 => an (Nat.beq x0 y0) (Nat.beq x1 y1)) (fun _ _ => false) (fun _ _ _ => false) (fun _ _ => false) (fun _ => false) (fun _ _ => false) (fun _ _ _ _ => false) (fun _ => false) (fun _ _ _ _ _ => false) (fun _ => false) (fun _ _ _ => false) (fun _ _ => false) (fun _ _ _ => false) false (fun _ _ _ _ => false)) (fun x0 x1 b => b.rec (fun _ => false) (fun _ _ => false) (fun y0 y1 => an (Nat.beq x0 y0) (Nat.beq x1 y1)) (fun _ _ _ => false) (fun _ _ => false) (fun _ => false) (fun _ _ => false) (fun _ _ _ _ => false) (fun _ => false) (fun _ _ _ _ _ => false) (fun _ => false) (fun _ _ _ => false) (fun _ _ => false) (fun _ _ _ => false) false (fun _ _ _ _ => false)) (fun x0 x1 x2 b => b.rec (fun _ => false) (fun _ _ => false) (fun _ _ => false) (fun y0 y1 y2 => an (Nat.beq x0 y0) (an (Nat.beq x1 y1) (Nat.beq x2 y2))) (fun _ _ => false) (fun _ => false) (fun _ _ => false) (fun _ _ _ _ => false) (fun _ => false) (fun _ _ _ _ _ => false) (fun _ => false) (fun _ _ _ => false) (fun _ _ => false) (fun _ _ _ => false) false (fun _ _ _ _ => false)) (fun x0 x1 b => b.rec (fun _ => false) (fun _ _ => false) (fun _ _ => false) (fun _ _ _ => false) (fun y0 y1 => an (Nat.beq x0 y0) (Nat.beq x1 y1)) (fun _ => false) (fun _ _ => false) (fun _ _ _ _ => false) (fun _ => false) (fun _ _ _ _ _ => false) (fun _ => false) (fun _ _ _ => false) (fun _ _ => false) (fun _ _ _ => false) false (fun _ _ _ _ => false)) (fun x0 b => b.rec (fun _ => false) (fun _ _ => false) (fun _ _ => false) (fun _ _ _ => false) (fun _ _ => false) (fun y0 => Nat.beq x0 y0) (fun _ _ => false) (fun _ _ _ _ => false) (fun _ => false) (fun _ _ _ _ _ => false) (fun _ => false) (fun _ _ _ => false) (fun _ _ => false) (fun _ _ _ => false) false (fun _ _ _ _ => false)) (fun x0 x1 b => b.rec (fun _ => false) (fun _ _ => false) (fun _ _ => false) (fun _ _ _ => false) (fun _ _ => false) (fun _ => false) (fun y0 y1 => an (Nat.beq x0 y0) (Nat.beq x1 y1)) (fun _ _ _ _ => false) (fun _ => false) (fun _ _ _ _ _ => false) (fun _ => false) (fun _ _ _ => false) (fun _ _ => false) (fun _ _ _ => false) false (fun _ _ _ _ => false)) (fun x0 x1 x2 x3 b => b.rec (fun _ => false) (fun _ _ => false) (fun _ _ => false) (fun _ _ _ => false) (fun _ _ => false) (fun _ => false) (fun _ _ => false) (fun y0 y1 y2 y3 => an (Nat.beq x0 y0) (an (Nat.beq x1 y1) (an (Nat.beq x2 y2) (Nat.beq x3 y3)))) (fun _ => false) (fun _ _ _ _ _ => false) (fun _ => false) (fun _ _ _ => false) (fun _ _ => false) (fun _ _ _ => false) false (fun _ _ _ _ => false)) (fun x0 b => b.rec (fun _ => false) (fun _ _ => false) (fun _ _ => false) (fun _ _ _ => false) (fun _ _ => false) (fun _ => false) (fun _ _ => false) (fun _ _ _ _ => false) (fun y0 => Nat.beq x0 y0) (fun _ _ _ _ _ => false) (fun _ => false) (fun _ _ _ => false) (fun _ _ => false) (fun _ _ _ => false) false (fun _ _ _ _ => false)) (fun x0 x1 x2 ih1 ih2 b => b.rec (fun _ => false) (fun _ _ => false) (fun _ _ => false) (fun _ _ _ => false) (fun _ _ => false) (fun _ => false) (fun _ _ => false) (fun _ _ _ _ => false) (fun _ => false) (fun y0 y1 y2 _ _ => an (Nat.beq x0 y0) (an (ih1 y1) (ih2 y2))) (fun _ => false) (fun _ _ _ => false) (fun _ _ => false) (fun _ _ _ => false) false (fun _ _ _ _ => false)) (fun x0 b => b.rec (fun _ => false) (fun _ _ => false) (fun _ _ => false) (fun _ _ _ => false) (fun _ _ => false) (fun _ => false) (fun _ _ => false) (fun _ _ _ _ => false) (fun _ => false) (fun _ _ _ _ _ => false) (fun y0 => Nat.beq x0 y0) (fun _ _ _ => false) (fun _ _ => false) (fun _ _ _ => false) false (fun _ _ _ _ => false)) (fun x0 x1 ih1 b => b.rec (fun _ => false) (fun _ _ => false) (fun _ _ => false) (fun _ _ _ => false) (fun _ _ => false) (fun _ => false) (fun _ _ => false) (fun _ _ _ _ => false) (fun _ => false) (fun _ _ _ _ _ => false) (fun _ => false) (fun y0 y1 _ => an (Nat.beq x0 y0) (ih1 y1)) (fun _ _ => false) (fun _ _ _ => false) false (fun _ _ _ _ => false)) (fun x0 ih0 b => b.rec (fun _ => false) (fun _ _ => false) (fun _ _ => false) (fun _ _ _ => false) (fun _ _ => false) (fun _ => false) (fun _ _ => false) (fun _ _ _ _ => false) (fun _ => false) (fun _ _ _ _ _ => false) (fun _ => false) (fun _ _ _ => false) (fun y0 _ => ih0 y0) (fun _ _ _ => false) false (fun _ _ _ _ => false)) (fun x0 x1 ih1 b => b.rec (fun _ => false) (fun _ _ => false) (fun _ _ => false) (fun _ _ _ => false) (fun _ _ => false) (fun _ => false) (fun _ _ => false) (fun _ _ _ _ => false) (fun _ => false) (fun _ _ _ _ _ => false) (fun _ => false) (fun _ _ _ => false) (fun _ _ => false) (fun y0 y1 _ => an (Nat.beq x0 y0) (ih1 y1)) false (fun _ _ _ _ => false)) (fun b => b.rec (fun _ => false) (fun _ _ => false) (fun _ _ => false) (fun _ _ _ => false) (fun _ _ => false) (fun _ => false) (fun _ _ => false) (fun _ _ _ _ => false) (fun _ => false) (fun _ _ _ _ _ => false) (fun _ => false) (fun _ _ _ => false) (fun _ _ => false) (fun _ _ _ => false) true (fun _ _ _ _ => false)) (fun x0 x1 ih0 ih1 b => b.rec (fun _ => false) (fun _ _ => false) (fun _ _ => false) (fun _ _ _ => false) (fun _ _ => false) (fun _ => false) (fun _ _ => false) (fun _ _ _ _ => false) (fun _ => false) (fun _ _ _ _ _ => false) (fun _ => false) (fun _ _ _ => false) (fun _ _ => false) (fun _ _ _ => false) false (fun y0 y1 _ _ => an (ih0 y0) (ih1 y1)))
theorem sameV_ok : ∀ {a b : V}, sameV a b = true → a = b := by
  intro a
  induction a with
  | b x0 => intro b h; cases b <;> first | (cases h; done) | (have h0 := h; have g0 := h0; obtain rfl := eqBo_ok g0; rfl)
  | i x0 x1 => intro b h; cases b <;> first | (cases h; done) | (have h0 := h; obtain ⟨g0, h1⟩ := an_ok h0; have g1 := h1; obtain rfl := Nat.eq_of_beq_eq_true g0; obtain rfl := Nat.eq_of_beq_eq_true g1; rfl)
  | j x0 x1 => intro b h; cases b <;> first | (cases h; done) | (have h0 := h; obtain ⟨g0, h1⟩ := an_ok h0; have g1 := h1; obtain rfl := Nat.eq_of_beq_eq_true g0; obtain rfl := Nat.eq_of_beq_eq_true g1; rfl)
  | r x0 x1 x2 => intro b h; cases b <;> first | (cases h; done) | (have h0 := h; obtain ⟨g0, h1⟩ := an_ok h0; obtain ⟨g1, h2⟩ := an_ok h1; have g2 := h2; obtain rfl := Nat.eq_of_beq_eq_true g0; obtain rfl := Nat.eq_of_beq_eq_true g1; obtain rfl := Nat.eq_of_beq_eq_true g2; rfl)
  | s x0 x1 => intro b h; cases b <;> first | (cases h; done) | (have h0 := h; obtain ⟨g0, h1⟩ := an_ok h0; have g1 := h1; obtain rfl := Nat.eq_of_beq_eq_true g0; obtain rfl := Nat.eq_of_beq_eq_true g1; rfl)
  | z x0 => intro b h; cases b <;> first | (cases h; done) | (have h0 := h; have g0 := h0; obtain rfl := Nat.eq_of_beq_eq_true g0; rfl)
  | p x0 x1 => intro b h; cases b <;> first | (cases h; done) | (have h0 := h; obtain ⟨g0, h1⟩ := an_ok h0; have g1 := h1; obtain rfl := Nat.eq_of_beq_eq_true g0; obtain rfl := Nat.eq_of_beq_eq_true g1; rfl)
  | l x0 x1 x2 x3 => intro b h; cases b <;> first | (cases h; done) | (have h0 := h; obtain ⟨g0, h1⟩ := an_ok h0; obtain ⟨g1, h2⟩ := an_ok h1; obtain ⟨g2, h3⟩ := an_ok h2; have g3 := h3; obtain rfl := Nat.eq_of_beq_eq_true g0; obtain rfl := Nat.eq_of_beq_eq_true g1; obtain rfl := Nat.eq_of_beq_eq_true g2; obtain rfl := Nat.eq_of_beq_eq_true g3; rfl)
  | m x0 => intro b h; cases b <;> first | (cases h; done) | (have h0 := h; have g0 := h0; obtain rfl := Nat.eq_of_beq_eq_true g0; rfl)
  | f x0 x1 x2 ih1 ih2 => intro b h; cases b <;> first | (cases h; done) | (have h0 := h; obtain ⟨g0, h1⟩ := an_ok h0; obtain ⟨g1, h2⟩ := an_ok h1; have g2 := h2; obtain rfl := Nat.eq_of_beq_eq_true g0; obtain rfl := ih1 g1; obtain rfl := ih2 g2; rfl)
  | y x0 => intro b h; cases b <;> first | (cases h; done) | (have h0 := h; have g0 := h0; obtain rfl := Nat.eq_of_beq_eq_true g0; rfl)
  | a x0 x1 ih1 => intro b h; cases b <;> first | (cases h; done) | (have h0 := h; obtain ⟨g0, h1⟩ := an_ok h0; have g1 := h1; obtain rfl := Nat.eq_of_beq_eq_true g0; obtain rfl := ih1 g1; rfl)
  | t x0 ih0 => intro b h; cases b <;> first | (cases h; done) | (have h0 := h; have g0 := h0; obtain rfl := ih0 g0; rfl)
  | c x0 x1 ih1 => intro b h; cases b <;> first | (cases h; done) | (have h0 := h; obtain ⟨g0, h1⟩ := an_ok h0; have g1 := h1; obtain rfl := Nat.eq_of_beq_eq_true g0; obtain rfl := ih1 g1; rfl)
  | nil  => intro b h; cases b <;> first | (cases h; done) | (rfl)
  | cons x0 x1 ih0 ih1 => intro b h; cases b <;> first | (cases h; done) | (have h0 := h; obtain ⟨g0, h1⟩ := an_ok h0; have g1 := h1; obtain rfl := ih0 g0; obtain rfl := ih1 g1; rfl)

/-- blocks of cells: number, how many, which -/
abbrev Bl := Nat × Nat × V
def H.bump (n : Nat) (h : H) : H := h.rec fun _ t => .mk n t
def H.nxR (h : H) : Nat := h.rec fun n _ => n
def H.at (h : H) (id : Nat) : B := h.rec fun _ t => t.get id
def putL (l : List Bl) (h : H) : H := l.rec h fun x _ ih => ih.set x.1 (.cells x.2.1 x.2.2)
def hasB (n : Nat) (l : V) (b : B) : Bool := b.rec (fun m x => an (Nat.beq m n) (sameV x l)) (fun _ _ => false) (fun _ => false) (fun _ _ _ => false) (fun _ _ _ _ _ _ _ => false) false
def hasL (l : List Bl) (h : H) : Bool := l.rec true fun x _ ih => an (Nat.blt x.1 65536) (an (hasB x.2.1 x.2.2 (h.at x.1)) ih)
def fromL (lo hi : Nat) (l : List Bl) : Bool := l.rec true fun x _ ih => an (Nat.ble lo x.1) (an (Nat.blt x.1 hi) ih)
theorem bump_cl (n : Nat) (h : H) : (h.bump n).cl = h.cl := by cases h; rfl
theorem bump_nx (n : Nat) (h : H) : (h.bump n).nx = n := by cases h; rfl
theorem nxR_eq (h : H) : h.nxR = h.nx := by cases h; rfl
theorem hasB_ok {n : Nat} {l : V} {b : B} (h : hasB n l b = true) : b = .cells n l := by
  cases b with
  | cells m x => obtain ⟨h1, h2⟩ := an_ok h; rw [Nat.eq_of_beq_eq_true h1, sameV_ok h2]
  | _ => cases h
theorem hasL_ok : ∀ {l : List Bl} {h : H}, hasL l h = true → ∀ x ∈ l, x.1 < 65536 ∧ h.cl x.1 = .cells x.2.1 x.2.2
  | [], _, _, _, hx => by cases hx
  | y :: l, h, e, x, hx => by
    obtain ⟨e1, e2⟩ := an_ok (show an (Nat.blt y.1 65536) (an (hasB y.2.1 y.2.2 (h.at y.1)) (hasL l h)) = true from e)
    obtain ⟨e3, e4⟩ := an_ok e2
    rcases List.mem_cons.1 hx with rfl | hx
    · have hlt : x.1 < 65536 := by simpa [Nat.blt_eq] using e1
      refine ⟨hlt, ?_⟩
      have := hasB_ok e3
      cases h with
      | mk n t => show (if x.1 < 65536 then t.get x.1 else .dead) = _; rw [if_pos hlt]; exact this
    · exact hasL_ok e4 x hx
theorem fromL_ok {lo hi : Nat} : ∀ {l : List Bl}, fromL lo hi l = true → ∀ x ∈ l, lo ≤ x.1 ∧ x.1 < hi
  | [], _, _, hx => by cases hx
  | y :: l, e, x, hx => by
    obtain ⟨e1, e2⟩ := an_ok (show an (Nat.ble lo y.1) (an (Nat.blt y.1 hi) (fromL lo hi l)) = true from e)
    obtain ⟨e3, e4⟩ := an_ok e2
    rcases List.mem_cons.1 hx with rfl | hx
    · exact ⟨Nat.le_of_ble_eq_true e1, by simpa [Nat.blt_eq] using e3⟩
    · exact fromL_ok e4 x hx
theorem putL_nx : ∀ (l : List Bl) (h : H), (putL l h).nx = h.nx
  | [], _ => rfl
  | x :: l, h => by show ((putL l h).set x.1 _).nx = _; rw [H.nx_set, putL_nx l h]
theorem putL_cl (h : H) (id : Nat) : ∀ (l : List Bl), (∀ x ∈ l, x.1 < 65536) → ((∀ x ∈ l, x.1 ≠ id) ∧ (putL l h).cl id = h.cl id) ∨ ∃ x ∈ l, x.1 = id ∧ (putL l h).cl id = .cells x.2.1 x.2.2
  | [], _ => .inl ⟨fun _ h => (by cases h), rfl⟩
  | y :: l, hl => by
    have e : (putL (y :: l) h).cl id = if id = y.1 then .cells y.2.1 y.2.2 else (putL l h).cl id := by
      show ((putL l h).set y.1 _).cl id = _
      rw [H.cl_set _ _ _ (hl y (List.mem_cons_self ..))]
    by_cases hy : id = y.1
    · exact .inr ⟨y, List.mem_cons_self .., hy.symm, by rw [e, if_pos hy]⟩
    · rw [if_neg hy] at e
      rcases putL_cl h id l fun x hx => hl x (List.mem_cons_of_mem _ hx) with ⟨h1, h2⟩ | ⟨x, hx, h1, h2⟩
      · refine .inl ⟨fun x hx => ?_, by rw [e, h2]⟩
        rcases List.mem_cons.1 hx with rfl | hx
        · exact fun g => hy g.symm
        · exact h1 x hx
      · exact .inr ⟨x, List.mem_cons_of_mem _ hx, h1, by rw [e, h2]⟩

/-- a call's answer: the function, its arguments, the next number, the blocks that it is given, and those that it makes, the value -/
inductive Mem where
  | mk (f : Nat) (args : V) (n0 n1 : Nat) (ins outs : List Bl) (v : V)
def Mem.hL (hp : H) (m : Mem) : H := m.rec fun f args n0 n1 ins outs v => putL ins (hp.bump n0)
def memo (m : Mem) (ih : IH) : IH := fun t => t.rec (fun f args h => m.rec fun mf ma n0 n1 ins outs v =>
  (an (Nat.beq f mf) (an (sameV args ma) (an (Nat.ble h.nxR n0) (hasL ins h)))).rec (ih (.call f args h)) (some (.val v (putL outs (h.bump n1))))) fun rnd nt c t h => ih (.code rnd nt c t h)
/-- the answer holds -/
def memT (ih : IH) (hp : H) (m : Mem) : Bool := m.rec fun f args n0 n1 ins outs v => an (Nat.ble hp.nxR n0) (an (Nat.ble n0 n1) (an (fromL hp.nxR n0 ins) (an (fromL n0 n1 outs) (an (hasL ins (putL ins (hp.bump n0))) ((ih (.call f args (putL ins (hp.bump n0)))).rec false fun r => r.rec
  (fun x h => an (sameV x v) (an (Nat.ble h.nxR n1) (an (hasL ins h) (hasL outs h)))) (fun _ _ => false) (fun _ _ => false) (fun _ _ _ => false))))))
section
variable {P : Program} {hp : H}
theorem memo_ok (hpo : HpOK P hp) {m : Mem} {ih0 ih : IH} (h0 : IHOK P hp ih0) (hm : memT ih0 hp m = true) (hih : IHOK P hp ih) : IHOK P hp (memo m ih) := by
  refine ⟨fun f args h r e => ?_, fun rnd nt c t h r e => hih.code rnd nt c t h r e⟩
  cases m with
  | mk mf ma n0 n1 ins outs v =>
    have e' : (an (Nat.beq f mf) (an (sameV args ma) (an (Nat.ble h.nxR n0) (hasL ins h)))).rec (motive := fun _ => R) (ih (.call f args h)) (some (.val v (putL outs (h.bump n1)))) = some r := e
    cases hc : an (Nat.beq f mf) (an (sameV args ma) (an (Nat.ble h.nxR n0) (hasL ins h))) with
    | false => rw [hc] at e'; exact hih.call f args h r e'
    | true =>
      rw [hc] at e'
      obtain rfl := Option.some.inj (show some (Res.val v (putL outs (h.bump n1))) = some r from e')
      obtain ⟨c1, c2⟩ := an_ok hc
      obtain ⟨c3, c4⟩ := an_ok c2
      obtain ⟨c5, c6⟩ := an_ok c4
      obtain rfl := Nat.eq_of_beq_eq_true c1
      obtain rfl := sameV_ok c3
      have hnx : h.nx ≤ n0 := by rw [← nxR_eq]; exact Nat.le_of_ble_eq_true c5
      have hin := hasL_ok c6
      obtain ⟨m1, m2⟩ := an_ok hm
      obtain ⟨m3, m4⟩ := an_ok m2
      obtain ⟨m5, m6⟩ := an_ok m4
      obtain ⟨m7, m8⟩ := an_ok m6
      obtain ⟨m9, m10⟩ := an_ok m8
      have hpn : hp.nx ≤ n0 := by rw [← nxR_eq]; exact Nat.le_of_ble_eq_true m1
      have hn1 : n0 ≤ n1 := Nat.le_of_ble_eq_true m3
      have hinr := fromL_ok m5
      have houtr := fromL_ok m7
      rw [nxR_eq] at hinr
      have hinl : ∀ x ∈ ins, x.1 < 65536 := fun x hx => (hin x hx).1
      generalize hLd : putL ins (hp.bump n0) = hL at m10
      cases hr : ih0 (.call f args hL) with
      | none => rw [hr] at m10; cases m10
      | some r0 =>
        rw [hr] at m10
        obtain ⟨x, h2, rfl, k1, k2, k3⟩ := h0.call f args hL r0 hr
        obtain ⟨q1, q2⟩ := an_ok (show an (sameV x v) (an (Nat.ble h2.nxR n1) (an (hasL ins h2) (hasL outs h2))) = true from m10)
        obtain ⟨q3, q4⟩ := an_ok q2
        obtain ⟨q5, q6⟩ := an_ok q4
        obtain rfl := sameV_ok q1
        have hin2 := hasL_ok q5
        have hout2 := hasL_ok q6
        have h2n : h2.nx ≤ n1 := by rw [← nxR_eq]; exact Nat.le_of_ble_eq_true q3
        have hLn : hL.nx = n0 := by rw [← hLd, putL_nx, bump_nx]
        have hLcl : ∀ id, hL.cl id ≠ .dead → (∃ y ∈ ins, y.1 = id ∧ hL.cl id = .cells y.2.1 y.2.2) ∨ ∃ n l, hp.cl id = .tab n l ∧ hL.cl id = .tab n l := fun id hd => by
          rw [← hLd] at hd ⊢
          rcases putL_cl (hp.bump n0) id ins hinl with ⟨g1, g2⟩ | ⟨y, hy, g1, g2⟩
          · rw [g2, bump_cl] at hd ⊢
            obtain ⟨n, l, hn⟩ := hpo.tab id hd
            exact .inr ⟨n, l, hn, hn⟩
          · exact .inl ⟨y, hy, g1, g2⟩
        have hn2 : (putL outs (h.bump n1)).nx = n1 := by rw [putL_nx, bump_nx]
        have hcl2 : ∀ id, ((∀ y ∈ outs, y.1 ≠ id) ∧ (putL outs (h.bump n1)).cl id = h.cl id) ∨ (n0 ≤ id ∧ id < n1 ∧ (putL outs (h.bump n1)).cl id = h2.cl id ∧ h2.cl id ≠ .dead) := fun id => by
          rcases putL_cl (h.bump n1) id outs fun y hy => (hout2 y hy).1 with ⟨g1, g2⟩ | ⟨y, hy, rfl, g2⟩
          · exact .inl ⟨g1, by rw [g2, bump_cl]⟩
          · exact .inr ⟨(houtr y hy).1, (houtr y hy).2, by rw [g2, (hout2 y hy).2], by rw [(hout2 y hy).2]; intro h; cases h⟩
        refine ⟨_, _, rfl, by rw [hn2]; omega, k2, fun σ w vs st fr hv => ?_⟩
        have hA : ∀ id, hL.cl id ≠ .dead → hL.cl id = h.cl id := fun id hd => by
          rcases hLcl id hd with ⟨y, hy, rfl, g⟩ | ⟨n, l, g1, g2⟩
          · rw [g, (hin y hy).2]
          · rw [g2, st.tabs id n l g1]
        have stL : St P hp σ hL w := by
          refine ⟨st.ctx, ⟨fun id hd => ?_, fun id id' b s1 s2 d1 d2 e1 e2 => ?_⟩, fun id n l g => ?_, by rw [hLn]; exact hpn⟩
          · rw [hA id hd]; rw [hA id hd] at hd; exact st.ok.ok id hd
          · rw [hA id d1] at d1; rw [hA id' d2] at d2; exact st.ok.inj id id' b s1 s2 d1 d2 e1 e2
          · have hlt := hpo.lt id (by rw [g]; intro h; cases h)
            rw [← hLd]
            rcases putL_cl (hp.bump n0) id ins hinl with ⟨g1, g2⟩ | ⟨y, hy, rfl, g2⟩
            · rw [g2, bump_cl, g]
            · have := (hinr y hy).1; omega
        refine (k3 σ w vs stL (fun id g1 g2 => fr id (by rw [hLn] at g1; omega) (Nat.zero_le _)) hv).mono fun en w' hR => ?_
        obtain ⟨val, σ', rfl, X, ok', hval⟩ := hR
        refine ⟨val, σ', rfl, ?_⟩
        have live_lt : ∀ id, h.cl id ≠ .dead → id < h.nx := fun id hd => by
          obtain ⟨b, sz, o, g1, _⟩ := st.ok.ok id hd
          by_cases hlt : id < h.nx
          · exact hlt
          · rw [fr id (by omega) (Nat.zero_le _)] at g1; cases g1
        have hB : ∀ id, hL.cl id ≠ .dead → h2.cl id = hL.cl id := fun id hd => by
          rcases hLcl id hd with ⟨y, hy, rfl, g⟩ | ⟨n, l, g1, g2⟩
          · rw [g, (hin2 y hy).2]
          · rw [X.tabs id n l g2, g2]
        -- what is new lies in new blocks
        have fresh : ∀ id b sz, n0 ≤ id → h2.cl id ≠ .dead → σ' id = some (b, sz) → w.heap.size ≤ b := fun id b sz hid hd hs => by
          by_cases hb : b < w.heap.size
          · obtain ⟨i, z, g1, g2⟩ := X.own id b sz hd hs hb
            have hi : h2.cl i ≠ .dead := by rw [hB i g1]; exact g1
            have := ok'.inj id i b sz z hd hi hs (X.up _ _ g2)
            subst this
            have := live_lt id (by rw [← hA id g1]; exact g1)
            omega
          · omega
        have sold : ∀ id, id < n0 → σ' id = σ id := fun id hid => X.out id (by rw [hLn]; omega)
        have keep : ∀ b, b < w.heap.size → (∀ id sz, h.cl id ≠ .dead → σ id ≠ some (b, sz)) → w'.heap[b]? = w.heap[b]? := fun b hb hn => X.keep b hb fun id sz hd hs => hn id sz (by rw [← hA id hd]; exact hd) hs
        have okH : HeapOK σ' (putL outs (h.bump n1)).cl w' := by
          refine ⟨fun id hd => ?_, fun id id' b s1 s2 d1 d2 e1 e2 => ?_⟩
          · rcases hcl2 id with ⟨_, g⟩ | ⟨g0, _, g, g3⟩
            · rw [g] at hd ⊢
              have hlt := live_lt id hd
              by_cases hl : hL.cl id = .dead
              · obtain ⟨b, sz, o, u1, u2, u3⟩ := st.ok.ok id hd
                refine ⟨b, sz, o, X.up _ _ u1, ?_, u3.mono X.up⟩
                rw [X.keep b (Array.getElem?_eq_some_iff.1 u2).1 fun i z d1 s1 => ?_]
                · exact u2
                · have := st.ok.inj id i b sz z hd (by rw [← hA i d1]; exact d1) u1 s1
                  subst this; exact d1 hl
              · have hh := ok'.ok id (by rw [hB id hl]; exact hl)
                rw [hB id hl, hA id hl] at hh
                exact hh
            · rw [g]; exact ok'.ok id g3
          · rcases hcl2 id with ⟨_, g⟩ | ⟨g0, _, g, g3⟩ <;> rcases hcl2 id' with ⟨_, g'⟩ | ⟨g0', _, g', g3'⟩
            · rw [g] at d1; rw [g'] at d2
              rw [sold id (by have := live_lt id d1; omega)] at e1
              rw [sold id' (by have := live_lt id' d2; omega)] at e2
              exact st.ok.inj id id' b s1 s2 d1 d2 e1 e2
            · rw [g] at d1
              rw [sold id (by have := live_lt id d1; omega)] at e1
              have := st.ok.lt d1 e1
              have := fresh id' b s2 g0' g3' e2
              omega
            · rw [g'] at d2
              rw [sold id' (by have := live_lt id' d2; omega)] at e2
              have := st.ok.lt d2 e2
              have := fresh id b s1 g0 g3 e1
              omega
            · exact ok'.inj id id' b s1 s2 g3 g3' e1 e2
        refine ⟨⟨⟨X.up, X.size, keep, fun id b sz hd hs hb => ?_, fun id n l g => ?_, X.same, fun id n l b sz g hs hb => ?_⟩, by rw [hn2]; omega, fun id hid => ?_⟩, okH, hval⟩
        · rcases hcl2 id with ⟨_, g⟩ | ⟨g0, _, g, g3⟩
          · rw [g] at hd
            rw [sold id (by have := live_lt id hd; omega)] at hs
            exact ⟨id, sz, hd, hs⟩
          · have := fresh id b sz g0 g3 hs; omega
        · have hlt := live_lt id (by rw [g]; intro h; cases h)
          rcases hcl2 id with ⟨_, g'⟩ | ⟨g0, _, _, _⟩
          · rw [g', g]
          · omega
        · have hd : h.cl id ≠ .dead := by rw [g]; intro h; cases h
          by_cases hl : hL.cl id = .dead
          · refine X.keep b hb fun i z d1 s1 => ?_
            have := st.ok.inj id i b sz z hd (by rw [← hA i d1]; exact d1) hs s1
            subst this; exact d1 hl
          · exact X.tabk id n l b sz (by rw [hA id hl, g]) hs hb
        · rw [hn2] at hid
          exact X.out id (by rw [hLn]; omega)
/-- the evaluator, with calls whose answers are kept -/
def evM (mem : IH → IH) (pu : PU) (P : Program) (n : Nat) : IH := n.rec (fun _ => none) (fun _ ih => step pu P (mem ih))
theorem soundM {mem : IH → IH} {pu : PU} (hpo : HpOK P hp) (hpu : PUOK P hp pu) (hmix : P.follows .mixedOrders = true) (hmem : ∀ ih, IHOK P hp ih → IHOK P hp (mem ih)) : ∀ n, IHOK P hp (evM mem pu P n)
  | 0 => ⟨fun _ _ _ _ e => (by cases e), fun _ _ _ _ _ _ e => (by cases e)⟩
  | n + 1 => step_ok hpo hpu (fun _ _ _ e => cDraw_ok hpo hpu hmix e) (hmem _ (soundM hpo hpu hmix hmem n))
end
end Go.Ev
end
