/- The evaluator of translated Go, part 4: A map whose entries are turned one by one, in whatever order: the plain part (no program in sight). · A map whose texts are turned, all of them, each by a text ahead of it: seen in the evaluator's values. · Keys that are different numbers: who is met is found. (no program in sight) · The loop over a map, operation by operation: an entry that is there read and turned. (no program in sight) · A loop over a map whose texts are turned: regions of readings with one writing behind them, the rounds, the loop. · The loop 'for k := range x.names: x.names[k] = q + x.names[k]' as one step of the evaluator. · The loop over a map: its rounds, the whole, and what the evaluator makes of it. · The loop over a map as one step of the evaluator; a function whose body holds it. · The evaluator: equality of values; a table of calls with frozen arguments. -/
import Derived.Test.YteidbbogbhbckaaGreatDoorSv3
import Derived.Maps.RangeRun
import Derived.Sort.MapsRangeIn
set_option linter.unusedVariables false
set_option linter.unusedSimpArgs false
noncomputable section
namespace Go.Ev
open Go

/-- an entry, turned if it has been met -/
def turnE (f : Value → Value) (seen : Array Nat) (e : MapEntry) : MapEntry := if seen.contains e.born then { e with val := f e.val } else e
def turned (f : Value → Value) (es : Array MapEntry) (seen : Array Nat) : Array MapEntry := es.map (turnE f seen)
theorem turnE_born (f : Value → Value) (seen : Array Nat) (e : MapEntry) : (turnE f seen e).born = e.born := by unfold turnE; split <;> rfl
theorem turnE_key (f : Value → Value) (seen : Array Nat) (e : MapEntry) : (turnE f seen e).key = e.key := by unfold turnE; split <;> rfl

theorem turned_start (f : Value → Value) (es : Array MapEntry) : turned f es #[] = es := by
  unfold turned
  have : turnE f #[] = id := by funext e; simp [turnE]
  rw [this]; simp
theorem turned_born (f : Value → Value) (es : Array MapEntry) (seen : Array Nat) : (turned f es seen).toList.map (·.born) = es.toList.map (·.born) := by
  simp [turned, Function.comp_def, turnE_born]
theorem turned_old {f : Value → Value} {es : Array MapEntry} {seen : Array Nat} {since : Nat} (h : ∀ x ∈ es.toList, x.born < since) : ∀ x ∈ (turned f es seen).toList, x.born < since := by
  intro x hx
  simp only [turned, Array.toList_map, List.mem_map] at hx
  obtain ⟨y, hy, rfl⟩ := hx
  rw [turnE_born]; exact h y hy

/-- who is left is as he was, and stands somewhere -/
theorem left_old {f : Value → Value} {es : Array MapEntry} {seen : Array Nat} {e : MapEntry} (h : e ∈ (leftOf (turned f es seen) seen).toList) :
    seen.contains e.born = false ∧ e ∈ (turned f es seen).toList ∧ ∃ j : Nat, es[j]? = some e ∧ (turned f es seen)[j]? = some e := by
  unfold leftOf at h
  simp only [Array.toList_filter, List.mem_filter, Bool.not_eq_true'] at h
  obtain ⟨h1, h2⟩ := h
  refine ⟨h2, h1, ?_⟩
  obtain ⟨j, hj⟩ := List.mem_iff_getElem?.1 h1
  have hj' : (turned f es seen)[j]? = some e := by rw [← Array.getElem?_toList]; exact hj
  refine ⟨j, ?_, hj'⟩
  simp only [turned, Array.getElem?_map, Option.map_eq_some_iff] at hj'
  obtain ⟨y, hy, he⟩ := hj'
  have hb : y.born = e.born := by rw [← he, turnE_born]
  unfold turnE at he
  rw [hb, h2] at he
  simp only [Bool.false_eq_true, if_false] at he
  rw [hy, he]

theorem turned_step {f : Value → Value} {es : Array MapEntry} {seen : Array Nat} {e : MapEntry} {j : Nat} (hn : (es.toList.map (·.born)).Nodup) (hj : es[j]? = some e) :
    ((turned f es seen).modify j fun x => { x with key := e.key, val := f e.val }) = turned f es (seen.push e.born) := by
  apply Array.ext_getElem?
  intro i
  simp only [Array.getElem?_modify, turned, Array.getElem?_map]
  by_cases hij : j = i
  · subst hij
    rw [hj]
    simp [turnE]
    split <;> rfl
  · rw [if_neg hij]
    cases hi : es[i]? with
    | none => rfl
    | some y =>
      have hne : y.born ≠ e.born := fun h => by
        have h1 : (es.toList.map (·.born))[i]? = some y.born := by rw [List.getElem?_map, Array.getElem?_toList, hi]; rfl
        have h2 : (es.toList.map (·.born))[j]? = some e.born := by rw [List.getElem?_map, Array.getElem?_toList, hj]; rfl
        have hl : i < (es.toList.map (·.born)).length := (List.getElem?_eq_some_iff.1 h1).1
        rw [h] at h1
        have hl2 : j < (es.toList.map (·.born)).length := (List.getElem?_eq_some_iff.1 h2).1
        have e1 := (List.getElem?_eq_some_iff.1 h1).2
        have e2 := (List.getElem?_eq_some_iff.1 h2).2
        exact hij ((List.getElem_inj (h₀ := hl2) (h₁ := hl) hn).1 (e2.trans e1.symm))
      simp only [Option.map_some, turnE, Array.contains_push]
      have : (y.born == e.born) = false := by simpa using hne
      simp [hne]

theorem turned_done {f : Value → Value} {es : Array MapEntry} {seen : Array Nat} (h : (leftOf (turned f es seen) seen).size = 0) : turned f es seen = es.map fun e => { e with val := f e.val } := by
  unfold turned
  apply Array.ext_getElem?
  intro i
  simp only [Array.getElem?_map]
  cases hi : es[i]? with
  | none => rfl
  | some y =>
    have hm : turnE f seen y ∈ (turned f es seen).toList := by
      simp only [turned, Array.toList_map]
      exact List.mem_map_of_mem (List.mem_of_getElem? (by rw [Array.getElem?_toList]; exact hi))
    have hs : seen.contains y.born = true := by
      cases hc : seen.contains y.born with
      | true => rfl
      | false =>
        have : turnE f seen y ∈ (leftOf (turned f es seen) seen).toList := by
          unfold leftOf
          simp only [Array.toList_filter, List.mem_filter, Bool.not_eq_true']
          exact ⟨hm, by rw [turnE_born]; exact hc⟩
        have hl := List.length_pos_of_mem this
        rw [Array.length_toList] at hl
        omega
    simp only [Option.map_some, turnE, hs, if_true]

/-- how many are left -/
theorem left_size (f : Value → Value) (es : Array MapEntry) (seen : Array Nat) : (leftOf (turned f es seen) seen).size = (es.toList.filter fun e => !seen.contains e.born).length := by
  unfold leftOf turned
  rw [← Array.length_toList, Array.toList_filter, Array.toList_map, List.filter_map, List.length_map]
  congr 1
  apply List.filter_congr
  intro x _
  simp only [Function.comp_apply, turnE_born]
theorem left_less {f : Value → Value} {es : Array MapEntry} {seen : Array Nat} {e : MapEntry} (h : seen.contains e.born = false) (he : e ∈ es.toList) :
    (leftOf (turned f es (seen.push e.born)) (seen.push e.born)).size < (leftOf (turned f es seen) seen).size := by
  rw [left_size, left_size]
  have hx : (es.toList.filter fun x => !(seen.push e.born).contains x.born) = (es.toList.filter fun x => !seen.contains x.born).filter fun x => !(x.born == e.born) := by
    rw [List.filter_filter]
    apply List.filter_congr
    intro x _
    simp only [Array.contains_push, Bool.not_or, Bool.and_comm]
  rw [hx, List.length_filter_lt_length_iff_exists]
  exact ⟨e, List.mem_filter.2 ⟨he, by rw [h]; rfl⟩, by simp⟩

end Go.Ev
namespace Go.Ev
open Go

def preF (q : ByteArray) : Value → Value
  | .string s => .string (q ++ s)
  | v => v
/-- the entries' values with a text ahead -/
def preV (qn ql : Nat) : V → Option V
  | .nil => some .nil
  | .cons k (.cons (.s n l) r) => (preV qn ql r).map fun r' => .cons k (.cons (.s (qn + n * 256 ^ ql) (ql + l)) r')
  | _ => none
/-- keys are numbers, and all different -/
def hasK (c n : Nat) : V → Bool
  | .nil => false
  | .cons (.i c' n') (.cons _ r) => (c == c' && n == n') || hasK c n r
  | _ => true
def nodupK : V → Bool
  | .nil => true
  | .cons (.i c n) (.cons _ r) => !hasK c n r && nodupK r
  | _ => false

theorem preV_ok {σ : Sg} {q : ByteArray} {es : V} {L : List MapEntry} (h : ER σ es L) : ∀ {es' : V}, preV (pk q.data.toList) q.size es = some es' → ER σ es' (L.map fun e => { e with val := preF q e.val }) := by
  induction h with
  | nil => intro es' e; cases e; exact .nil
  | @cons k v r x l hk hv hr ih =>
    intro es' e
    cases v with
    | s n len =>
      obtain ⟨r', e1, rfl⟩ := Option.map_eq_some_iff.1 (show (preV (pk q.data.toList) q.size r).map _ = some es' from e)
      obtain ⟨xk, xv, xb⟩ := x
      cases hv with
      | s b =>
        refine .cons hk ?_ (ih e1)
        have hs : (Value.string (q ++ b)) = preF q (.string b) := rfl
        show VR σ (.s _ _) (.string (q ++ b))
        have h1 : pk (q ++ b).data.toList = pk q.data.toList + pk b.data.toList * 256 ^ q.size := by
          rw [ByteArray.data_append, Array.toList_append, pk_append, Array.length_toList]; rfl
        have h2 : (q ++ b).size = q.size + b.size := ByteArray.size_append
        rw [← h1, ← h2]
        exact .s _
    | _ => cases e

end Go.Ev
namespace Go.Ev
open Go

/-- all keys are numbers of one kind, all different -/
structure KeysI (k : IntKind) (en : List MapEntry) : Prop where
  int : ∀ e ∈ en, ∃ x, e.key = .int k x
  apart : (en.map (·.key)).Nodup

theorem KeysI.find {k q : IntKind} : ∀ {en : List MapEntry} {j : Nat} {e : MapEntry} (_ : KeysI k en) (_ : en[j]? = some e) (i : Nat), Instr.findNow (.int q) e.key en i = some (some (i + j, e.val))
  | [], j, e, _, hj, i => by simp at hj
  | x :: l, 0, e, h, hj, i => by
    simp only [List.getElem?_cons_zero, Option.some.injEq] at hj
    subst hj
    obtain ⟨a, ha⟩ := h.int x (List.mem_cons_self ..)
    simp [Instr.findNow, ha, Instr.sameNow]
  | x :: l, j + 1, e, h, hj, i => by
    rw [List.getElem?_cons_succ] at hj
    have hl : KeysI k l := ⟨fun e he => h.int e (List.mem_cons_of_mem _ he), by have := h.apart; rw [List.map_cons, List.nodup_cons] at this; exact this.2⟩
    obtain ⟨a, ha⟩ := h.int x (List.mem_cons_self ..)
    have hm : e ∈ l := List.mem_of_getElem? hj
    obtain ⟨b, hb⟩ := h.int e (List.mem_cons_of_mem _ hm)
    have hne : ¬ b = a := fun hba => by
      have := h.apart
      rw [List.map_cons, List.nodup_cons] at this
      exact this.1 (by rw [ha, ← hba, ← hb]; exact List.mem_map_of_mem hm)
    have hs : Instr.sameNow (.int q) e.key x.key = some false := by
      rw [ha, hb]; simp [Instr.sameNow, hne]
    have ih := KeysI.find (q := q) hl hj (i + 1)
    simp only [Instr.findNow, hs]
    rw [ih, show i + 1 + j = i + (j + 1) by omega]
theorem KeysI.keep {k : IntKind} {en en' : List MapEntry} (h : KeysI k en) (e : en'.map (·.key) = en.map (·.key)) : KeysI k en' :=
  ⟨fun x hx => by
    have : x.key ∈ en.map (·.key) := by rw [← e]; exact List.mem_map_of_mem hx
    obtain ⟨y, hy, hk⟩ := List.mem_map.1 this
    obtain ⟨z, hz⟩ := h.int y hy
    exact ⟨z, by rw [← hk]; exact hz⟩, by rw [e]; exact h.apart⟩

section
variable {P : Program}

theorem lookup_raw {w : World} {bm : Nat} {es : Array MapEntry} {ck j : Nat} {e : MapEntry} {xType kt et : TypeId} {k q : IntKind} (hu : P.underlying xType = some (.map kt et)) (hd : P.underlying kt = some (.int q)) (g1 : w.heap[bm]? = some (.map es ck))
    (hk : KeysI k es.toList) (hj : es[j]? = some e) : (Instr.lookup xType (.map (some bm)) e.key false).run P w = .ok e.val w := by
  have f1 := KeysI.find (q := q) hk (by rw [Array.getElem?_toList]; exact hj) 0
  obtain ⟨z, hz⟩ := hk.int e (List.mem_of_getElem? (by rw [Array.getElem?_toList]; exact hj))
  have g3 : KeyOK (.int q) e.key := .inl ⟨q, k, z, rfl, hz⟩
  simp [Instr.lookup, underlying, hu, hd, MapKept.run_getObj_map g1, checkKey_run hd g3, Instr.findKey, f1, Result.andThen]
theorem mapUpdate_raw {w : World} {bm : Nat} {es : Array MapEntry} {ck j : Nat} {e : MapEntry} {xType kt et : TypeId} {k q : IntKind} (z : Value) (hu : P.underlying xType = some (.map kt et)) (hd : P.underlying kt = some (.int q)) (g1 : w.heap[bm]? = some (.map es ck))
    (hk : KeysI k es.toList) (hj : es[j]? = some e) : (Instr.mapUpdate xType (.map (some bm)) e.key z).run P w = .ok () (Go.ChangeMaps.setBlock w bm (.map (es.modify j fun x => { x with key := e.key, val := z }) ck)) := by
  have f1 := KeysI.find (q := q) hk (by rw [Array.getElem?_toList]; exact hj) 0
  obtain ⟨y, hz⟩ := hk.int e (List.mem_of_getElem? (by rw [Array.getElem?_toList]; exact hj))
  have g3 : KeyOK (.int q) e.key := .inl ⟨q, k, y, rfl, hz⟩
  have f3 : Instr.sameBits 10000 e.key e.key = true := by rw [hz]; simp [Instr.sameBits]
  simp only [Instr.mapUpdate, Sem.run_bind, underlying, run_program, Result.andThen_ok, hu, Sem.run_pure, MapKept.run_getObj_map g1, checkKey_run hd g3, Instr.findKey, hd, f1, Nat.zero_add, hj, Option.map_some, Option.getD_some, Instr.keyThatStays, f3, if_true, MapKept.run_setObj_map _ g1]
  rfl
end
end Go.Ev
namespace Go.Ev
open Go
variable {F : Fence} {n : Nat} {P : Program} (w : World) {ops : Array Oper} {rest : List Oper} {o : Oper} {a : Act} {Q : Exit → Act → World → Prop}

theorem wpListIn_lookup_raw (hg : o.guard = none) (m x : Operand) (t kt et : TypeId) (hop : o.op = Op.lookup t m x false) {k q : IntKind} (hu : P.underlying t = some (.map kt et)) (hd : P.underlying kt = some (.int q)) (bm : Nat) (es : Array MapEntry) (ck j : Nat) (e : MapEntry)
    (hm : a.eval m = .map (some bm)) (hx : a.eval x = e.key) (hb : w.heap[bm]? = some (.map es ck)) (hk : KeysI k es.toList) (hj : es[j]? = some e)
    (hK : wpListIn F n P ops Q rest (a.put o.dst e.val) w) :
    wpListIn F n P ops Q (o :: rest) a w := by
  refine wpListIn_plain hg fun K' hK' => ?_
  unfold Oper.wpIn
  refine ⟨by simp [Oper.about, hop], ?_⟩
  rw [Oper.semAt_plain F _ _ (by rw [hop]; intro c hc'; cases hc')]
  simp [execOp, hop, hm, hx, lookup_raw (P := P) hu hd hb hk hj, Result.andThen]
  exact hK' _ _ hK

theorem wpListIn_update_raw (hg : o.guard = none) (m x y : Operand) (t kt et : TypeId) (hop : o.op = Op.mapUpdate t m x y) {k q : IntKind} (hu : P.underlying t = some (.map kt et)) (hd : P.underlying kt = some (.int q)) (bm : Nat) (es : Array MapEntry) (ck j : Nat) (e : MapEntry)
    (hm : a.eval m = .map (some bm)) (hx : a.eval x = e.key) (hb : w.heap[bm]? = some (.map es ck)) (hk : KeysI k es.toList) (hj : es[j]? = some e)
    (hK : wpListIn F n P ops Q rest (a.put o.dst undef) (Go.ChangeMaps.setBlock w bm (.map (es.modify j fun z => { z with key := e.key, val := a.eval y }) ck))) :
    wpListIn F n P ops Q (o :: rest) a w := by
  refine wpListIn_plain hg fun K' hK' => ?_
  unfold Oper.wpIn
  refine ⟨by simp [Oper.about, hop], ?_⟩
  rw [Oper.semAt_plain F _ _ (by rw [hop]; intro c hc'; cases hc')]
  simp [execOp, hop, hm, hx, mapUpdate_raw (P := P) (a.eval y) hu hd hb hk hj, Result.andThen]
  exact hK' _ _ hK

end Go.Ev
namespace Go.Ev
open Go

section
variable {P : Program}

theorem put_get (a : Act) (d : Nat) (v : Value) (x : Nat) : (a.put (some d) v).tmps.getD x undef = if d = x ∧ x < a.tmps.size then v else a.tmps.getD x undef := by
  rw [put_at]; simp only [Option.some.injEq]

theorem wpListIn_exec {F : Fence} {n : Nat} {ops : Array Oper} {rest : List Oper} {o : Oper} {a : Act} {Q : Exit → Act → World → Prop} {w w' : World} {v : Value} (hg : o.guard = none) (ha : o.about P w a.eval = none) (hd : ∀ c, o.op ≠ .defer c)
    (h : (execOp a.eval o).run P w = .ok (.value v) w') (hK : wpListIn F n P ops Q rest (a.put o.dst v) w') : wpListIn F n P ops Q (o :: rest) a w := by
  refine wpListIn_plain hg fun K hK' => ?_
  unfold Oper.wpIn
  refine ⟨by simp [ha], ?_⟩
  rw [Oper.semAt_plain F _ _ hd, h]
  exact hK' _ _ hK

theorem stp_skipv {l : Option Nat} {ops : Array Oper} {o : Oper} {a : Act} {w w' : World} (hd : ∀ c, o.op ≠ .defer c) (hw : Region.wanted o (yielded ops a.tmps) = true) (h : (execOp a.eval o).run P w = .ok .skip w') :
    Stp P l ops o a w fun a1 w1 => a1 = a.put o.dst undef ∧ w1 = w' := fun K Q hk => by
  rw [if_pos hw]
  refine ⟨fun _ _ => trivial, ?_⟩
  rw [Oper.semAt_eq _ _ _ hd, h]
  exact hk _ _ ⟨rfl, rfl⟩

def OkA (ops : Array Oper) (m : Nat) (val : Nat → Value) (a0 : Act) (D : Nat → Bool) (a : Act) : Prop :=
  a.tmps.size = a0.tmps.size ∧ a.defers = a0.defers ∧ (∀ x, (∀ (i : Nat) (o : Oper), ops[i]? = some o → o.dst ≠ some x) → a.tmps.getD x undef = a0.tmps.getD x undef) ∧
    ∀ (i : Nat) (o : Oper) d, i < m → D i = true → ops[i]? = some o → o.dst = some d → a.tmps.getD d undef = val i

/-- a region that draws its order: readings, and one writing behind all of them -/
theorem reads_any {l : Option Nat} {ops : Array Oper} {m : Nat} (hm : ops.size = m + 1) (val : Nat → Value) {a0 : Act} {w0 w1 : World} {Q : Exit → Act → World → Prop}
    (hsz : ∀ (i : Nat) (o : Oper) d, ops[i]? = some o → o.dst = some d → d < a0.tmps.size)
    (hdst : ∀ (i j : Nat) (o o' : Oper) d, ops[i]? = some o → ops[j]? = some o' → o.dst = some d → o'.dst = some d → i = j)
    (hpl : ∀ i o, ops[i]? = some o → o.guard = none ∧ (∀ c, o.op ≠ .defer c) ∧ ∀ d ∈ deps o, d < i)
    (hlast : ∀ o, ops[m]? = some o → o.dst = none ∧ ∀ i, i < m → i ∈ deps o)
    (hread : ∀ i o a D, i < m → ops[i]? = some o → OkA ops m val a0 D a → (∀ d ∈ deps o, D d = true) → (execOp a.eval o).run P w0 = .ok (.value (val i)) w0)
    (hwr : ∀ o a D, ops[m]? = some o → OkA ops m val a0 D a → (∀ i, i < m → D i = true) → (execOp a.eval o).run P w0 = .ok .skip w1)
    (hQ : ∀ a D, OkA ops m val a0 D a → (∀ i, i < m → D i = true) → Q .normal a w1) :
    ∀ (fuel : Nat) (U : List Nat) (listed : Array Bool) (a : Act) (w : World), listed.size = ops.size → OkA ops m val a0 (fun j => listed.getD j false) a →
      ((listed.getD m false = false ∧ w = w0) ∨ (listed.getD m false = true ∧ w = w1 ∧ ∀ i, i < m → listed.getD i false = true)) →
      (∀ i, i < ops.size → listed.getD i false = false → i ∈ U) → U.length ≤ fuel → wpAnyIn (Fx l) 0 P .any ops Q fuel listed a w := by
  have hall : ∀ (listed : Array Bool), listed.size = ops.size → Region.ready .any ops listed = [] → ∀ i, i < ops.size → listed.getD i false = true := fun listed hs hr i => by
    induction i using Nat.strongRecOn with
    | _ i ih =>
      intro hi
      cases hc : listed.getD i false with
      | true => rfl
      | false =>
        exfalso
        have hlt : i < listed.size := by omega
        have : i ∈ Region.ready .any ops listed := mem_ready.2 ⟨hi, by simpa [Array.getD, hlt] using hc, ops[i], Array.getElem?_eq_getElem hi, fun d hd => by
          have h1 := (hpl i ops[i] (Array.getElem?_eq_getElem hi)).2.2 d hd
          exact ih d h1 (by omega)⟩
        rw [hr] at this; cases this
  intro fuel
  induction fuel with
  | zero =>
    intro U listed a w hs ok hw hU hle
    have hU0 : U = [] := List.length_eq_zero_iff.1 (Nat.le_zero.1 hle)
    subst hU0
    have hr : Region.ready .any ops listed = [] := by
      rw [List.eq_nil_iff_forall_not_mem]
      intro i hi
      obtain ⟨h1, h2, _⟩ := mem_ready.1 hi
      have hlt : i < listed.size := by rw [hs]; exact h1
      have := hU i h1 (by simpa [Array.getD, hlt] using h2)
      cases this
    have ha := hall listed hs hr
    refine ⟨hr, ?_⟩
    rcases hw with ⟨h1, _⟩ | ⟨_, rfl, _⟩
    · rw [ha m (by omega)] at h1; cases h1
    · exact hQ a _ ok fun i hi => ha i (by omega)
  | succ fuel ih =>
    intro U listed a w hs ok hw hU hle
    refine ⟨fun hr => ?_, fun i hi => ?_⟩
    · have ha := hall listed hs hr
      rcases hw with ⟨h1, _⟩ | ⟨_, rfl, _⟩
      · rw [ha m (by omega)] at h1; cases h1
      · exact hQ a _ ok fun i hi => ha i (by omega)
    obtain ⟨h1, h2, o, h3, h4⟩ := mem_ready.1 hi
    have hlt : i < listed.size := by rw [hs]; exact h1
    have hde : listed.getD i false = false := by simpa [Array.getD, hlt] using h2
    obtain ⟨q1, q2, q3⟩ := hpl i o h3
    have hwant : Region.wanted o (yielded ops a.tmps) = true := by simp [Region.wanted, q1]
    have hset : ∀ j, (listed.setIfInBounds i true).getD j false = (j == i || listed.getD j false) := by
      intro j
      by_cases hj : j = i
      · subst hj; simp [hlt]
      · have : (j == i) = false := by simp [hj]
        rw [this, Bool.false_or]
        simp only [Array.getD_eq_getD_getElem?]
        rw [Array.getElem?_setIfInBounds_ne (Ne.symm hj)]
    have hU' : ∀ j, j < ops.size → (listed.setIfInBounds i true).getD j false = false → j ∈ U.erase i := fun j hj hf => by
      rw [hset] at hf
      simp only [Bool.or_eq_false_iff, beq_eq_false_iff_ne] at hf
      exact (List.mem_erase_of_ne hf.1).2 (hU j hj hf.2)
    have hle' : (U.erase i).length ≤ fuel := by rw [List.length_erase_of_mem (hU i h1 hde)]; omega
    have hnm : listed.getD m false = false := by
      rcases hw with ⟨h5, _⟩ | ⟨h5, _, h6⟩
      · exact h5
      · rcases Nat.lt_or_ge i m with h7 | h7
        · rw [h6 i h7] at hde; cases hde
        · have : i = m := by omega
          subst this; rw [h5] at hde; cases hde
    obtain rfl : w = w0 := by
      rcases hw with ⟨_, h⟩ | ⟨h, _⟩
      · exact h
      · rw [h] at hnm; cases hnm
    rcases Nat.lt_or_ge i m with him | him
    · have hs2 := stp_exec (l := l) (ops := ops) (P := P) q2 hwant (hread i o a _ him h3 ok h4)
      have := hs2 (wpAnyIn (Fx l) 0 P .any ops Q fuel (listed.setIfInBounds i true)) Q fun a' w' ⟨v', ha, hv, hw'⟩ => by
        subst ha hv hw'
        refine ih (U.erase i) _ _ _ (by simp [hs]) ⟨by rw [put_size]; exact ok.1, by rw [put_defers]; exact ok.2.1, fun x hx => ?_, fun j o' d hj hD ho' hd => ?_⟩ (.inl ⟨by rw [hset]; simp [hnm]; omega, rfl⟩) hU' hle'
        · rw [put_at, if_neg fun h => hx i o h3 h.1]
          exact ok.2.2.1 x hx
        · rw [put_at]
          by_cases hc : o.dst = some d
          · have := hdst i j o o' d h3 ho' hc hd
            subst this
            rw [if_pos ⟨hc, by rw [ok.1]; exact hsz _ _ _ h3 hc⟩]
          · rw [if_neg fun h => hc h.1]
            have hD := (hset j).symm.trans hD
            have hne : j ≠ i := fun e => by subst e; rw [h3] at ho'; cases ho'; exact hc hd
            have : (j == i) = false := by simp [hne]
            rw [this, Bool.false_or] at hD
            exact ok.2.2.2 j o' d hj hD ho' hd
      simpa only [wpOpIn, h3] using this
    · have : i = m := by omega
      subst this
      obtain ⟨l1, l2⟩ := hlast o h3
      have hD : ∀ j, j < i → listed.getD j false = true := fun j hj => h4 j (l2 j hj)
      have hs2 := stp_skipv (l := l) (ops := ops) (P := P) q2 hwant (hwr o a _ h3 ok hD)
      have := hs2 (wpAnyIn (Fx l) 0 P .any ops Q fuel (listed.setIfInBounds i true)) Q fun a' w' ⟨ha, hw'⟩ => by
        subst ha hw'
        have hput : a.put o.dst undef = a := by rw [l1]; rfl
        rw [hput]
        refine ih (U.erase i) _ _ _ (by simp [hs]) ⟨ok.1, ok.2.1, ok.2.2.1, fun j o' d hj hD2 ho' hd => ?_⟩ (.inr ⟨by rw [hset]; simp, rfl, fun j hj => by rw [hset, hD j hj]; simp⟩) hU' hle'
        exact ok.2.2.2 j o' d hj (hD j hj) ho' hd
      simpa only [wpOpIn, h3] using this
end
end Go.Ev
namespace Go.Ev
open Go


structure NT where
  (tp ts tm tk tt tb : TypeId)
  (p1 p2 : String)
def eD (n : Nat) : Edge := ⟨n, .data⟩
def eP (n : Nat) : Edge := ⟨n, .phase⟩
def nl14 (q : NT) : List Oper := [⟨some 63, .move (.tmp 5), q.tp, q.p1, #[], none⟩, ⟨some 64, .nilCheck (.tmp 63), 0, q.p1, #[eD 0], none⟩, ⟨some 65, .fieldAddr q.ts (.tmp 64) 0, 0, q.p1, #[eD 1], none⟩,
  ⟨some 66, .load q.tm (.tmp 65), q.tm, q.p1, #[eD 2], none⟩, ⟨some 67, .range q.tm (.tmp 66), 0, q.p1, #[eD 3], none⟩]
def nl15 (q : NT) : List Oper := [⟨some 68, .next (.tmp 67) false, 0, q.p1, #[], none⟩, ⟨some 69, .extract (.tmp 68) 0, q.tb, q.p1, #[eD 0], none⟩]
def nl16 (q : NT) : List Oper := [⟨some 70, .entry (.tmp 67), 0, q.p1, #[], none⟩, ⟨some 71, .extract (.tmp 70) 0, q.tk, q.p1, #[eD 0], none⟩, ⟨some 12, .assign (.tmp 71), q.tk, q.p1, #[eD 1, eP 0, eP 1], none⟩]
def nl17 (q : NT) : List Oper := [⟨some 72, .move (.tmp 5), q.tp, q.p2, #[], none⟩, ⟨some 73, .nilCheck (.tmp 72), 0, q.p2, #[eD 0], none⟩, ⟨some 74, .fieldAddr q.ts (.tmp 73) 0, 0, q.p2, #[eD 1], none⟩,
  ⟨some 75, .load q.tm (.tmp 74), q.tm, q.p2, #[eD 2], none⟩, ⟨some 76, .move (.tmp 12), q.tk, q.p2, #[], none⟩, ⟨some 77, .move (.tmp 11), q.tt, q.p2, #[], none⟩, ⟨some 78, .move (.tmp 5), q.tp, q.p2, #[], none⟩,
  ⟨some 79, .nilCheck (.tmp 78), 0, q.p2, #[eD 6], none⟩, ⟨some 80, .fieldAddr q.ts (.tmp 79) 0, 0, q.p2, #[eD 7], none⟩, ⟨some 81, .load q.tm (.tmp 80), q.tm, q.p2, #[eD 8], none⟩, ⟨some 82, .move (.tmp 12), q.tk, q.p2, #[], none⟩,
  ⟨some 83, .lookup q.tm (.tmp 81) (.tmp 82) false, q.tt, q.p2, #[eD 9, eD 10], none⟩, ⟨some 84, .binOp .add q.tt (.tmp 77) (.tmp 83) q.tt, q.tt, q.p2, #[eD 5, eD 11], none⟩,
  ⟨none, .mapUpdate q.tm (.tmp 75) (.tmp 76) (.tmp 84), 0, q.p2, #[eD 3, eD 4, eD 12, eP 0, eP 1, eP 2, eP 3, eP 4, eP 5, eP 6, eP 7, eP 8, eP 9, eP 10, eP 11, eP 12], none⟩]
def nlBody (q : NT) : Code := .seq (.region 15 (nl15 q).toArray false) (.seq (.cond (.tmp 69) .skip (.exit 4)) (.block 5 (.seq (.region 16 (nl16 q).toArray false) (.region 17 (nl17 q).toArray true))))
def nlCode (q : NT) : Code := .seq (.region 14 (nl14 q).toArray false) (.block 4 (.loop (nlBody q)))

structure NlP (P : Program) (q : NT) (kq : IntKind) : Prop where
  mix : P.follows .mixedOrders = true
  field : ∀ b w, (Instr.fieldAt q.ts (.pointer (some ⟨b, 0, none⟩)) 0).run P w = .ok (.pointer (some ⟨b, 0, none⟩)) w
  load : ∀ b v w, w.cell? ⟨b, 0, none⟩ = some v → (Instr.loadAt q.tm (.pointer (some ⟨b, 0, none⟩))).run P w = .ok v w
  map : P.underlying q.tm = some (.map q.tk q.tt)
  key : P.underlying q.tk = some (.int kq)
  add : ∀ x y s s' w, s.size + s'.size < 4294967296 → (do eqGuard .add q.tt x y (.string s) (.string s'); binOp .add q.tt (.string s) (.string s') : Sem Value).run P w = .ok (.string (s ++ s')) w

/-- between two rounds -/
structure NI (a : Act) (w : World) (bm ck : Nat) (en : Array MapEntry) (s : ByteArray) (seen : Array Nat) (a' : Act) (w' : World) : Prop where
  size : a'.tmps.size = a.tmps.size
  defers : a'.defers = a.defers
  old : ∀ x, ¬ (x = 12 ∨ 63 ≤ x ∧ x ≤ 84) → a'.tmps.getD x undef = a.tmps.getD x undef
  it : a'.tmps.getD 67 undef = .pointer (some ⟨w.heap.size, 0, none⟩)
  hsize : w'.heap.size = w.heap.size + 1
  rest : ∀ x, x < w.heap.size → x ≠ bm → w'.heap[x]? = w.heap[x]?
  row : w'.heap[bm]? = some (.map (turned (preF s) en seen) ck)
  iter : w'.heap[w.heap.size]? = some (.mapIter (some bm) ck seen ck)
  same : Same w w'

/-- what is known of the start -/
structure NB (P : Program) (a : Act) (w : World) (b bm ck : Nat) (en : Array MapEntry) (s : ByteArray) : Prop where
  big : 86 ≤ a.tmps.size
  own : a.tmps.getD 5 undef = .pointer (some ⟨b, 0, none⟩)
  pre : a.tmps.getD 11 undef = .string s
  lt : b < w.heap.size
  ne : b ≠ bm
  cell : w.cell? ⟨b, 0, none⟩ = some (.map (some bm))
  row : w.heap[bm]? = some (.map en ck)
  keys : KeysI .i64 en.toList
  births : Births en ck
  texts : ∀ e ∈ en.toList, ∃ x : ByteArray, e.val = .string x ∧ s.size + x.size < 4294967296

theorem cell_same {w w' : World} {b : Nat} (h : w'.heap[b]? = w.heap[b]?) (o : Nat) : w'.cell? ⟨b, o, none⟩ = w.cell? ⟨b, o, none⟩ := by
  simp [World.cell?, h]
theorem turned_keysI {f : Value → Value} {en : Array MapEntry} {seen : Array Nat} {k : IntKind} (h : KeysI k en.toList) : KeysI k (turned f en seen).toList :=
  h.keep (by simp [turned, Function.comp_def, turnE_key])

section
variable {P : Program} {q : NT} {kq : IntKind}
theorem ev_tmp (a : Act) (n : Nat) : a.eval (.tmp n) = a.tmps.getD n undef := rfl
theorem nil_ptr (b : Nat) : (match (Value.pointer (some ⟨b, 0, none⟩)) with
    | .pointer none | .nilIface | .nilFunc => (runtimePanic .nilDeref : Sem Next)
    | x => pure (.value x)) = pure (.value (.pointer (some ⟨b, 0, none⟩))) := rfl

theorem deps_lt {o : Oper} {n : Nat} (h : (o.after.toList.all fun e => Nat.blt e.on n) = true) : ∀ d ∈ deps o, d < n := fun d hd => by
  obtain ⟨e, he, rfl⟩ := List.mem_map.1 hd
  have := List.all_eq_true.1 h e (List.mem_filter.1 he).1
  simpa [Nat.blt_eq] using this
theorem deps_mem {o : Oper} {n : Nat} (h : (o.after.toList.any fun e => Nat.beq e.on n && Region.binds .any e) = true) : n ∈ deps o := by
  obtain ⟨e, he, h2⟩ := List.any_eq_true.1 h
  rw [Bool.and_eq_true] at h2
  exact List.mem_map.2 ⟨e, List.mem_filter.2 ⟨he, h2.2⟩, Nat.eq_of_beq_eq_true h2.1⟩

/-- the writing region of a round -/
theorem nl17_ok (hP : NlP P q kq) {a : Act} {w : World} {b bm ck : Nat} {en : Array MapEntry} {s x : ByteArray} {e : MapEntry} {j : Nat} {Q : Exit → Act → World → Prop} (hsz : 86 ≤ a.tmps.size) (h5 : a.tmps.getD 5 undef = .pointer (some ⟨b, 0, none⟩)) (h11 : a.tmps.getD 11 undef = .string s)
    (h12 : a.tmps.getD 12 undef = e.key) (hc : ∀ d, ({ w with drawn := d } : World).cell? ⟨b, 0, none⟩ = some (.map (some bm))) (hr : w.heap[bm]? = some (.map en ck)) (hk : KeysI .i64 en.toList) (hj : en[j]? = some e) (hx : e.val = .string x) (hl : s.size + x.size < 4294967296)
    (hQ : ∀ (a' : Act) (d : Nat), a'.tmps.size = a.tmps.size → a'.defers = a.defers → (∀ x, ¬ (72 ≤ x ∧ x ≤ 84) → a'.tmps.getD x undef = a.tmps.getD x undef) →
      Q .normal a' (Go.ChangeMaps.setBlock ({ w with drawn := d } : World) bm (.map (en.modify j fun y => { y with key := e.key, val := .string (s ++ x) }) ck))) :
    (Code.region 17 (nl17 q).toArray true).wpIn (Fx none) 0 P Q a w := by
  refine wpIn_region_any hP.mix ?_
  obtain ⟨w0, hw0⟩ : ∃ w0 : World, w0 = { w with drawn := w.drawn + 1 } := ⟨_, rfl⟩
  rw [← hw0]
  have hc0 : w0.cell? ⟨b, 0, none⟩ = some (.map (some bm)) := by rw [hw0]; exact hc _
  have hr0 : w0.heap[bm]? = some (.map en ck) := by rw [hw0]; exact hr
  have key : ∀ i o, (nl17 q).toArray[i]? = some o → i < 14 := fun i o h => by have := (Array.getElem?_eq_some_iff.1 h).1; simpa [nl17] using this
  let val : Nat → Value := fun i => match i with
    | 0 | 1 | 2 | 6 | 7 | 8 => .pointer (some ⟨b, 0, none⟩)
    | 3 | 9 => .map (some bm)
    | 4 | 10 => e.key
    | 5 => .string s
    | 11 => .string x
    | _ => .string (s ++ x)
  have opAt : ∀ i o, (nl17 q).toArray[i]? = some o → (nl17 q)[i]? = some o := fun i o h => by rw [List.getElem?_toArray] at h; exact h
  refine reads_any (m := 13) (ops := (nl17 q).toArray) (w0 := w0) (w1 := Go.ChangeMaps.setBlock w0 bm (.map (en.modify j fun y => { y with key := e.key, val := .string (s ++ x) }) ck)) (a0 := a) rfl val ?_ ?_ ?_ ?_ ?_ ?_ ?_ 14 (List.range 14) _ a w0 (by simp) ⟨rfl, rfl, fun _ _ => rfl, fun i o d _ hD => ?refine_8⟩ (.inl ⟨rfl, rfl⟩) (fun i hi _ => List.mem_range.2 hi) (by simp)
  case refine_8 =>
    exfalso
    have hD : (Array.replicate (nl17 q).toArray.size false).getD i false = true := hD
    simp only [Array.getD_eq_getD_getElem?, Array.getElem?_replicate] at hD
    split at hD <;> cases hD
  · intro i o d h hd
    have hi := key i o h
    have h := opAt i o h
    match i, hi with
    | 0, _ | 1, _ | 2, _ | 3, _ | 4, _ | 5, _ | 6, _ | 7, _ | 8, _ | 9, _ | 10, _ | 11, _ | 12, _ | 13, _ => cases h; first | (cases hd; done) | (cases hd; exact Nat.lt_of_lt_of_le (by decide) hsz)
  · intro i i' o o' d h h' hd hd'
    have hi := key i o h
    have hi' := key i' o' h'
    have h := opAt i o h
    have h' := opAt i' o' h'
    have hh : ∀ i o, i < 14 → (nl17 q)[i]? = some o → ∀ d : Nat, o.dst = some d → d = i + 72 := fun i o hi h d hd => by
      match i, hi with
      | 0, _ | 1, _ | 2, _ | 3, _ | 4, _ | 5, _ | 6, _ | 7, _ | 8, _ | 9, _ | 10, _ | 11, _ | 12, _ => cases h; cases hd; rfl
      | 13, _ => cases h; cases hd
    have := hh i o hi h d hd
    have := hh i' o' hi' h' d hd'
    omega
  · intro i o h
    have hi := key i o h
    have h := opAt i o h
    match i, hi with
    | 0, _ | 1, _ | 2, _ | 3, _ | 4, _ | 5, _ | 6, _ | 7, _ | 8, _ | 9, _ | 10, _ | 11, _ | 12, _ | 13, _ =>
      cases h
      exact ⟨rfl, fun c hc => (by cases hc), deps_lt rfl⟩
  · intro o h
    have h := opAt 13 o h
    cases h
    exact ⟨rfl, fun i hi => by
      match i, hi with
      | 0, _ | 1, _ | 2, _ | 3, _ | 4, _ | 5, _ | 6, _ | 7, _ | 8, _ | 9, _ | 10, _ | 11, _ | 12, _ => exact deps_mem rfl⟩
  · intro i o a' D hi h ok hD
    have h := opAt i o h
    obtain ⟨k1, k2, k3, k4⟩ := ok
    have hold : ∀ x, ¬ (72 ≤ x ∧ x ≤ 84) → a'.tmps.getD x undef = a.tmps.getD x undef := fun x hx => k3 x fun i o ho hd => by
      have hi := key i o ho
      have ho := opAt i o ho
      match i, hi with
      | 0, _ | 1, _ | 2, _ | 3, _ | 4, _ | 5, _ | 6, _ | 7, _ | 8, _ | 9, _ | 10, _ | 11, _ | 12, _ | 13, _ => cases ho; first | (cases hd; done) | (cases hd; exact hx (by decide))
    have h5' := (hold 5 (by omega)).trans h5
    have h11' := (hold 11 (by omega)).trans h11
    have h12' := (hold 12 (by omega)).trans h12
    have hv : ∀ i, i < 13 → D i = true → a'.tmps.getD (i + 72) undef = val i := fun i hi hDi => by
      obtain ⟨o, ho, hd⟩ : ∃ o, (nl17 q).toArray[i]? = some o ∧ o.dst = some (i + 72) := by
        match i, hi with
        | 0, _ | 1, _ | 2, _ | 3, _ | 4, _ | 5, _ | 6, _ | 7, _ | 8, _ | 9, _ | 10, _ | 11, _ | 12, _ => exact ⟨_, rfl, rfl⟩
      exact k4 i o _ hi hDi ho hd
    match i, hi with
    | 0, _ | 6, _ => cases h; simp only [execOp, ev_tmp, h5', Sem.run_pure]; rfl
    | 4, _ | 10, _ => cases h; simp only [execOp, ev_tmp, h12', Sem.run_pure]; rfl
    | 5, _ => cases h; simp only [execOp, ev_tmp, h11', Sem.run_pure]; rfl
    | 1, _ => cases h; have := hv 0 (by omega) (hD 0 (deps_mem rfl)); simp only [execOp, ev_tmp, this]; rfl
    | 7, _ => cases h; have := hv 6 (by omega) (hD 6 (deps_mem rfl)); simp only [execOp, ev_tmp, this]; rfl
    | 2, _ => cases h; have := hv 1 (by omega) (hD 1 (deps_mem rfl)); simp only [execOp, ev_tmp, this, Sem.run_bind]; show Result.andThen ((Instr.fieldAt q.ts (.pointer (some ⟨b, 0, none⟩)) 0).run P w0) _ = _; rw [hP.field]; rfl
    | 8, _ => cases h; have := hv 7 (by omega) (hD 7 (deps_mem rfl)); simp only [execOp, ev_tmp, this, Sem.run_bind]; show Result.andThen ((Instr.fieldAt q.ts (.pointer (some ⟨b, 0, none⟩)) 0).run P w0) _ = _; rw [hP.field]; rfl
    | 3, _ => cases h; have := hv 2 (by omega) (hD 2 (deps_mem rfl)); simp only [execOp, ev_tmp, this, Sem.run_bind]; show Result.andThen ((Instr.loadAt q.tm (.pointer (some ⟨b, 0, none⟩))).run P w0) _ = _; rw [hP.load _ _ _ hc0]; rfl
    | 9, _ => cases h; have := hv 8 (by omega) (hD 8 (deps_mem rfl)); simp only [execOp, ev_tmp, this, Sem.run_bind]; show Result.andThen ((Instr.loadAt q.tm (.pointer (some ⟨b, 0, none⟩))).run P w0) _ = _; rw [hP.load _ _ _ hc0]; rfl
    | 11, _ =>
      cases h
      have g1 := hv 9 (by omega) (hD 9 (deps_mem rfl))
      have g2 := hv 10 (by omega) (hD 10 (deps_mem rfl))
      simp only [execOp, ev_tmp, g1, g2, Sem.run_bind]
      show Result.andThen ((Instr.lookup q.tm (.map (some bm)) e.key false).run P w0) _ = _
      rw [lookup_raw hP.map hP.key hr0 hk hj, hx]; rfl
    | 12, _ =>
      cases h
      have g1 := hv 5 (by omega) (hD 5 (deps_mem rfl))
      have g2 := hv 11 (by omega) (hD 11 (deps_mem rfl))
      simp only [execOp, ev_tmp, g1, g2]
      rw [Sem.run_bind]
      show Result.andThen ((do eqGuard .add q.tt _ _ (.string s) (.string x); binOp .add q.tt (.string s) (.string x) : Sem Value).run P w0) _ = _
      rw [hP.add _ _ _ _ _ hl]; rfl
  · intro o a' D h ok hD
    have h := opAt 13 o h
    obtain ⟨k1, k2, k3, k4⟩ := ok
    have hv : ∀ i, i < 13 → a'.tmps.getD (i + 72) undef = val i := fun i hi => by
      obtain ⟨o, ho, hd⟩ : ∃ o, (nl17 q).toArray[i]? = some o ∧ o.dst = some (i + 72) := by
        match i, hi with
        | 0, _ | 1, _ | 2, _ | 3, _ | 4, _ | 5, _ | 6, _ | 7, _ | 8, _ | 9, _ | 10, _ | 11, _ | 12, _ => exact ⟨_, rfl, rfl⟩
      exact k4 i o _ hi (hD i hi) ho hd
    cases h
    have g1 := hv 3 (by omega)
    have g2 := hv 4 (by omega)
    have g3 := hv 12 (by omega)
    simp only [execOp, ev_tmp, g1, g2, g3, Sem.run_bind]
    show Result.andThen ((Instr.mapUpdate q.tm (.map (some bm)) e.key (.string (s ++ x))).run P w0) _ = _
    rw [mapUpdate_raw (.string (s ++ x)) hP.map hP.key hr0 hk hj]; rfl
  · intro a' D ok hD
    obtain ⟨k1, k2, k3, k4⟩ := ok
    rw [hw0]
    refine hQ a' _ k1 k2 fun x hx => k3 x fun i o ho hd => ?_
    have hi := key i o ho
    have ho := opAt i o ho
    match i, hi with
    | 0, _ | 1, _ | 2, _ | 3, _ | 4, _ | 5, _ | 6, _ | 7, _ | 8, _ | 9, _ | 10, _ | 11, _ | 12, _ | 13, _ => cases ho; first | (cases hd; done) | (cases hd; exact hx (by decide))
end
end Go.Ev
namespace Go.Ev
open Go
section
variable {P : Program} {q : NT} {kq : IntKind}

/-- a round, or the end -/
theorem nl_round (hP : NlP P q kq) {a : Act} {w : World} {b bm ck : Nat} {en : Array MapEntry} {s : ByteArray} (hB : NB P a w b bm ck en s) {seen : Array Nat} {a' : Act} {w' : World} (hI : NI a w bm ck en s seen a' w') :
    (nlBody q).wpIn (Fx none) 0 P (Exit.then (fun a1 w1 => ∃ seen1, NI a w bm ck en s seen1 a1 w1 ∧ (leftOf (turned (preF s) en seen1) seen1).size < (leftOf (turned (preF s) en seen) seen).size)
      (fun e a1 w1 => e = .exit 4 ∧ ∃ seen1, NI a w bm ck en s seen1 a1 w1 ∧ (leftOf (turned (preF s) en seen1) seen1).size = 0)) a' w' := by
  have hb := hB.births
  have hbig : 86 ≤ a'.tmps.size := by rw [hI.size]; exact hB.big
  refine wpIn_seq (wpIn_region_lit ?_)
  refine wpListIn_next_raw (o := ⟨some 68, .next (.tmp 67) false, 0, q.p1, #[], none⟩) w' rfl (.tmp 67) rfl w.heap.size bm ck ck seen (turned (preF s) en seen) ck hI.it hI.iter hI.row (turned_old hb.2) (Nat.le_refl _) (fun h0 => ?_) (fun e he w1 hw1 => ?_)
  · refine wpListIn_exec (o := ⟨some 69, .extract (.tmp 68) 0, q.tb, q.p1, #[eD 0], none⟩) (w' := w') (v := .bool false) rfl rfl (fun c hc => (by cases hc)) ?_ ?_
    · have : (a'.put (some 68) (.tuple #[.bool false])).eval (.tmp 68) = .tuple #[.bool false] := by
        rw [ev_tmp, put_get, if_pos ⟨rfl, by omega⟩]
      simp only [execOp, this]; rfl
    · refine wpListIn_nil ?_
      refine wpIn_seq (wpIn_cond_false ?_ (wpIn_exit ⟨rfl, seen, ?_, h0⟩))
      · rw [ev_tmp, put_get, if_pos ⟨rfl, by rw [put_size]; omega⟩]
      · exact { size := by rw [put_size, put_size]; exact hI.size, defers := by rw [put_defers, put_defers]; exact hI.defers,
                old := fun x hx => by rw [put_get, if_neg (by omega), put_get, if_neg (by omega)]; exact hI.old x hx,
                it := by rw [put_get, if_neg (by omega), put_get, if_neg (by omega)]; exact hI.it,
                hsize := hI.hsize, rest := hI.rest, row := hI.row, iter := hI.iter, same := hI.same }
  · obtain ⟨hs, hmem, j, hj, hjt⟩ := left_old he
    have hmemE : e ∈ en.toList := List.mem_of_getElem? (by rw [Array.getElem?_toList]; exact hj)
    obtain ⟨x, hx, hl⟩ := hB.texts e hmemE
    obtain ⟨w2, hw2⟩ : ∃ w2, w2 = Go.ChangeMaps.setBlock w1 w.heap.size (.mapIter (some bm) ck (seen.push e.born) ck) := ⟨_, rfl⟩
    rw [← hw2]
    have hh1 : w1.heap = w'.heap ∧ Same w' w1 := by rcases hw1 with rfl | rfl <;> exact ⟨rfl, ⟨rfl, rfl, rfl⟩⟩
    have hbm : bm < w.heap.size := (Array.getElem?_eq_some_iff.1 hB.row).1
    have hh2 : w2.heap = w'.heap.setIfInBounds w.heap.size (.mapIter (some bm) ck (seen.push e.born) ck) := by rw [hw2, ← hh1.1]; rfl
    have hat2 : ∀ y, y ≠ w.heap.size → w2.heap[y]? = w'.heap[y]? := fun y hy => by rw [hh2, Array.getElem?_setIfInBounds_ne (Ne.symm hy)]
    have hit2 : w2.heap[w.heap.size]? = some (.mapIter (some bm) ck (seen.push e.born) ck) := by rw [hh2, Array.getElem?_setIfInBounds_self_of_lt (by rw [hI.hsize]; omega)]
    have hsz2 : w2.heap.size = w.heap.size + 1 := by rw [hh2, Array.size_setIfInBounds]; exact hI.hsize
    have hrow2 : w2.heap[bm]? = some (.map (turned (preF s) en seen) ck) := by rw [hat2 _ (by omega)]; exact hI.row
    have hsame2 : Same w w2 := hI.same.trans (hh1.2.trans (by rw [hw2]; exact ⟨rfl, rfl, rfl⟩))
    obtain ⟨a1, ha1⟩ : ∃ a1 : Act, a1 = a'.put (some 68) (.tuple #[.bool true, e.key, e.val]) := ⟨_, rfl⟩
    rw [← ha1]
    have g1 : ∀ x, ¬ (x = 12 ∨ 63 ≤ x ∧ x ≤ 84) → a1.tmps.getD x undef = a.tmps.getD x undef := fun x hx => by rw [ha1, put_get, if_neg (by omega)]; exact hI.old x hx
    have s1 : a1.tmps.size = a.tmps.size := by rw [ha1, put_size]; exact hI.size
    have d1 : a1.defers = a.defers := by rw [ha1, put_defers]; exact hI.defers
    have i1 : a1.tmps.getD 67 undef = .pointer (some ⟨w.heap.size, 0, none⟩) := by rw [ha1, put_get, if_neg (by omega)]; exact hI.it
    have e1 : a1.tmps.getD 68 undef = .tuple #[.bool true, e.key, e.val] := by rw [ha1, put_get, if_pos ⟨rfl, by omega⟩]
    refine wpListIn_exec (o := ⟨some 69, .extract (.tmp 68) 0, q.tb, q.p1, #[eD 0], none⟩) (w' := w2) (v := .bool true) rfl rfl (fun c hc => (by cases hc)) (by simp only [execOp, ev_tmp, e1]; rfl) (wpListIn_nil ?_)
    refine wpIn_seq (wpIn_cond_true (by rw [ev_tmp, put_get, if_pos ⟨rfl, by rw [s1]; have := hB.big; omega⟩]) (wpIn_skip ?_))
    refine wpIn_block (wpIn_seq (wpIn_region_lit ?_))
    obtain ⟨a2, ha2⟩ : ∃ a2 : Act, a2 = a1.put (some 69) (.bool true) := ⟨_, rfl⟩
    rw [← ha2]
    have i2 : a2.tmps.getD 67 undef = .pointer (some ⟨w.heap.size, 0, none⟩) := by rw [ha2, put_get, if_neg (by omega)]; exact i1
    have s2 : a2.tmps.size = a.tmps.size := by rw [ha2, put_size]; exact s1
    have d2 : a2.defers = a.defers := by rw [ha2, put_defers]; exact d1
    have g2 : ∀ x, ¬ (x = 12 ∨ 63 ≤ x ∧ x ≤ 84) → a2.tmps.getD x undef = a.tmps.getD x undef := fun x hx => by rw [ha2, put_get, if_neg (by omega)]; exact g1 x hx
    have hbig2 := hB.big
    refine wpListIn_entry_raw (o := ⟨some 70, .entry (.tmp 67), 0, q.p1, #[], none⟩) w2 rfl (.tmp 67) rfl w.heap.size bm ck seen (turned (preF s) en seen) ck e i2 hit2 hrow2 hmem (by rw [turned_born]; exact hb.1) ?_
    obtain ⟨a3, ha3⟩ : ∃ a3 : Act, a3 = a2.put (some 70) (.tuple #[e.key, e.val]) := ⟨_, rfl⟩
    rw [← ha3]
    have e3 : a3.tmps.getD 70 undef = .tuple #[e.key, e.val] := by rw [ha3, put_get, if_pos ⟨rfl, by omega⟩]
    refine wpListIn_exec (o := ⟨some 71, .extract (.tmp 70) 0, q.tk, q.p1, #[eD 0], none⟩) (w' := w2) (v := e.key) rfl rfl (fun c hc => (by cases hc)) (by simp only [execOp, ev_tmp, e3]; rfl) ?_
    obtain ⟨a4, ha4⟩ : ∃ a4 : Act, a4 = a3.put (some 71) e.key := ⟨_, rfl⟩
    rw [← ha4]
    have s3 : a3.tmps.size = a.tmps.size := by rw [ha3, put_size]; exact s2
    have s4 : a4.tmps.size = a.tmps.size := by rw [ha4, put_size]; exact s3
    have e4 : a4.tmps.getD 71 undef = e.key := by rw [ha4, put_get, if_pos ⟨rfl, by omega⟩]
    refine wpListIn_exec (o := ⟨some 12, .assign (.tmp 71), q.tk, q.p1, #[eD 1, eP 0, eP 1], none⟩) (w' := w2) (v := e.key) rfl rfl (fun c hc => (by cases hc)) (by simp only [execOp, ev_tmp, e4, Sem.run_pure]) (wpListIn_nil ?_)
    obtain ⟨a5, ha5⟩ : ∃ a5 : Act, a5 = a4.put (some 12) e.key := ⟨_, rfl⟩
    rw [← ha5]
    have s5 : a5.tmps.size = a.tmps.size := by rw [ha5, put_size]; exact s4
    have g5 : ∀ x, ¬ (x = 12 ∨ 63 ≤ x ∧ x ≤ 84) → a5.tmps.getD x undef = a.tmps.getD x undef := fun x hx => by
      rw [ha5, put_get, if_neg (by omega), ha4, put_get, if_neg (by omega), ha3, put_get, if_neg (by omega)]; exact g2 x hx
    have i5 : a5.tmps.getD 67 undef = .pointer (some ⟨w.heap.size, 0, none⟩) := by
      rw [ha5, put_get, if_neg (by omega), ha4, put_get, if_neg (by omega), ha3, put_get, if_neg (by omega)]; exact i2
    have d5 : a5.defers = a.defers := by rw [ha5, put_defers, ha4, put_defers, ha3, put_defers]; exact d2
    have e5 : a5.tmps.getD 12 undef = e.key := by rw [ha5, put_get, if_pos ⟨rfl, by omega⟩]
    have hcell : ∀ d, ({ w2 with drawn := d } : World).cell? ⟨b, 0, none⟩ = some (.map (some bm)) := fun d => by
      have hlt := hB.lt
      have : ({ w2 with drawn := d } : World).heap[b]? = w.heap[b]? := by
        show w2.heap[b]? = _
        rw [hat2 b (by omega)]; exact hI.rest b hlt hB.ne
      rw [cell_same this]; exact hB.cell
    refine nl17_ok hP (by omega) ((g5 5 (by omega)).trans hB.own) ((g5 11 (by omega)).trans hB.pre) e5 hcell hrow2 (turned_keysI hB.keys) hjt hx hl fun a6 d s6 d6 g6 => ?_
    have hval : (Value.string (s ++ x)) = preF s e.val := by rw [hx]; rfl
    rw [hval, turned_step hb.1 hj]
    refine ⟨seen.push e.born, ⟨by rw [s6]; exact s5, by rw [d6]; exact d5, fun x hx => by rw [g6 x (by omega)]; exact g5 x hx, by rw [g6 67 (by omega)]; exact i5, ?_, fun y hy hne => ?_, ?_, ?_, ?_⟩, left_less hs hmemE⟩
    · show (w2.heap.setIfInBounds _ _).size = _
      rw [Array.size_setIfInBounds]; exact hsz2
    · show (w2.heap.setIfInBounds bm _)[y]? = _
      rw [Array.getElem?_setIfInBounds_ne (Ne.symm hne), hat2 y (by omega)]; exact hI.rest y hy hne
    · show (w2.heap.setIfInBounds bm _)[bm]? = _
      rw [Array.getElem?_setIfInBounds_self_of_lt (by rw [hsz2]; omega)]
    · show (w2.heap.setIfInBounds bm _)[w.heap.size]? = _
      rw [Array.getElem?_setIfInBounds_ne (by omega)]; exact hit2
    · exact hsame2.trans ⟨rfl, rfl, rfl⟩

/-- all rounds -/
theorem nl_loop (hP : NlP P q kq) {a : Act} {w : World} {b bm ck : Nat} {en : Array MapEntry} {s : ByteArray} (hB : NB P a w b bm ck en s) : ∀ (k : Nat) {seen : Array Nat} {a' : Act} {w' : World}, (leftOf (turned (preF s) en seen) seen).size ≤ k → NI a w bm ck en s seen a' w' →
    LoopW (Fx none) 0 P (nlBody q) (fun e a1 w1 => e = .exit 4 ∧ ∃ seen1, NI a w bm ck en s seen1 a1 w1 ∧ (leftOf (turned (preF s) en seen1) seen1).size = 0) a' w' := by
  intro k
  induction k with
  | zero =>
    intro seen a' w' hk hI
    refine LoopW.round (wpIn_mono (nl_round hP hB hI) fun e a1 w1 h => ?_)
    cases e with
    | normal => obtain ⟨_, _, h⟩ := h; omega
    | _ => exact h
  | succ k ih =>
    intro seen a' w' hk hI
    refine LoopW.round (wpIn_mono (nl_round hP hB hI) fun e a1 w1 h => ?_)
    cases e with
    | normal => obtain ⟨seen1, h1, h2⟩ := h; exact ih (by omega) h1
    | _ => exact h

/-- the statement whole: the map's texts are turned, all of them; a block more that nobody asks for -/
theorem nl_whole (hP : NlP P q kq) {a : Act} {w : World} {b bm ck : Nat} {en : Array MapEntry} {s : ByteArray} (hB : NB P a w b bm ck en s) {Q : Exit → Act → World → Prop}
    (hQ : ∀ a1 w1, a1.tmps.size = a.tmps.size → a1.defers = a.defers → (∀ x, ¬ (x = 12 ∨ 63 ≤ x ∧ x ≤ 84) → a1.tmps.getD x undef = a.tmps.getD x undef) → w1.heap.size = w.heap.size + 1 →
      (∀ x, x < w.heap.size → x ≠ bm → w1.heap[x]? = w.heap[x]?) → w1.heap[bm]? = some (.map (en.map fun e => { e with val := preF s e.val }) ck) → Same w w1 → Q .normal a1 w1) :
    (nlCode q).wpIn (Fx none) 0 P Q a w := by
  have hbig := hB.big
  refine wpIn_seq (wpIn_region_lit ?_)
  refine wpListIn_exec (o := ⟨some 63, .move (.tmp 5), q.tp, q.p1, #[], none⟩) (w' := w) (v := .pointer (some ⟨b, 0, none⟩)) rfl rfl (fun c hc => (by cases hc)) (by simp only [execOp, ev_tmp, hB.own, Sem.run_pure]) ?_
  obtain ⟨a1, ha1⟩ : ∃ a1 : Act, a1 = a.put (some 63) (.pointer (some ⟨b, 0, none⟩)) := ⟨_, rfl⟩
  rw [← ha1]
  have e1 : a1.tmps.getD 63 undef = .pointer (some ⟨b, 0, none⟩) := by rw [ha1, put_get, if_pos ⟨rfl, by omega⟩]
  refine wpListIn_exec (o := ⟨some 64, .nilCheck (.tmp 63), 0, q.p1, #[eD 0], none⟩) (w' := w) (v := .pointer (some ⟨b, 0, none⟩)) rfl rfl (fun c hc => (by cases hc)) (by simp only [execOp, ev_tmp, e1]; rfl) ?_
  obtain ⟨a2, ha2⟩ : ∃ a2 : Act, a2 = a1.put (some 64) (.pointer (some ⟨b, 0, none⟩)) := ⟨_, rfl⟩
  rw [← ha2]
  have s1 : a1.tmps.size = a.tmps.size := by rw [ha1, put_size]
  have e2 : a2.tmps.getD 64 undef = .pointer (some ⟨b, 0, none⟩) := by rw [ha2, put_get, if_pos ⟨rfl, by omega⟩]
  refine wpListIn_exec (o := ⟨some 65, .fieldAddr q.ts (.tmp 64) 0, 0, q.p1, #[eD 1], none⟩) (w' := w) (v := .pointer (some ⟨b, 0, none⟩)) rfl rfl (fun c hc => (by cases hc)) ?_ ?_
  · simp only [execOp, ev_tmp, e2, Sem.run_bind]
    show Result.andThen ((Instr.fieldAt q.ts (.pointer (some ⟨b, 0, none⟩)) 0).run P w) _ = _
    rw [hP.field]; rfl
  obtain ⟨a3, ha3⟩ : ∃ a3 : Act, a3 = a2.put (some 65) (.pointer (some ⟨b, 0, none⟩)) := ⟨_, rfl⟩
  rw [← ha3]
  have s2 : a2.tmps.size = a.tmps.size := by rw [ha2, put_size]; exact s1
  have s3 : a3.tmps.size = a.tmps.size := by rw [ha3, put_size]; exact s2
  have e3 : a3.tmps.getD 65 undef = .pointer (some ⟨b, 0, none⟩) := by rw [ha3, put_get, if_pos ⟨rfl, by omega⟩]
  refine wpListIn_exec (o := ⟨some 66, .load q.tm (.tmp 65), q.tm, q.p1, #[eD 2], none⟩) (w' := w) (v := .map (some bm)) rfl rfl (fun c hc => (by cases hc)) ?_ ?_
  · simp only [execOp, ev_tmp, e3, Sem.run_bind]
    show Result.andThen ((Instr.loadAt q.tm (.pointer (some ⟨b, 0, none⟩))).run P w) _ = _
    rw [hP.load _ _ _ hB.cell]; rfl
  obtain ⟨a4, ha4⟩ : ∃ a4 : Act, a4 = a3.put (some 66) (.map (some bm)) := ⟨_, rfl⟩
  rw [← ha4]
  have s4 : a4.tmps.size = a.tmps.size := by rw [ha4, put_size]; exact s3
  have e4 : a4.tmps.getD 66 undef = .map (some bm) := by rw [ha4, put_get, if_pos ⟨rfl, by omega⟩]
  refine wpListIn_range_raw (o := ⟨some 67, .range q.tm (.tmp 66), 0, q.p1, #[eD 3], none⟩) w rfl (.tmp 66) q.tm q.tk q.tt rfl hP.map bm en ck e4 hB.row (wpListIn_nil ?_)
  obtain ⟨a5, ha5⟩ : ∃ a5 : Act, a5 = a4.put (some 67) (.pointer (some ⟨w.heap.size, 0, none⟩)) := ⟨_, rfl⟩
  rw [← ha5]
  have hI : NI a w bm ck en s #[] a5 (w.alloc (.mapIter (some bm) ck #[] ck)) :=
    { size := by rw [ha5, put_size]; exact s4, defers := by rw [ha5, put_defers, ha4, put_defers, ha3, put_defers, ha2, put_defers, ha1, put_defers],
      old := fun x hx => by rw [ha5, put_get, if_neg (by omega), ha4, put_get, if_neg (by omega), ha3, put_get, if_neg (by omega), ha2, put_get, if_neg (by omega), ha1, put_get, if_neg (by omega)],
      it := by rw [ha5, put_get, if_pos ⟨rfl, by omega⟩], hsize := by simp, rest := fun x hx _ => alloc_old hx,
      row := by rw [turned_start, alloc_old (Array.getElem?_eq_some_iff.1 hB.row).1]; exact hB.row, iter := alloc_new _ _, same := ⟨rfl, rfl, rfl⟩ }
  refine wpIn_block (LoopW.wp ((nl_loop hP hB _ (Nat.le_refl _) hI).mono fun e a6 w6 h => ?_))
  obtain ⟨rfl, seen, h1, h2⟩ := h
  show (if 4 = 4 then Q .normal a6 w6 else Q (.exit 4) a6 w6)
  rw [if_pos rfl]
  refine hQ a6 w6 h1.size h1.defers h1.old h1.hsize h1.rest ?_ h1.same
  rw [h1.row, turned_done h2]
end
end Go.Ev
namespace Go.Ev
open Go

/-- a number among keys -/
def hasN (n : Nat) : V → Bool
  | .cons (.i _ m) (.cons _ r) => Nat.beq n m || hasN n r
  | _ => false
def keys64 : V → Bool
  | .nil => true
  | .cons (.i c n) (.cons _ r) => Nat.beq c 3 && !hasN n r && keys64 r
  | _ => false
def preG (ql : Nat) : V → Bool
  | .nil => true
  | .cons _ (.cons (.s _ l) r) => Nat.blt (ql + l) 4294967296 && preG ql r
  | _ => false
def unL (l : List Nat) (t : T) : T := l.foldr (fun d u => setT u d .un) t
def nlT : List Nat := 12 :: List.range' 63 22
def nlM (t : T) (h : H) (idm : Nat) (qn ql : Nat) (es : V) : Option (T × H) :=
  bif keys64 es && (preG ql es && Nat.blt idm 65536) then (preV qn ql es).map fun es' => (unL nlT t, h.set idm (.map es')) else none
def nlK (t : T) (h : H) : Option (T × H) :=
  match getT t 5 with
  | .p id 0 => match getT t 11 with
    | .s qn ql => match h.gt id with
      | .cells _ (.cons (.m idm) _) => match h.gt idm with
        | .map es => nlM t h idm qn ql es
        | _ => none
      | _ => none
    | _ => none
  | _ => none
def nlF : F := fun _ t h k => match nlK t h with | none => none | some q => k q.1 q.2

theorem kind3 {k : IntKind} (h : kindN k = 3) : k = .i64 := by cases k <;> first | rfl | cases h
theorem hasN_ok {σ : Sg} {n : Nat} : ∀ {es : V} {L : List MapEntry}, ER σ es L → keys64 es = true → hasN n es = false → ∀ e ∈ L, e.key ≠ .int .i64 (Int.ofNat n)
  | _, _, .nil, _, _, e, he => by cases he
  | .cons k (.cons v r), x :: l, .cons hk hv hr, hs, hn, e, he => by
    cases k <;> try (cases hs; done)
    rename_i c m
    simp only [keys64, hasN, Bool.and_eq_true, Bool.or_eq_false_iff] at hs hn
    rcases List.mem_cons.1 he with rfl | he
    · cases e with
      | mk xk xv xb =>
        intro hc
        simp only at hc hk
        subst hc
        generalize hV : V.i c m = v0 at hk
        cases hk with
        | i k' n' => cases hV; simp at hn
        | _ => cases hV
    · exact hasN_ok hr hs.2 hn.2 e he
theorem keys64_ok {σ : Sg} : ∀ {es : V} {L : List MapEntry}, ER σ es L → keys64 es = true → KeysI .i64 L
  | _, _, .nil, _ => ⟨fun e he => (by cases he), .nil⟩
  | .cons k (.cons v r), x :: l, .cons hk hv hr, hs => by
    cases k <;> try (cases hs; done)
    rename_i c m
    simp only [keys64, Bool.and_eq_true, Bool.not_eq_true'] at hs
    have ih := keys64_ok hr hs.2
    obtain ⟨xk, xv, xb⟩ := x
    simp only at hk
    have hkey : xk = .int .i64 (Int.ofNat m) := by
      have hc := Nat.eq_of_beq_eq_true hs.1.1
      subst hc
      generalize hV : V.i 3 m = v0 at hk
      cases hk with
      | i k' n' =>
        obtain ⟨h1, h2⟩ := V.i.inj hV
        rw [kind3 h1.symm, h2]
      | _ => cases hV
    refine ⟨fun e he => ?_, ?_⟩
    · rcases List.mem_cons.1 he with rfl | he
      · exact ⟨_, hkey⟩
      · exact ih.int e he
    · rw [List.map_cons, List.nodup_cons]
      refine ⟨fun hm => ?_, ih.apart⟩
      obtain ⟨e, he, h2⟩ := List.mem_map.1 hm
      exact hasN_ok hr hs.2 hs.1.2 e he (by rw [h2]; exact hkey)
theorem preG_ok {σ : Sg} {ql : Nat} : ∀ {es : V} {L : List MapEntry}, ER σ es L → preG ql es = true → ∀ e ∈ L, ∃ x : ByteArray, e.val = .string x ∧ ql + x.size < 4294967296
  | _, _, .nil, _, e, he => by cases he
  | .cons k (.cons v r), x :: l, .cons hk hv hr, hs, e, he => by
    cases v <;> try (cases hs; done)
    rename_i n len
    simp only [preG, Bool.and_eq_true, Nat.blt_eq] at hs
    rcases List.mem_cons.1 he with rfl | he
    · obtain ⟨xk, xv, xb⟩ := e
      simp only at hv
      generalize hV : V.s n len = v0 at hv
      cases hv with
      | s b => cases hV; exact ⟨b, rfl, hs.1⟩
      | _ => cases hV
    · exact preG_ok hr hs.2 e he
theorem unL_at : ∀ {l : List Nat} {t : T} {x : Nat}, (∀ d ∈ l, d < 256) → x < 256 → getT (unL l t) x = if x ∈ l then .un else getT t x
  | [], t, x, _, _ => by simp [unL]
  | d :: l, t, x, h, hx => by
    show getT (setT (unL l t) d .un) x = _
    rw [getT_setT _ _ _ _ (h d (List.mem_cons_self ..)) hx, unL_at (fun d hd => h d (List.mem_cons_of_mem _ hd)) hx]
    by_cases hd : x = d
    · subst hd; simp
    · simp [hd]
section
variable {P : Program} {hp : H} {q : NT} {kq : IntKind} {nt : Nat} {pu : PU}

theorem nlK_some {t t' : T} {h h' : H} (e : nlK t h = some (t', h')) : ∃ id qn ql n l idm es es', getT t 5 = .p id 0 ∧ getT t 11 = .s qn ql ∧ h.gt id = .cells n (.cons (.m idm) l) ∧ h.gt idm = .map es ∧ keys64 es = true ∧ preG ql es = true ∧ idm < 65536 ∧ preV qn ql es = some es' ∧ t' = unL nlT t ∧ h' = h.set idm (.map es') := by
  unfold nlK at e
  split at e <;> try (cases e; done)
  rename_i id e1
  split at e <;> try (cases e; done)
  rename_i qn ql e2
  split at e <;> try (cases e; done)
  rename_i n idm l e3
  split at e <;> try (cases e; done)
  rename_i es e4
  unfold nlM at e
  cases hc : (keys64 es && (preG ql es && Nat.blt idm 65536)) with
  | false => rw [hc] at e; cases e
  | true =>
    rw [hc] at e
    simp only [Bool.and_eq_true, Nat.blt_eq] at hc
    obtain ⟨es', e5, e6⟩ := Option.map_eq_some_iff.1 (show (preV qn ql es).map _ = some (t', h') from e)
    cases e6
    exact ⟨id, qn, ql, n, l, idm, es, es', e1, e2, e3, e4, hc.1, hc.2.1, hc.2.2, e5, rfl, rfl⟩

theorem nl_codeF (hP : NlP P q kq) (hnt : 86 ≤ nt) : CodeF P hp false nt (nlCode q) nlF := by
  intro ih hih t h k r er
  cases hq : nlK t h with
  | none => unfold nlF at er; rw [hq] at er; cases er
  | some z =>
    obtain ⟨t', h'⟩ := z
    unfold nlF at er; rw [hq] at er
    obtain ⟨id, qn, ql, n, l, idm, es, es', e1, e2, e3, e4, e5, e6, e7, e8, rfl, rfl⟩ := nlK_some hq
    refine ⟨_, CodeG.of (t' := unL nlT t) (h' := h.set idm (.map es')) (fun _ e => (by cases e)) (.inl rfl) (by rw [H.nx_set]; exact Nat.le_refl _) fun σ l' a w n0 g1 g2 g3 g4 g5 g6 => ?_, fun t1 h1 e => by cases e; exact er, fun hh => absurd rfl (hh _ _)⟩
    have hl : l' = none := by cases l' <;> first | rfl | (cases g1)
    subst hl
    have h5 := g4.at_ 5 (by omega)
    have h11 := g4.at_ 11 (by omega)
    rw [e1] at h5
    rw [e2] at h11
    generalize hv5 : a.tmps.getD 5 undef = v5 at h5
    generalize hv11 : a.tmps.getD 11 undef = v11 at h11
    cases h5 with
    | @p _ _ b sz hσ hi =>
    generalize hVs : V.s qn ql = vs at h11
    cases h11 with
    | s s =>
      cases hVs
      obtain ⟨C, hC⟩ := g2.ok.row hi hσ (.inl e3)
      have hrel := hC.rel
      generalize hCl : C.toList.take n = cl at hrel
      cases hrel with
      | @cons _ _ c0 cs hm hr =>
      cases hm with
      | @m _ bm szm hσm him =>
      obtain ⟨en, ck, o1, o2, o3⟩ := g2.ok.mapAt him hσm e4
      have hC0 : C[0]? = some (.map (some bm)) := by
        have : (C.toList.take n)[0]? = some (.map (some bm)) := by rw [hCl]; rfl
        rw [List.getElem?_take] at this
        split at this
        · rw [Array.getElem?_toList] at this; exact this
        · cases this
      have hcell : w.cell? ⟨b, 0, none⟩ = some (.map (some bm)) := by rw [hC.cell]; exact hC0
      obtain ⟨ce, cfr, hobj⟩ := hC.obj
      have hne : b ≠ bm := fun e => by rw [e, o1] at hobj; cases hobj
      have hB : NB P a w b bm ck en s := ⟨by rw [g4.size]; exact hnt, hv5, hv11, (Array.getElem?_eq_some_iff.1 hobj).1, hne, hcell, o1, keys64_ok o2 e5, o3, preG_ok o2 e6⟩
      refine nl_whole hP hB fun a1 w1 k1 k2 k3 k4 k5 k6 k7 => ?_
      obtain ⟨o', ho'⟩ : ∃ o', w1.heap[w.heap.size]? = some o' := ⟨_, Array.getElem?_eq_getElem (by omega)⟩
      obtain ⟨w0, hw0⟩ : ∃ w0, w0 = w.alloc o' := ⟨_, rfl⟩
      have hgr : Grown w w0 := by rw [hw0]; exact ⟨by simp, fun b hb => alloc_old hb, ⟨rfl, rfl, rfl⟩⟩
      have hs0 : w0.heap.size = w.heap.size + 1 := by rw [hw0]; simp
      have hbm : bm < w.heap.size := (Array.getElem?_eq_some_iff.1 o1).1
      have ok0 := g2.ok.grown hgr
      have hcm : h.cl idm = .map es := by rw [H.cl_gt h idm e7, e4]
      have her : ER σ es' (en.map fun e => { e with val := preF s e.val }).toList := by
        rw [Array.toList_map]; exact preV_ok o2 e8
      have hbirth : Births (en.map fun e => { e with val := preF s e.val }) ck := by
        refine ⟨?_, fun x hx => ?_⟩
        · have : (en.map fun e => { e with val := preF s e.val }).toList.map (·.born) = en.toList.map (·.born) := by simp [Function.comp_def]
          rw [this]; exact o3.1
        · rw [Array.toList_map] at hx
          obtain ⟨y, hy, rfl⟩ := List.mem_map.1 hx
          exact o3.2 y hy
      obtain ⟨ok1, ext1⟩ := ok0.turn (bl := .map es') (w' := w1) e7 hσm (by rw [hcm]; intro e; cases e) (fun _ _ e => by rw [hcm] at e; cases e) (by rw [hs0, k4]) k6 ⟨_, ck, rfl, her, hbirth⟩
        ⟨fun b' hb' => by
          rcases Nat.lt_trichotomy b' w.heap.size with hlt | heq | hgt
          · rw [k5 b' hlt hb', hw0, alloc_old hlt]
          · subst heq; rw [ho', hw0, alloc_new]
          · rw [Array.getElem?_eq_none (by omega), Array.getElem?_eq_none (by omega)], by rw [hw0]; exact ⟨k7.os, k7.tape, k7.output⟩⟩
      have ext := ((SExt.refl σ h w).grown hgr).trans ext1
      refine ⟨_, _, σ, .inl ⟨rfl, rfl⟩, ext, ok1, ⟨by rw [k1]; exact g4.size, g4.few, fun x hx => ?_⟩, by rw [k2]; exact g5.next ext⟩
      have hx256 : x < 256 := Nat.lt_of_lt_of_le hx g4.few
      rw [unL_at (l := nlT) (t := t) (by decide) hx256]
      split
      · exact .un
      · rename_i hnot
        rw [k3 x fun hc => hnot ?_]
        · exact g4.at_ x hx
        · rcases hc with rfl | hc
          · exact List.mem_cons_self ..
          · exact List.mem_cons_of_mem _ (List.mem_range'_1.2 ⟨hc.1, by omega⟩)
    | _ => cases hVs

/-! ### a function whose body holds such a piece -/
theorem CodeF.seq {rnd : Bool} {x y : Code} {f g : F} (hx : CodeF P hp rnd nt x f) (hy : CodeF P hp rnd nt y g) : CodeF P hp rnd nt (.seq x y) fun ih t h k => f ih t h fun t h => g ih t h k := by
  intro ih hih t h k r er
  obtain ⟨r0, a1, a2, a3⟩ := hx ih hih t h _ r er
  by_cases hn : ∃ t' h', r0 = .nor t' h'
  · obtain ⟨t', h', rfl⟩ := hn
    obtain ⟨r1, b1, b2, b3⟩ := hy ih hih _ _ k r (a2 _ _ rfl)
    exact ⟨r1, a1.seq b1, b2, b3⟩
  · have hn' : ∀ t' h', r0 ≠ .nor t' h' := fun t' h' e => hn ⟨t', h', e⟩
    exact ⟨r0, a1.seq_out hn', fun t' h' e => absurd e (hn' _ _), a3⟩
def spine (pu : PU) (P : Program) (nt : Nat) (fx : F) : Nat → Code → Cl
  | 0, .seq _ y => (cCode pu P false nt y).rec fun g => .mk fun ih t h k => fx ih t h fun t h => g ih t h k
  | n + 1, .seq x y => (cCode pu P false nt x).rec fun f => (spine pu P nt fx n y).rec fun g => .mk fun ih t h k => f ih t h fun t h => g ih t h k
  | _, _ => failC
def spineAt : Nat → Code → Option Code
  | 0, .seq x _ => some x
  | n + 1, .seq _ y => spineAt n y
  | _, _ => none
theorem spine_ok (hpo : HpOK P hp) (hpu : PUOK P hp pu) (hdraw : ∀ ops f, cDraw pu P nt ops = .mk f → DrawOK P hp nt ops f) {fx : F} {X : Code} (hX : CodeF P hp false nt X fx) : ∀ {n : Nat} {c : Code} {f : F}, spineAt n c = some X → spine pu P nt fx n c = .mk f → CodeF P hp false nt c f
  | 0, .seq x y, f, hs, e => by
    cases hs
    cases h2 : cCode pu P false nt y with | mk g =>
    have e : (cCode pu P false nt y).rec (motive := fun _ => Cl) (fun g => .mk fun ih t h k => fx ih t h fun t h => g ih t h k) = .mk f := e
    rw [h2] at e
    cases e
    exact hX.seq (cCode_ok hpo hpu hdraw h2)
  | n + 1, .seq x y, f, hs, e => by
    cases h1 : cCode pu P false nt x with | mk f1 =>
    cases h2 : spine pu P nt fx n y with | mk g =>
    have e : (cCode pu P false nt x).rec (motive := fun _ => Cl) (fun f => (spine pu P nt fx n y).rec (motive := fun _ => Cl) fun g => .mk fun ih t h k => f ih t h fun t h => g ih t h k) = .mk f := e
    rw [h1, h2] at e
    cases e
    exact (cCode_ok hpo hpu hdraw h1).seq (spine_ok hpo hpu hdraw hX (show spineAt n y = some X from hs) h2)
  | 0, .skip, f, hs, e => by cases hs
  | n + 1, .skip, f, hs, e => by cases hs
/-- such a function, compiled: the piece stands at place n -/
def cFunX (pu : PU) (P : Program) (fx : F) (n : Nat) (fn : Func) : Cl := bcl (Nat.ble fn.ntmps 256) (ocl fn.body fun c => (spine pu P fn.ntmps fx n c).rec fun f => cRes P fn.ntmps fn.results.toList fun rs => .mk fun ih t h _ => endR (f ih t h norT) fun t h => rs t h fun vs => some (.val (oneV vs) h))
def nlIH (pu : PU) (P : Program) (fx : F) (fN n : Nat) (ih : IH) : IH := fun k => k.rec (fun f args h => (Nat.beq f fN).rec (ih (.call f args h)) (bi (fits P fN args) ((ocl (P.funcs[fN]?) (cFunX pu P fx n)).rec fun g => g ih (setAll args 0 Te) h norT))) fun rnd nt c t h => ih (.code rnd nt c t h)
theorem nlIH_ok (hpo : HpOK P hp) (hpu : PUOK P hp pu) (hmix : P.follows .mixedOrders = true) {fx : F} {fN n : Nat} {fn : Func} {c X : Code} (hfn : P.funcs[fN]? = some fn) (hc : fn.body = some c) (hat : spineAt n c = some X) (hX : CodeF P hp false fn.ntmps X fx)
    {ih : IH} (hih : IHOK P hp ih) : IHOK P hp (nlIH pu P fx fN n ih) := by
  refine ⟨fun f args h r e => ?_, fun rnd nt c t h r e => hih.code rnd nt c t h r e⟩
  have e' : (Nat.beq f fN).rec (motive := fun _ => R) (ih (.call f args h)) (bi (fits P fN args) ((ocl (P.funcs[fN]?) (cFunX pu P fx n)).rec (motive := fun _ => R) fun g => g ih (setAll args 0 Te) h norT)) = some r := e
  cases hf : Nat.beq f fN with
  | false => rw [hf] at e'; exact hih.call f args h r e'
  | true =>
    rw [hf] at e'
    obtain rfl := Nat.eq_of_beq_eq_true hf
    obtain ⟨hfit, e1⟩ := bi_some.1 (show bi (fits P f args) _ = some r from e')
    cases hcx : cFunX pu P fx n fn with | mk g =>
    have hoc : (ocl (P.funcs[f]?) (cFunX pu P fx n)) = .mk g := by rw [hfn]; exact hcx
    rw [hoc] at e1
    have e1 : g ih (setAll args 0 Te) h norT = some r := e1
    rcases bcl_inv hcx with hd | ⟨h256, e2⟩
    · rw [hd] at e1; cases e1
    rcases ocl_inv e2 with hd | ⟨c', hc', e3⟩
    · rw [hd] at e1; cases e1
    rw [hc] at hc'
    cases hc'
    cases hs : spine pu P fn.ntmps fx n c with | mk fc =>
    rw [hs] at e3
    obtain ⟨g1, x, h', g2, g3, g4⟩ := cFunG_ok hfn hc (Nat.le_of_ble_eq_true h256) (spine_ok hpo hpu (fun ops f e => cDraw_ok hpo hpu hmix e) hX hat hs) e3 hih e1
    unfold fits at hfit
    rw [hfn] at hfit
    simp only [Bool.and_eq_true, Bool.not_eq_true'] at hfit
    refine ⟨x, h', g2, g3, ⟨fn, hfn, g1, hfit.2⟩, fun σ w vs st fr hv => g4 σ w vs st fr hv ?_⟩
    have := Nat.le_of_ble_eq_true hfit.1
    rw [hv.len, Array.length_toList] at this
    exact this
end
end Go.Ev
namespace Go.Ev
open Go.RowKit
def an (a b : Bool) : Bool := a.rec false b
theorem an_ok {a b : Bool} (h : an a b = true) : a = true ∧ b = true := by cases a <;> cases b <;> first | exact ⟨rfl, rfl⟩ | cases h
def eqBo (x y : Bool) : Bool := x.rec (y.rec true false) (y.rec false true)
theorem eqBo_ok {x y : Bool} (h : eqBo x y = true) : x = y := by cases x <;> cases y <;> first | rfl | cases h
def sameV (a : V) : V → Bool := a.rec (fun x0 b => b.rec (fun y0 => eqBo x0 y0) (fun _ _ => false) (fun _ _ => false) (fun _ _ _ => false) (fun _ _ => false) (fun _ => false) (fun _ _ => false) (fun _ _ _ _ => false) (fun _ => false) (fun _ _ _ _ _ => false) (fun _ => false) (fun _ _ _ => false) (fun _ _ => false) (fun _ _ _ => false) (fun _ _ _ _ => false) (fun _ _ => false) false false (fun _ _ _ _ => false)) (fun x0 x1 b => b.rec (fun _ => false) (fun y0 y1 => an (Nat.beq x0 y0) (Nat.beq x1 y1)) (fun _ _ => false) (fun _ _ _ => false) (fun _ _ => false) (fun _ => false) (fun _ _ => false) (fun _ _ _ _ => false) (fun _ => false) (fun _ _ _ _ _ => false) (fun _ => false) (fun _ _ _ => false) (fun _ _ => false) (fun _ _ _ => false) (fun _ _ _ _ => false) (fun _ _ => false) false false (fun _ _ _ _ => false)) (fun x0 x1 b => b.rec (fun _ => false) (fun _ _ => false) (fun y0 y1 => an (Nat.beq x0 y0) (Nat.beq x1 y1)) (fun _ _ _ => false) (fun _ _ => false) (fun _ => false) (fun _ _ => false) (fun _ _ _ _ => false) (fun _ => false) (fun _ _ _ _ _ => false) (fun _ => false) (fun _ _ _ => false) (fun _ _ => false) (fun _ _ _ => false) (fun _ _ _ _ => false) (fun _ _ => false) false false (fun _ _ _ _ => false)) (fun x0 x1 x2 b => b.rec (fun _ => false) (fun _ _ => false) (fun _ _ => false) (fun y0 y1 y2 => an (Nat.beq x0 y0) (an (Nat.beq x1 y1) (Nat.beq x2 y2))) (fun _ _ => false) (fun _ => false) (fun _ _ => false) (fun _ _ _ _ => false) (fun _ => false) (fun _ _ _ _ _ => false) (fun _ => false) (fun _ _ _ => false) (fun _ _ => false) (fun _ _ _ => false) (fun _ _ _ _ => false) (fun _ _ => false) false false (fun _ _ _ _ => false)) (fun x0 x1 b => b.rec (fun _ => false) (fun _ _ => false) (fun _ _ => false) (fun _ _ _ => false) (fun y0 y1 => an (Nat.beq x0 y0) (Nat.beq x1 y1)) (fun _ => false) (fun _ _ => false) (fun _ _ _ _ => false) (fun _ => false) (fun _ _ _ _ _ => false) (fun _ => false) (fun _ _ _ => false) (fun _ _ => false) (fun _ _ _ => false) (fun _ _ _ _ => false) (fun _ _ => false) false false (fun _ _ _ _ => false)) (fun x0 b => b.rec (fun _ => false) (fun _ _ => false) (fun _ _ => false) (fun _ _ _ => false) (fun _ _ => false) (fun y0 => Nat.beq x0 y0) (fun _ _ => false) (fun _ _ _ _ => false) (fun _ => false) (fun _ _ _ _ _ => false) (fun _ => false) (fun _ _ _ => false) (fun _ _ => false) (fun _ _ _ => false) (fun _ _ _ _ => false) (fun _ _ => false) false false (fun _ _ _ _ => false)) (fun x0 x1 b => b.rec (fun _ => false) (fun _ _ => false) (fun _ _ => false) (fun _ _ _ => false) (fun _ _ => false) (fun _ => false) (fun y0 y1 => an (Nat.beq x0 y0) (Nat.beq x1 y1)) (fun _ _ _ _ => false) (fun _ => false) (fun _ _ _ _ _ => false) (fun _ => false) (fun _ _ _ => false) (fun _ _ => false) (fun _ _ _ => false) (fun _ _ _ _ => false) (fun _ _ => false) false false (fun _ _ _ _ => false)) (fun x0 x1 x2 x3 b => b.rec (fun _ => false) (fun _ _ => false) (fun _ _ => false) (fun _ _ _ => false) (fun _ _ => false) (fun _ => false) (fun _ _ => false) (fun y0 y1 y2 y3 => an (Nat.beq x0 y0) (an (Nat.beq x1 y1) (an (Nat.beq x2 y2) (Nat.beq x3 y3)))) (fun _ => false) (fun _ _ _ _ _ => false) (fun _ => false) (fun _ _ _ => false) (fun _ _ => false) (fun _ _ _ => false) (fun _ _ _ _ => false) (fun _ _ => false) false false (fun _ _ _ _ => false)) (fun x0 b => b.rec (fun _ => false) (fun _ _ => false) (fun _ _ => false) (fun _ _ _ => false) (fun _ _ => false) (fun _ => false) (fun _ _ => false) (fun _ _ _ _ => false) (fun y0 => Nat.beq x0 y0) (fun _ _ _ _ _ => false) (fun _ => false) (fun _ _ _ => false) (fun _ _ => false) (fun _ _ _ => false) (fun _ _ _ _ => false) (fun _ _ => false) false false (fun _ _ _ _ => false)) (fun x0 x1 x2 ih1 ih2 b => b.rec (fun _ => false) (fun _ _ => false) (fun _ _ => false) (fun _ _ _ => false) (fun _ _ => false) (fun _ => false) (fun _ _ => false) (fun _ _ _ _ => false) (fun _ => false) (fun y0 y1 y2 _ _ => an (Nat.beq x0 y0) (an (ih1 y1) (ih2 y2))) (fun _ => false) (fun _ _ _ => false) (fun _ _ => false) (fun _ _ _ => false) (fun _ _ _ _ => false) (fun _ _ => false) false false (fun _ _ _ _ => false)) (fun x0 b => b.rec (fun _ => false) (fun _ _ => false) (fun _ _ => false) (fun _ _ _ => false) (fun _ _ => false) (fun _ => false) (fun _ _ => false) (fun _ _ _ _ => false) (fun _ => false) (fun _ _ _ _ _ => false) (fun y0 => Nat.beq x0 y0) (fun _ _ _ => false) (fun _ _ => false) (fun _ _ _ => false) (fun _ _ _ _ => false) (fun _ _ => false) false false (fun _ _ _ _ => false)) (fun x0 x1 ih1 b => b.rec (fun _ => false) (fun _ _ => false) (fun _ _ => false) (fun _ _ _ => false) (fun _ _ => false) (fun _ => false) (fun _ _ => false) (fun _ _ _ _ => false) (fun _ => false) (fun _ _ _ _ _ => false) (fun _ => false) (fun y0 y1 _ => an (Nat.beq x0 y0) (ih1 y1)) (fun _ _ => false) (fun _ _ _ => false) (fun _ _ _ _ => false) (fun _ _ => false) false false (fun _ _ _ _ => false)) (fun x0 ih0 b => b.rec (fun _ => false) (fun _ _ => false) (fun _ _ => false) (fun _ _ _ => false) (fun _ _ => false) (fun _ => false) (fun _ _ => false) (fun _ _ _ _ => false) (fun _ => false) (fun _ _ _ _ _ => false) (fun _ => false) (fun _ _ _ => false) (fun y0 _ => ih0 y0) (fun _ _ _ => false) (fun _ _ _ _ => false) (fun _ _ => false) false false (fun _ _ _ _ => false)) (fun x0 x1 ih1 b => b.rec (fun _ => false) (fun _ _ => false) (fun _ _ => false) (fun _ _ _ => false) (fun _ _ => false) (fun _ => false) (fun _ _ => false) (fun _ _ _ _ => false) (fun _ => false) (fun _ _ _ _ _ => false) (fun _ => false) (fun _ _ _ => false) (fun _ _ => false) (fun y0 y1 _ => an (Nat.beq x0 y0) (ih1 y1)) (fun _ _ _ _ => false) (fun _ _ => false) false false (fun _ _ _ _ => false)) (fun x0 x1 x2 ih2 b => b.rec (fun _ => false) (fun _ _ => false) (fun _ _ => false) (fun _ _ _ => false) (fun _ _ => false) (fun _ => false) (fun _ _ => false) (fun _ _ _ _ => false) (fun _ => false) (fun _ _ _ _ _ => false) (fun _ => false) (fun _ _ _ => false) (fun _ _ => false) (fun _ _ _ => false) (fun y0 y1 y2 _ => an (Nat.beq x0 y0) (an (Nat.beq x1 y1) (ih2 y2))) (fun _ _ => false) false false (fun _ _ _ _ => false)) (fun x0 ih0 b => b.rec (fun _ => false) (fun _ _ => false) (fun _ _ => false) (fun _ _ _ => false) (fun _ _ => false) (fun _ => false) (fun _ _ => false) (fun _ _ _ _ => false) (fun _ => false) (fun _ _ _ _ _ => false) (fun _ => false) (fun _ _ _ => false) (fun _ _ => false) (fun _ _ _ => false) (fun _ _ _ _ => false) (fun y0 _ => ih0 y0) false false (fun _ _ _ _ => false)) (fun b => b.rec (fun _ => false) (fun _ _ => false) (fun _ _ => false) (fun _ _ _ => false) (fun _ _ => false) (fun _ => false) (fun _ _ => false) (fun _ _ _ _ => false) (fun _ => false) (fun _ _ _ _ _ => false) (fun _ => false) (fun _ _ _ => false) (fun _ _ => false) (fun _ _ _ => false) (fun _ _ _ _ => false) (fun _ _ => false) true false (fun _ _ _ _ => false)) (fun b => b.rec (fun _ => false) (fun _ _ => false) (fun _ _ => false) (fun _ _ _ => false) (fun _ _ => false) (fun _ => false) (fun _ _ => false) (fun _ _ _ _ => false) (fun _ => false) (fun _ _ _ _ _ => false) (fun _ => false) (fun _ _ _ => false) (fun _ _ => false) (fun _ _ _ => false) (fun _ _ _ _ => false) (fun _ _ => false) false true (fun _ _ _ _ => false)) (fun x0 x1 ih0 ih1 b => b.rec (fun _ => false) (fun _ _ => false) (fun _ _ => false) (fun _ _ _ => false) (fun _ _ => false) (fun _ => false) (fun _ _ => false) (fun _ _ _ _ => false) (fun _ => false) (fun _ _ _ _ _ => false) (fun _ => false) (fun _ _ _ => false) (fun _ _ => false) (fun _ _ _ => false) (fun _ _ _ _ => false) (fun _ _ => false) false false (fun y0 y1 _ _ => an (ih0 y0) (ih1 y1)))
theorem sameV_ok : ∀ {a b : V}, sameV a b = true → a = b := by
  intro a
  induction a with
  | b x0 => intro b h; cases b <;> first | (cases h; done) | (have h0 := h; have g0 := h0; obtain rfl := eqBo_ok g0; rfl)
  | i x0 x1 => intro b h; cases b <;> first | (cases h; done) | (have h0 := h; obtain ⟨g0, h1⟩ := an_ok h0; have g1 := h1; obtain rfl := Nat.eq_of_beq_eq_true g0; obtain rfl := Nat.eq_of_beq_eq_true g1; rfl)
  | j x0 x1 => intro b h; cases b <;> first | (cases h; done) | (have h0 := h; obtain ⟨g0, h1⟩ := an_ok h0; have g1 := h1; obtain rfl := Nat.eq_of_beq_eq_true g0; obtain rfl := Nat.eq_of_beq_eq_true g1; rfl)
  | r x0 x1 x2 => intro b h; cases b <;> first | (cases h; done) | (have h0 := h; obtain ⟨g0, h1⟩ := an_ok h0; obtain ⟨g1, h2⟩ := an_ok h1; have g2 := h2; obtain rfl := Nat.eq_of_beq_eq_true g0; obtain rfl := Nat.eq_of_beq_eq_true g1; obtain rfl := Nat.eq_of_beq_eq_true g2; rfl)
  | s x0 x1 => intro b h; cases b <;> first | (cases h; done) | (have h0 := h; obtain ⟨g0, h1⟩ := an_ok h0; have g1 := h1; obtain rfl := Nat.eq_of_beq_eq_true g0; obtain rfl := Nat.eq_of_beq_eq_true g1; rfl)
  | z x0 => intro b h; cases b <;> first | (cases h; done) | (have h0 := h; have g0 := h0; obtain rfl := Nat.eq_of_beq_eq_true g0; rfl)
  | p x0 x1 => intro b h; cases b <;> first | (cases h; done) | (have h0 := h; obtain ⟨g0, h1⟩ := an_ok h0; have g1 := h1; obtain rfl := Nat.eq_of_beq_eq_true g0; obtain rfl := Nat.eq_of_beq_eq_true g1; rfl)
  | l x0 x1 x2 x3 => intro b h; cases b <;> first | (cases h; done) | (have h0 := h; obtain ⟨g0, h1⟩ := an_ok h0; obtain ⟨g1, h2⟩ := an_ok h1; obtain ⟨g2, h3⟩ := an_ok h2; have g3 := h3; obtain rfl := Nat.eq_of_beq_eq_true g0; obtain rfl := Nat.eq_of_beq_eq_true g1; obtain rfl := Nat.eq_of_beq_eq_true g2; obtain rfl := Nat.eq_of_beq_eq_true g3; rfl)
  | m x0 => intro b h; cases b <;> first | (cases h; done) | (have h0 := h; have g0 := h0; obtain rfl := Nat.eq_of_beq_eq_true g0; rfl)
  | f x0 x1 x2 ih1 ih2 => intro b h; cases b <;> first | (cases h; done) | (have h0 := h; obtain ⟨g0, h1⟩ := an_ok h0; obtain ⟨g1, h2⟩ := an_ok h1; have g2 := h2; obtain rfl := Nat.eq_of_beq_eq_true g0; obtain rfl := ih1 g1; obtain rfl := ih2 g2; rfl)
  | y x0 => intro b h; cases b <;> first | (cases h; done) | (have h0 := h; have g0 := h0; obtain rfl := Nat.eq_of_beq_eq_true g0; rfl)
  | a x0 x1 ih1 => intro b h; cases b <;> first | (cases h; done) | (have h0 := h; obtain ⟨g0, h1⟩ := an_ok h0; have g1 := h1; obtain rfl := Nat.eq_of_beq_eq_true g0; obtain rfl := ih1 g1; rfl)
  | t x0 ih0 => intro b h; cases b <;> first | (cases h; done) | (have h0 := h; have g0 := h0; obtain rfl := ih0 g0; rfl)
  | c x0 x1 ih1 => intro b h; cases b <;> first | (cases h; done) | (have h0 := h; obtain ⟨g0, h1⟩ := an_ok h0; have g1 := h1; obtain rfl := Nat.eq_of_beq_eq_true g0; obtain rfl := ih1 g1; rfl)
  | k x0 x1 x2 ih2 => intro b h; cases b <;> first | (cases h; done) | (have h0 := h; obtain ⟨g0, h1⟩ := an_ok h0; obtain ⟨g1, h2⟩ := an_ok h1; have g2 := h2; obtain rfl := Nat.eq_of_beq_eq_true g0; obtain rfl := Nat.eq_of_beq_eq_true g1; obtain rfl := ih2 g2; rfl)
  | q x0 ih0 => intro b h; cases b <;> first | (cases h; done) | (have h0 := h; have g0 := h0; obtain rfl := ih0 g0; rfl)
  | un  => intro b h; cases b <;> first | (cases h; done) | (rfl)
  | nil  => intro b h; cases b <;> first | (cases h; done) | (rfl)
  | cons x0 x1 ih0 ih1 => intro b h; cases b <;> first | (cases h; done) | (have h0 := h; obtain ⟨g0, h1⟩ := an_ok h0; have g1 := h1; obtain rfl := ih0 g0; obtain rfl := ih1 g1; rfl)

/-- a call with frozen arguments, and what it gives, frozen -/
inductive Ent where
  | mk (f : Nat) (args res : V)
def lookE (l : List Ent) (f : Nat) (args : V) (yes : V → R) (no : R) : R := l.rec no fun e _ ih => e.rec fun ef ea er => (an (Nat.beq f ef) (sameV ea args)).rec ih (yes er)
def tabIH (l : List Ent) (ih : IH) : IH := fun k => k.rec (fun f args h => lookE l f args (fun u => some (.val u h)) (ih (.call f args h))) fun rnd nt c t h => ih (.code rnd nt c t h)
def EntOK (P : Program) (hp : H) (e : Ent) : Prop := e.rec fun f args res => SpecOK P hp f args res ∧ fro hp.nx args = true
theorem lookE_some : ∀ {l : List Ent} {f : Nat} {args : V} {yes : V → R} {no : R} {r : Res}, lookE l f args yes no = some r → no = some r ∨ ∃ u, .mk f args u ∈ l ∧ yes u = some r
  | [], f, args, yes, no, r, e => .inl e
  | .mk ef ea er :: l, f, args, yes, no, r, e => by
    have e : (an (Nat.beq f ef) (sameV ea args)).rec (motive := fun _ => R) (lookE l f args yes no) (yes er) = some r := e
    cases hc : an (Nat.beq f ef) (sameV ea args) with
    | false =>
      rw [hc] at e
      rcases lookE_some (l := l) e with h | ⟨u, h1, h2⟩
      · exact .inl h
      · exact .inr ⟨u, List.mem_cons_of_mem _ h1, h2⟩
    | true =>
      rw [hc] at e
      have e2 : yes er = some r := e
      obtain ⟨c1, c2⟩ := an_ok hc
      obtain rfl := Nat.eq_of_beq_eq_true c1
      obtain rfl := sameV_ok c2
      exact .inr ⟨er, List.mem_cons_self .., e2⟩
section
variable {P : Program} {hp : H}
theorem tabIH_ok (hpo : HpOK P hp) {l : List Ent} (hl : ∀ e ∈ l, EntOK P hp e) {ih : IH} (hih : IHOK P hp ih) : IHOK P hp (tabIH l ih) := by
  refine ⟨fun f args h r e => ?_, fun rnd nt c t h r e => hih.code rnd nt c t h r e⟩
  rcases lookE_some (show lookE l f args (fun u => some (.val u h)) (ih (.call f args h)) = some r from e) with h1 | ⟨u, h1, h2⟩
  · exact hih.call _ _ _ _ h1
  · cases h2
    obtain ⟨s, hf⟩ := (show SpecOK P hp f args u ∧ fro hp.nx args = true from hl _ h1)
    exact ⟨u, h, rfl, Nat.le_refl _, s.runs, fun σ w vs st _ hv => s.anyw hpo hf st hv⟩
/-- the call is run from the tables alone; its value, frozen, is that -/
def entT (ih : IH) (hp : H) (e : Ent) : Bool := e.rec fun f args res => an (fro hp.nx args) ((ih (.call f args hp)).rec false fun r => r.rec (fun x h => (frz hp.nx h 100 x).rec false fun u => an (sameV u res) (fro 0 u)) (fun _ _ => false) (fun _ _ => false) (fun _ _ _ => false))
theorem entT_ok (hpo : HpOK P hp) {ih : IH} (hih : IHOK P hp ih) {e : Ent} (h : entT ih hp e = true) : EntOK P hp e := by
  cases e with
  | mk f args res =>
    obtain ⟨h1, h2⟩ := an_ok (show an (fro hp.nx args) ((ih (.call f args hp)).rec (motive := fun _ => Bool) false fun r => r.rec (fun x h => (frz hp.nx h 100 x).rec (motive := fun _ => Bool) false fun u => an (sameV u res) (fro 0 u)) (fun _ _ => false) (fun _ _ => false) (fun _ _ _ => false)) = true from h)
    cases hr : ih (.call f args hp) with
    | none => rw [hr] at h2; cases h2
    | some r =>
      rw [hr] at h2
      cases r with
      | val x h' =>
        have h2 : ((frz hp.nx h' 100 x).rec (motive := fun _ => Bool) false fun u => an (sameV u res) (fro 0 u)) = true := h2
        cases hz : frz hp.nx h' 100 x with
        | none => rw [hz] at h2; cases h2
        | some u =>
          rw [hz] at h2
          obtain ⟨h3, h4⟩ := an_ok h2
          obtain rfl := sameV_ok h3
          exact ⟨SpecOK.of hpo hih hr hz h4, h1⟩
      | _ => cases h2
/-- what a call gives, frozen: to be looked at -/
def entV (ih : IH) (hp : H) (f : Nat) (args : V) : Option V := (ih (.call f args hp)).rec none fun r => r.rec (fun x h => frz hp.nx h 100 x) (fun _ _ => none) (fun _ _ => none) (fun _ _ _ => none)
end
end Go.Ev
end
