/- The evaluator of translated Go, part 3: The evaluator: appends. · The evaluator: one operation, in the machine's walk. · The evaluator: calls, and rounds of a range over a function. · The evaluator: calls as operations; all operations together. · The evaluator: all operations; guards; a region in order. · The evaluator: guards; a region in order. · The evaluator: code. · The evaluator: a range over a function; all code; functions. · The evaluator: functions; the whole. · The evaluator: one operation of a drawn region, by its kind. · The evaluator: a drawn region's plan, gone through. -/
import Derived.Test.YtfcjbkddkaeliaaGreatDoorEv2
import Derived.Laws.AppendOwn
import Derived.RangeFuncRecord
import Derived.OrdersIn
set_option linter.unusedVariables false
set_option linter.unusedSimpArgs false
noncomputable section
set_option maxHeartbeats 2000000
namespace Go.Ev
section
variable {P : Program} {nt : Nat} {s : S} {f : F}

theorem bytesV_ok (σ : Sg) : ∀ l : List UInt8, VRs σ (bytesV l.length (pk l)) (l.map fun b => .int .u8 (b.toNat : Nat))
  | [] => .nil
  | b :: l => by
    have h1 : (pk (b :: l)) % 256 = b.toNat := by rw [pk_cons]; have := b.toNat_lt; omega
    have h2 : (pk (b :: l)) / 256 = pk l := by rw [pk_cons]; have := b.toNat_lt; omega
    show VRs σ (.cons (.i 4 (Nat.mod (pk (b :: l)) 256)) (bytesV l.length (Nat.div (pk (b :: l)) 256))) _
    have e1 : Nat.mod (pk (b :: l)) 256 = b.toNat := h1
    have e2 : Nat.div (pk (b :: l)) 256 = pk l := h2
    rw [e1, e2]
    exact .cons (.i .u8 _) (bytesV_ok σ l)

/-- what is appended, in the world -/
def AddOK (P : Program) (σ : Sg) (w : World) (es n : Nat) (cs : V) (x : Value) : Prop :=
  (∀ w', (Builtin.lenOf x).run P w' = .ok n w') ∧ ∃ l : List Value, VRs σ cs l ∧ l.length = n * es ∧ ∀ w' : World, w'.heap = w.heap → (Builtin.firstCells es n x).run P w' = .ok l.toArray w'

theorem cell_heap {w w' : World} (h : w'.heap = w.heap) (a : Addr) : w'.cell? a = w.cell? a := by simp only [World.cell?, h]

theorem addendK_some {es : Nat} {h : H} {q : Nat → V → R} {x : V} {r : Res} (e : addendK es h q x = some r) :
    ∃ n cs, q n cs = some r ∧ ∀ σ w xv, HeapOK σ h.cl w → VR σ x xv → AddOK P σ w es n cs xv := by
  cases x <;> try (exact absurd e (by intro e; cases e))
  case s p l =>
    obtain ⟨h1, e1⟩ := bi_some.1 e
    have hes : es = 1 := Nat.eq_of_beq_eq_true h1
    refine ⟨l, _, e1, fun σ w xv ok hx => ?_⟩
    cases hx with | s b =>
    have hl : b.data.toList.length = b.size := Array.length_toList
    have h2 := bytesV_ok σ b.data.toList
    rw [hl] at h2
    refine ⟨fun w' => rfl, _, h2, by rw [List.length_map, hl, hes]; omega, fun w' _ => ?_⟩
    have : b.extract 0 b.size = b := by simp
    simp only [Builtin.firstCells, Sem.run_pure, this]
    congr 1
    apply Array.toList_inj.1
    rw [Array.toList_map]
  case z tag =>
    obtain ⟨h1, e1⟩ := bi_some.1 e
    have ht : tag = 1 := Nat.eq_of_beq_eq_true h1
    subst ht
    refine ⟨0, _, e1, fun σ w xv ok hx => ?_⟩
    cases hx
    exact ⟨fun w' => rfl, [], .nil, by simp, fun w' _ => rfl⟩
  case l id off n ee =>
    obtain ⟨h1, e1⟩ := bi_some.1 e
    have hee : ee = es := Nat.eq_of_beq_eq_true h1
    subst hee
    obtain ⟨m, l, e2, hg⟩ := atK_some e1
    obtain ⟨r1, e3, h3⟩ := dropK_some e2
    obtain ⟨r2, e4, h4⟩ := takeK_some e3
    refine ⟨n, r2, e4, fun σ w xv ok hx => ?_⟩
    cases hx with
    | @l0 _ _ _ b sz o hs hi =>
      have h4' := takeK_some e3
      obtain ⟨C, hC⟩ := ok.row hi hs hg
      obtain ⟨g1, g2⟩ := h3 σ _ hC.rel
      obtain ⟨g3, g4⟩ := h4 σ _ g2
      refine ⟨fun w' => rfl, _, g4, by rw [List.length_take]; show min (0 * ee) _ = 0 * ee; simp, fun w' _ => ?_⟩
      have : Nat.mul 0 ee = 0 := Nat.zero_mul ee
      rw [this, List.take_zero]
      simp [Builtin.firstCells, loadCells, loadCellsFrom]
    | @l _ _ _ _ b sz cap hs hi hc hfit =>
      obtain ⟨C, hC⟩ := ok.row hi hs hg
      obtain ⟨g1, g2⟩ := h3 σ _ hC.rel
      obtain ⟨g3, g4⟩ := h4 σ _ g2
      have hlen : (((C.toList.take m).drop off).take (n * ee)).length = n * ee := by rw [List.length_take]; exact Nat.min_eq_left g3
      refine ⟨fun w' => rfl, _, g4, hlen, fun w' hw => ?_⟩
      have hrun := run_loadCells_list (P := P) (w := w') ⟨b, off, none⟩ (((C.toList.take m).drop off).take (n * ee)) (fun j v hj => by
        rw [add_none, cell_heap hw, hC.cell]
        rw [List.getElem?_take] at hj
        split at hj
        · rw [List.getElem?_drop, List.getElem?_take] at hj
          split at hj
          · rw [Array.getElem?_toList] at hj; exact hj
          · cases hj
        · cases hj)
      rw [hlen] at hrun
      exact hrun

theorem growBy_le (n X : Nat) (hX : n + (n + 768) / 4 ≤ X) : ∀ (rounds c : Nat), c ≤ X → Builtin.growBy n rounds c ≤ X
  | 0, c, h => h
  | rounds + 1, c, h => by
    unfold Builtin.growBy
    split
    · exact h
    · exact growBy_le n X hX rounds _ (by omega)
theorem nextcap_le {n c : Nat} (h : c < n) : Builtin.nextslicecap n c ≤ 2 * n + 1000 := by
  unfold Builtin.nextslicecap
  split
  · omega
  · split
    · omega
    · exact growBy_le n _ (by omega) 4 c (by omega)

theorem fewT_spec {ty el : TypeId} (h : fewT P ty = true) (hu : P.underlying ty = some (.slice el)) : ∃ i, P.info? el = some i ∧ 1 ≤ i.bytes ∧ i.bytes ≤ 4096 := by
  unfold fewT at h
  cases hi : elemI P ty with
  | none => rw [hi] at h; cases h
  | some e =>
    have := elemI_spec hi
    rw [hu] at this
    cases this
    rw [hi] at h
    simp only at h
    split at h
    · rename_i i hi
      simp only [Bool.and_eq_true] at h
      exact ⟨i, hi, Nat.le_of_ble_eq_true h.1, Nat.le_of_ble_eq_true h.2⟩
    · cases h

theorem notInt_spec {t : TypeId} (h : notInt P t = true) : ∃ d, P.underlying t = some d ∧ ∀ k, d ≠ .int k := by
  unfold notInt at h
  cases hd : P.underlying t with
  | none => rw [hd] at h; cases h
  | some d =>
    rw [hd] at h
    refine ⟨d, rfl, fun k hk => ?_⟩
    subst hk
    cases h

theorem zeroOk_spec {ty el : TypeId} {es : Nat} (h : zeroOk P ty es = true) (hu : P.underlying ty = some (.slice el)) : ∃ zv : Value, (∀ w, (zeroValue el).run P w = .ok zv w) ∧ zv.cells.size = es := by
  unfold zeroOk at h
  split at h
  · rename_i z hz
    obtain ⟨el', hel', hz'⟩ := ob_some.1 hz
    have : el' = el := by have := elemI_spec hel'; rw [hu] at this; cases this; rfl
    subst this
    obtain ⟨zv, hz1, hz2⟩ := zeroT_run hz'
    refine ⟨zv, hz1, ?_⟩
    have hc : cntV z = es := Nat.eq_of_beq_eq_true h
    have hv := hz2 (fun _ => none)
    cases hv <;> exact hc
  · cases h


theorem slcK_some {es : Nat} {x : V} {k : R} {r : Res} (e : slcK es x k = some r) : k = some r ∧ ∀ σ v, VR σ x v → ∃ b n c, v = .slice b n c ∧ n ≤ c := by
  cases x <;> try (exact absurd e (by intro e; cases e))
  case z tag =>
    obtain ⟨h, e1⟩ := bi_some.1 e
    have : tag = 1 := Nat.eq_of_beq_eq_true h
    subst this
    exact ⟨e1, fun σ v h => by cases h; exact ⟨_, _, _, rfl, Nat.le_refl _⟩⟩
  case l id off n ee =>
    obtain ⟨h, e1⟩ := bi_some.1 e
    refine ⟨e1, fun σ v h => ?_⟩
    cases h with
    | l _ _ hc _ => exact ⟨_, _, _, rfl, hc⟩
    | l0 _ _ => exact ⟨_, _, _, rfl, Nat.le_refl _⟩

theorem app_nil {ty ty2 el rt : TypeId} {es : Nat} {base : Option Addr} {sLen sCap : Nat} {x : Value} {w : World} {d : TypeDesc}
    (hu : P.underlying ty = some (.slice el)) (hsz : ∀ w, (sizeOf el).run P w = .ok es w) (hd : P.underlying ty2 = some d) (hni : ∀ k, d ≠ .int k) (hx : ∀ w', (Builtin.lenOf x).run P w' = .ok 0 w')
    (hf : (Builtin.firstCells es 0 x).run P w = .ok #[] w) (hc : sLen ≤ sCap) : (Builtin.append_ #[ty, ty2] rt #[.slice base sLen sCap, x]).run P w = .ok (.slice base sLen sCap) w := by
  cases d <;> first
    | (exact absurd rfl (hni _))
    | (cases base <;> simp [Builtin.append_, run_underlying hu, run_underlying hd, hsz, hx, hf, hc, storeCells])

theorem app_in {ty ty2 el rt : TypeId} {es n : Nat} {b : Addr} {sLen sCap : Nat} {x : Value} {w w' : World} {d : TypeDesc} {new : List Value}
    (hu : P.underlying ty = some (.slice el)) (hsz : ∀ w, (sizeOf el).run P w = .ok es w) (hd : P.underlying ty2 = some d) (hni : ∀ k, d ≠ .int k) (hx : ∀ w', (Builtin.lenOf x).run P w' = .ok n w')
    (hf : (Builtin.firstCells es n x).run P w = .ok new.toArray w) (hc : sLen + n ≤ sCap) (hst : (storeCells (b.add (sLen * es)) new).run P w = .ok () w') :
    (Builtin.append_ #[ty, ty2] rt #[.slice (some b) sLen sCap, x]).run P w = .ok (.slice (some b) (sLen + n) sCap) w' := by
  cases d <;> first
    | (exact absurd rfl (hni _))
    | (simp [Builtin.append_, run_underlying hu, run_underlying hd, hsz, hx, hf, hc, hst])

theorem app_new {ty ty2 el rt : TypeId} {es n : Nat} {base : Option Addr} {sLen sCap : Nat} {x zv : Value} {w : World} {d : TypeDesc} {i : TypeInfo} {old new : List Value}
    (hu : P.underlying ty = some (.slice el)) (hsz : ∀ w, (sizeOf el).run P w = .ok es w) (hd : P.underlying ty2 = some d) (hni : ∀ k, d ≠ .int k) (hx : ∀ w', (Builtin.lenOf x).run P w' = .ok n w')
    (hi : P.info? el = some i) (h1 : 1 ≤ i.bytes) (hz : ∀ w, (zeroValue el).run P w = .ok zv w)
    (hold : (Builtin.firstCells es sLen (.slice base sLen sCap)).run P w.drew = .ok old.toArray w.drew)
    (hf : (Builtin.firstCells es n x).run P w.drew = .ok new.toArray w.drew) (hc : ¬ sLen + n ≤ sCap) (h63 : ((sLen + n : Nat) : Int) ≤ 9223372036854775807) (hfit : Builtin.nextslicecap (sLen + n) sCap * i.bytes ≤ 281474976710656) :
    (Builtin.append_ #[ty, ty2] rt #[.slice base sLen sCap, x]).run P w =
      .ok (.slice (some ⟨w.heap.size, 0, none⟩) (sLen + n) (grownCap w (sLen + n) sCap el)) (w.drew.alloc (.cells (old.toArray ++ new.toArray ++ Builtin.zeroCells zv.cells (grownCap w (sLen + n) sCap el - (sLen + n))) el)) := by
  have h63' : ¬ (9223372036854775807 < (sLen : Int) + (n : Int)) := by omega
  have h48' : ¬ (281474976710656 < Builtin.nextslicecap (sLen + n) sCap * i.bytes) := by omega
  have hb : ¬ i.bytes = 0 := by omega
  cases d <;> first
    | (exact absurd rfl (hni _))
    | (simp [Builtin.append_, run_underlying hu, run_underlying hd, hsz, hx, hf, hold, hc, typeInfo, hi, h63', h48', hb, hz, Question.forced, newRow, grownCap, ← List.append_toArray])


theorem drew_nil (h : H) {σ : Sg} {w : World} (ok : HeapOK σ h.cl w) : HeapOK σ h.cl w.drew := ok.of_heap rfl

/-- a new block, with what was there and what is appended -/
theorem grow_ok {ty ty2 rt : TypeId} {es el : Nat} {d : TypeDesc} {i : TypeInfo} {zv : Value} (hu : P.underlying ty = some (.slice el)) (hsz : ∀ w, (sizeOf el).run P w = .ok es w) (hd : P.underlying ty2 = some d) (hni : ∀ k, d ≠ .int k)
    (hi : P.info? el = some i) (h1 : 1 ≤ i.bytes) (h4 : i.bytes ≤ 4096) (hz : ∀ w, (zeroValue el).run P w = .ok zv w) (hzs : zv.cells.size = es)
    {h h' : H} {σ : Sg} {w : World} {base : Option Addr} {m n cap : Nat} {xv : Value} {O L : List Value} {bl : V} (ok : HeapOK σ h.cl w) (hf : σ h.nx = none) (h0 : h.nx < 65536) (hnx : h'.nx = h.nx + 1)
    (hcl : h'.cl = fun x => if x = h.nx then .cells ((m + n) * es) bl else h.cl x) (hrel : VRs σ bl (O ++ L)) (hO : O.length = m * es) (hL : L.length = n * es) (hc : ¬ m + n ≤ cap) (hlt : m + n < 1048576)
    (hfo : ∀ w' : World, w'.heap = w.heap → (Builtin.firstCells es m (.slice base m cap)).run P w' = .ok O.toArray w') (a1 : ∀ w', (Builtin.lenOf xv).run P w' = .ok n w') (a4 : ∀ w' : World, w'.heap = w.heap → (Builtin.firstCells es n xv).run P w' = .ok L.toArray w') :
    ∃ v' σ' w', (Builtin.append_ #[ty, ty2] rt #[.slice base m cap, xv]).run P w = .ok v' w' ∧ SExt σ h w σ' h' w' ∧ HeapOK σ' h'.cl w' ∧ VR σ' (.l h.nx 0 (m + n) es) v' := by
  have hge := grownCap_ge w (m + n) cap el
  have hcap : Builtin.nextslicecap (m + n) cap * i.bytes ≤ 281474976710656 := growslice_fits (by omega) (by
    have := Nat.mul_le_mul (show m + n ≤ 1048576 by omega) h4
    omega)
  have hrun := app_new (rt := rt) hu hsz hd hni a1 hi h1 hz (hfo w.drew rfl) (a4 w.drew rfl) hc (by omega) hcap
  have hzc := size_zeroCells zv.cells (grownCap w (m + n) cap el - (m + n))
  rw [hzs] at hzc
  generalize hg : grownCap w (m + n) cap el = g at hrun hge hzc
  have hsize : (O.toArray ++ L.toArray ++ Builtin.zeroCells zv.cells (g - (m + n))).size = g * es := by
    rw [Array.size_append, Array.size_append, List.size_toArray, List.size_toArray, hzc, hO, hL]
    rw [← Nat.add_mul, ← Nat.add_mul]
    congr 1; omega
  have hOL : (O ++ L).length = (m + n) * es := by rw [List.length_append, hO, hL, Nat.add_mul]
  have hnew := HeapOK.new (h' := h') (b := .cells ((m + n) * es) bl) (o := .cells (O.toArray ++ L.toArray ++ Builtin.zeroCells zv.cells (g - (m + n))) el (0, 0)) (sz := g * es) (ok.of_heap (w' := w.drew) rfl) hf hnx hcl ⟨_, _, _, rfl, hsize, Nat.mul_le_mul_right _ (by omega), by
    have : ((O.toArray ++ L.toArray ++ Builtin.zeroCells zv.cells (g - (m + n))).toList).take ((m + n) * es) = O ++ L := by
      rw [Array.toList_append, Array.toList_append, List.take_append_of_le_length (by rw [hOL]; exact Nat.le_refl _)]
      exact List.take_of_length_le (by rw [hOL]; exact Nat.le_refl _)
    rw [this]
    exact hrel.mono (newSg_up hf), fun j _ hj => by omega⟩
  exact ⟨_, _, _, hrun, ⟨⟨hnew.2.up, hnew.2.size, hnew.2.keep, hnew.2.own, hnew.2.tabs, ⟨hnew.2.same.os, hnew.2.same.tape, hnew.2.same.output⟩, hnew.2.tabk⟩, hnew.2.nx, hnew.2.out⟩, hnew.1, .l (newSg_at _ _ _ _) h0 hge (by rw [Nat.zero_add]; exact Nat.le_refl _)⟩

theorem appV_ok {σ : Sg} {x y : V} {a b : List Value} (h : VRs σ x a) (g : VRs σ y b) : VRs σ (appV y x) (a ++ b) := by
  induction a generalizing x with
  | nil => cases h; exact g
  | cons v l ih => cases h with | cons h1 h2 => exact .cons h1 (ih h2)

theorem trimK_some {q want : Nat} {l : V} {k : KV} {r : Res} (e : trimK q want l k = some r) : ∃ x, k x = some r ∧ ∀ σ (C : List Value), q ≤ C.length → VRs σ l (C.take q) → want ≤ C.length ∧ VRs σ x (C.take want) := by
  unfold trimK at e
  cases hb : Nat.beq q want with
  | true =>
    rw [hb] at e
    obtain rfl := Nat.eq_of_beq_eq_true hb
    exact ⟨l, e, fun σ C h1 h2 => ⟨h1, h2⟩⟩
  | false =>
    rw [hb] at e
    obtain ⟨x, e1, h⟩ := takeK_some e
    refine ⟨x, e1, fun σ C h1 h2 => ?_⟩
    obtain ⟨g1, g2⟩ := h σ _ h2
    rw [List.length_take] at g1
    rw [List.take_take, Nat.min_eq_left (by omega)] at g2
    exact ⟨by omega, g2⟩

/-- 'append' -/
theorem append_ok {ty ty2 : TypeId} {es el : Nat} {d : TypeDesc} {i : TypeInfo} {zv : Value} (hu : P.underlying ty = some (.slice el)) (hsz : ∀ w, (sizeOf el).run P w = .ok es w) (hd : P.underlying ty2 = some d) (hni : ∀ k, d ≠ .int k)
    (hi : P.info? el = some i) (h1 : 1 ≤ i.bytes) (h4 : i.bytes ≤ 4096) (hz : ∀ w, (zeroValue el).run P w = .ok zv w) (hzs : zv.cells.size = es)
    {h : H} {s x : V} {k : KH} {r : Res} (e : appK es h s x k = some r) : ∃ v h', k v h' = some r ∧ h.nx ≤ h'.nx ∧
    ∀ (rt : TypeId) σ w sv xv, HeapOK σ h.cl w → Fr σ h.nx h'.nx → VR σ s sv → VR σ x xv → ∃ v' σ' w', (Builtin.append_ #[ty, ty2] rt #[sv, xv]).run P w = .ok v' w' ∧ SExt σ h w σ' h' w' ∧ HeapOK σ' h'.cl w' ∧ VR σ' v v' := by
  obtain ⟨n, cs, e1, hadd⟩ := addendK_some e
  cases hn : Nat.beq n 0 with
  | true =>
    have hn0 : n = 0 := Nat.eq_of_beq_eq_true hn
    subst hn0
    have e2 : slcK es s (k s h) = some r := e1
    obtain ⟨e3, hs⟩ := slcK_some e2
    refine ⟨s, h, e3, Nat.le_refl _, fun rt σ w sv xv ok fr hsv hxv => ?_⟩
    obtain ⟨a1, l, a2, a3, a4⟩ := hadd σ w xv ok hxv
    obtain ⟨b, m, c, rfl, hc⟩ := hs σ _ hsv
    have hl : l = [] := List.length_eq_zero_iff.1 (by rw [a3]; simp)
    subst hl
    exact ⟨_, σ, w, app_nil hu hsz hd hni a1 (a4 w rfl) hc, SExt.refl _ _ _, ok, hsv⟩
  | false =>
    have hnp : n ≠ 0 := fun e => by rw [e] at hn; cases hn
    have e2 : bi (ones cs) (appTo h k es n cs s) = some r := by
      have : (Nat.beq n 0).rec (motive := fun _ => R) (bi (ones cs) (appTo h k es n cs s)) (slcK es s (k s h)) = some r := e1
      rw [hn] at this; exact this
    obtain ⟨hones, e3⟩ := bi_some.1 e2
    cases s <;> try (exact absurd e3 (by intro e; cases e))
    case z tag =>
      obtain ⟨ht, e4⟩ := bi_some.1 e3
      have htag : tag = 1 := Nat.eq_of_beq_eq_true ht
      subst htag
      obtain ⟨hlt, e5⟩ := bi_some.1 e4
      have hlt : n < 1048576 := blt_lt hlt
      rw [force_eq] at e5
      obtain ⟨h0, h', e6, hnx, hcl⟩ := H.new_some e5
      refine ⟨_, h', e6, by omega, fun rt σ w sv xv ok fr hsv hxv => ?_⟩
      obtain ⟨a1, l, a2, a3, a4⟩ := hadd σ w xv ok hxv
      cases hsv
      have := grow_ok (rt := rt) (m := 0) (cap := 0) (base := none) (O := []) (L := l) (bl := cs) hu hsz hd hni hi h1 h4 hz hzs ok (fr h.nx (Nat.le_refl _) (by omega)) h0 hnx (by rw [Nat.zero_add]; exact hcl) a2 (by simp) a3 (by omega) (by omega)
        (fun w' _ => run_firstCells_none _ _ _ _ _) a1 a4
      rwa [Nat.zero_add] at this
    case l id off m ee =>
      obtain ⟨hee, e4⟩ := bi_some.1 e3
      have hee : ee = es := Nat.eq_of_beq_eq_true hee
      subst hee
      obtain ⟨hoff, e5⟩ := bi_some.1 e4
      have hoff : off = 0 := Nat.eq_of_beq_eq_true hoff
      subst hoff
      obtain ⟨q, bl0, e6, hg⟩ := rowK_some e5
      obtain ⟨bl, e7, htrim⟩ := trimK_some e6
      rw [force_eq] at e7
      obtain ⟨hlt, e8⟩ := bi_some.1 e7
      have hlt : m + n < 1048576 := blt_lt hlt
      rw [force_eq] at e8
      obtain ⟨h0, h', e9, hnx, hcl⟩ := H.new_some e8
      rw [H.nx_set] at h0 hnx hcl e9
      refine ⟨_, h', e9, by omega, fun rt σ w sv xv ok fr hsv hxv => ?_⟩
      obtain ⟨a1, l, a2, a3, a4⟩ := hadd σ w xv ok hxv
      have hfree := fr h.nx (Nat.le_refl _) (by omega)
      have hgrow : ∀ {b o cap sz : Nat}, σ id = some (b, sz) → id < 65536 → (m = 0 ∨ o = 0) → ¬ m + n ≤ cap → ∃ v' σ' w', (Builtin.append_ #[ty, ty2] rt #[.slice (some ⟨b, o, none⟩) m cap, xv]).run P w = .ok v' w' ∧ SExt σ h w σ' h' w' ∧ HeapOK σ' h'.cl w' ∧ VR σ' (.l h.nx 0 (m + n) ee) v' := by
        intro b o cap sz hs hi2 ho hc
        obtain ⟨C, el', frz, hC, hCs, hm0, hrel0, hnf⟩ := ok.rowW hi2 hs hg
        obtain ⟨hm, hrel⟩ := htrim σ C.toList (by rw [Array.length_toList, hCs]; exact hm0) hrel0
        have hm : m * ee ≤ sz := by rw [Array.length_toList, hCs] at hm; exact hm
        obtain ⟨hd1, htab⟩ := not_tab hi2 hg
        obtain ⟨ok2, ext2⟩ := ok.kill (w' := w) hi2 htab rfl (Same.refl _)
        have hCl : C.toList.length = C.size := Array.length_toList
        have hOl : (C.toList.take (m * ee)).length = m * ee := by rw [List.length_take, hCl, hCs]; omega
        obtain ⟨v', σ', w', r1, r2, r3, r4⟩ := grow_ok (rt := rt) (h := h.set id .dead) (h' := h') (base := some ⟨b, o, none⟩) (m := m) (n := n) (cap := cap) (O := C.toList.take (m * ee)) (L := l) (bl := appV cs bl) hu hsz hd hni hi h1 h4 hz hzs ok2 (by rw [H.nx_set]; exact hfree) (by rw [H.nx_set]; exact h0)
          (by rw [H.nx_set]; exact hnx) (by rw [H.nx_set]; exact hcl) (appV_ok hrel a2) hOl a3 hc hlt (fun w' hw => by
            have hcell : ∀ j v, (C.toList.take (m * ee))[j]? = some v → w'.cell? (Addr.add ⟨b, o, none⟩ j) = some v := fun j v hj => by
              have hjl : j < (C.toList.take (m * ee)).length := by
                rcases Nat.lt_or_ge j (C.toList.take (m * ee)).length with hh | hh
                · exact hh
                · rw [List.getElem?_eq_none hh] at hj; cases hj
              have ho : o = 0 := by
                rcases ho with rfl | ho
                · rw [hOl] at hjl; simp at hjl
                · exact ho
              subst ho
              rw [add_none, cell_heap hw]
              rw [List.getElem?_take] at hj
              split at hj
              · rw [Array.getElem?_toList] at hj
                simp only [World.cell?, hC, Nat.zero_add]; exact hj
              · cases hj
            exact run_firstCells_some w' ee m ⟨b, o, none⟩ m cap _ hOl hcell) a1 a4
        rw [H.nx_set] at r4
        exact ⟨v', σ', w', r1, ext2.trans r2, r3, r4⟩
      cases hsv with
      | @l0 _ _ _ b sz o hs hi2 => exact hgrow (o := o) (cap := 0) hs hi2 (.inl rfl) (by omega)
      | @l _ _ _ _ b sz cap hs hi2 hcm hfit =>
        by_cases hc : m + n ≤ cap
        · obtain ⟨C, el', frz, hC, hCs, hm0, hrel0, hnf⟩ := ok.rowW hi2 hs hg
          obtain ⟨hm, hrel⟩ := htrim σ C.toList (by rw [Array.length_toList, hCs]; exact hm0) hrel0
          have hm : m * ee ≤ sz := by rw [Array.length_toList, hCs] at hm; exact hm
          obtain ⟨hd1, htab⟩ := not_tab hi2 hg
          have hmul : (m + n) * ee ≤ cap * ee := Nat.mul_le_mul_right _ hc
          rw [Nat.add_mul] at hmul
          obtain ⟨w', D, r1, r2, r3, r4, r5, r6⟩ := store_run (P := P) (b := b) (off := m * ee) l 0 w C el' frz hC (by rw [a3, hCs]; omega) (by rw [hCs]; exact hnf) (ones_ok hones a2)
          have hbk : BOK (newSg σ h.nx b sz) (.cells ((m + n) * ee) (appV cs bl)) sz (.cells D el' frz) := by
            refine ⟨D, el', frz, rfl, by rw [r5, hCs], by rw [Nat.add_mul]; omega, ?_, hnf⟩
            have hCl : C.toList.length = C.size := Array.length_toList
            have : D.toList.take ((m + n) * ee) = C.toList.take (m * ee) ++ l := by
              rw [r4, ← List.append_assoc, Nat.add_zero]
              have hlen : (C.toList.take (m * ee) ++ l).length = (m + n) * ee := by rw [List.length_append, List.length_take, hCl, hCs, a3, Nat.add_mul]; omega
              rw [List.take_append_of_le_length (by rw [hlen]; exact Nat.le_refl _)]
              exact List.take_of_length_le (by rw [hlen]; exact Nat.le_refl _)
            rw [this]
            exact (appV_ok hrel a2).mono (newSg_up hfree)
          obtain ⟨ok', ext⟩ := ok.move hi2 hs hd1 htab hfree hnx hcl r2 r3 hbk r6
          refine ⟨_, _, _, app_in hu hsz hd hni a1 (a4 w rfl) hc (by rw [add_none, Nat.zero_add]; exact r1), ext, ok', .l (newSg_at _ _ _ _) h0 hc hfit⟩
        · exact hgrow (o := 0) hs hi2 (.inr rfl) hc

/-! ### zeros behind a nil slice -/
theorem intT_spec {t : TypeId} (h : intT P t = true) : ∃ k, P.underlying t = some (.int k) := by
  unfold intT at h
  split at h
  · exact ⟨_, by assumption⟩
  · cases h
theorem rep_zero {σ : Sg} {zc : V} {zv : Value} {es n : Nat} (z1 : zv.cells.size = es) (z2 : VRs σ zc zv.cells.toList) : VRs σ (rep zc n) (Builtin.zeroCells zv.cells n).toList := by
  have h1 := rep_rel z2 n
  rw [Array.length_toList, z1] at h1
  by_cases hb : n * es = 0
  · unfold Builtin.zeroCells
    rw [z1, hb]
    rw [hb] at h1
    simpa using h1
  · have : (Builtin.zeroCells zv.cells n).toList = (List.range (n * es)).map fun i => zv.cells.toList.getD (i % es) undef := by
      unfold Builtin.zeroCells
      rw [z1, Array.toList_map, Array.toList_range]
      apply List.map_congr_left
      intro j hj
      have hes0 : 0 < es := by rcases Nat.eq_zero_or_pos es with h | h; (· subst h; simp at hb); exact h
      have hlt : j % es < zv.cells.size := by rw [z1]; exact Nat.mod_lt _ hes0
      rw [List.getD_eq_getElem?_getD, Array.getElem?_toList, Array.getElem?_eq_getElem hlt]
      simp [hlt]
    rw [this]; exact h1
theorem zeroCells_nil {z : Array Value} {n : Nat} (h : n * z.size = 0) : Builtin.zeroCells z n = #[] := by unfold Builtin.zeroCells; rw [h]; simp
theorem app_newZ {ty ty2 el rt : TypeId} {es n : Nat} {kx k : IntKind} {zv : Value} {w : World} {i : TypeInfo}
    (hu : P.underlying ty = some (.slice el)) (hsz : ∀ w, (sizeOf el).run P w = .ok es w) (hd : P.underlying ty2 = some (.int k)) (hi : P.info? el = some i) (h1 : 1 ≤ i.bytes) (h4 : i.bytes ≤ 4096) (hz : ∀ w, (zeroValue el).run P w = .ok zv w) (hzs : zv.cells.size = es) (hn : 0 < n) (hlt : n < 65536) :
    (Builtin.append_ #[ty, ty2] rt #[.slice none 0 0, .int kx (Int.ofNat n)]).run P w =
      .ok (.slice (some ⟨w.heap.size, 0, none⟩) n (grownCap w n 0 el)) (w.drew.alloc (.cells (Builtin.zeroCells zv.cells n ++ Builtin.zeroCells zv.cells (grownCap w n 0 el - n)) el)) := by
  have hw : IntKind.i64.wrap (Int.ofNat n) = Int.ofNat n := wrap_pos (k := .i64) (by rw [top_eq]; show n < 9223372036854775808; omega)
  have hcap : Builtin.nextslicecap n 0 * i.bytes ≤ 281474976710656 := growslice_fits (by omega) (by
    have := Nat.mul_le_mul (show n ≤ 1048576 by omega) h4
    omega)
  have hcap' : ¬ (281474976710656 < Builtin.nextslicecap n 0 * i.bytes) := by omega
  have hb : ¬ i.bytes = 0 := by omega
  have t1 : ¬ ((n : Int) < 0) := by omega
  have t2 : ¬ (281474976710656 < (n : Int) * (i.bytes : Int)) := by
    have h1 : (n * i.bytes : Nat) ≤ 65536 * 4096 := Nat.mul_le_mul (by omega) h4
    have h2 : (n : Int) * (i.bytes : Int) = ((n * i.bytes : Nat) : Int) := by simp
    rw [h2]; omega
  have t3 : ¬ (9223372036854775807 < (n : Int)) := by omega
  have t4 : ¬ n = 0 := by omega
  have hw' : IntKind.i64.wrap (n : Int) = (n : Int) := hw
  by_cases hz0 : n * es = 0
  · have hze : Builtin.zeroCells zv.cells n = #[] := zeroCells_nil (by rw [hzs]; exact hz0)
    have hes : es = 0 := by rcases Nat.mul_eq_zero.1 hz0 with h | h <;> omega
    rw [hze]
    simp [Builtin.append_, run_underlying hu, run_underlying hd, hsz, asInt, asIntOf, hw', typeInfo, hi, t1, t2, t3, t4, hcap', hb, hz, hz0, hes, Question.forced, newRow, grownCap, Builtin.firstCells]
  · have hes : ¬ es = 0 := fun e => hz0 (by rw [e]; rfl)
    simp [Builtin.append_, run_underlying hu, run_underlying hd, hsz, asInt, asIntOf, hw', typeInfo, hi, t1, t2, t3, t4, hcap', hb, hz, hz0, hes, Question.forced, newRow, grownCap, Builtin.firstCells]
theorem appZ_ok {ty ty2 : TypeId} {es el : Nat} {i : TypeInfo} {zv : Value} {z : V} {kk : IntKind} (hu : P.underlying ty = some (.slice el)) (hsz : ∀ w, (sizeOf el).run P w = .ok es w) (hd : P.underlying ty2 = some (.int kk))
    (hi : P.info? el = some i) (h1 : 1 ≤ i.bytes) (h4 : i.bytes ≤ 4096) (hz : ∀ w, (zeroValue el).run P w = .ok zv w) (hzv : ∀ σ, VR σ z zv)
    {h : H} {s x : V} {k : KH} {r : Res} (e : appZ es z h s x k = some r) : ∃ v h', k v h' = some r ∧ h.nx ≤ h'.nx ∧
    ∀ (rt : TypeId) σ w sv xv, HeapOK σ h.cl w → Fr σ h.nx h'.nx → VR σ s sv → VR σ x xv → ∃ v' σ' w', (Builtin.append_ #[ty, ty2] rt #[sv, xv]).run P w = .ok v' w' ∧ SExt σ h w σ' h' w' ∧ HeapOK σ' h'.cl w' ∧ VR σ' v v' := by
  cases s <;> try (exact absurd e (by intro e; cases e))
  case z tag =>
    obtain ⟨ht, e1⟩ := bi_some.1 e
    have htag : tag = 1 := Nat.eq_of_beq_eq_true ht
    subst htag
    obtain ⟨c1, n, rfl, e2⟩ := numK_some e1
    obtain ⟨hn, e3⟩ := bi_some.1 e2
    have hn : 0 < n := blt_lt hn
    obtain ⟨hlt, e4⟩ := bi_some.1 e3
    have hlt : n < 65536 := blt_lt hlt
    obtain ⟨zn, zc, e5, hzc⟩ := cellsK_some e4
    obtain ⟨hzn, e6⟩ := bi_some.1 e5
    have hzn : zn = es := Nat.eq_of_beq_eq_true hzn
    subst hzn
    rw [force_eq] at e6
    obtain ⟨h0, h', e7, hnx, hcl⟩ := H.new_some e6
    refine ⟨_, h', e7, by omega, fun rt σ w sv xv ok fr hsv hxv => ?_⟩
    cases hsv
    obtain ⟨kx, _, rfl⟩ := hxv.int_i
    obtain ⟨z1, z2, _⟩ := hzc σ zv (hzv σ)
    have hf := fr h.nx (Nat.le_refl _) (Nat.zero_le _)
    have hrun := app_newZ (P := P) (rt := rt) (kx := kx) (w := w) hu hsz hd hi h1 h4 hz z1 hn hlt
    have hge := grownCap_ge w n 0 el
    generalize hg : grownCap w n 0 el = g at hrun hge
    have hs1 : (Builtin.zeroCells zv.cells n).size = n * zn := by rw [size_zeroCells, z1]
    have hs2 : (Builtin.zeroCells zv.cells (g - n)).size = (g - n) * zn := by rw [size_zeroCells, z1]
    have hsize : (Builtin.zeroCells zv.cells n ++ Builtin.zeroCells zv.cells (g - n)).size = g * zn := by
      rw [Array.size_append, hs1, hs2, ← Nat.add_mul]
      congr 1; omega
    have hnew := HeapOK.new (h' := h') (b := .cells (Nat.mul n zn) (rep zc n)) (o := .cells (Builtin.zeroCells zv.cells n ++ Builtin.zeroCells zv.cells (g - n)) el (0, 0)) (sz := g * zn) (ok.of_heap (w' := w.drew) rfl) hf hnx hcl ⟨_, _, _, rfl, hsize, Nat.mul_le_mul_right _ hge, by
      have : ((Builtin.zeroCells zv.cells n ++ Builtin.zeroCells zv.cells (g - n)).toList).take (Nat.mul n zn) = (Builtin.zeroCells zv.cells n).toList := by
        have hl : (Builtin.zeroCells zv.cells n).toList.length = n * zn := by rw [Array.length_toList, hs1]
        rw [Array.toList_append, List.take_append_of_le_length (by rw [hl]; exact Nat.le_refl _)]
        exact List.take_of_length_le (by rw [hl]; exact Nat.le_refl _)
      rw [this]
      exact (rep_zero z1 z2).mono (newSg_up hf), fun j _ hj => by omega⟩
    exact ⟨_, _, _, hrun, ⟨⟨hnew.2.up, hnew.2.size, hnew.2.keep, hnew.2.own, hnew.2.tabs, ⟨hnew.2.same.os, hnew.2.same.tape, hnew.2.same.output⟩, hnew.2.tabk⟩, hnew.2.nx, hnew.2.out⟩, hnew.1, .l (newSg_at _ _ _ _) h0 hge (by rw [Nat.zero_add]; exact Nat.le_refl _)⟩

end
end Go.Ev
namespace Go.Ev

/-- the heap that pure calls start with: tables alone -/
structure HpOK (P : Program) (hp : H) : Prop where
  tab : ∀ id, hp.cl id ≠ .dead → ∃ n l, hp.cl id = .tab n l
  glob : P.globals.size ≤ hp.nx
  lt : ∀ id, hp.cl id ≠ .dead → id < hp.nx

structure St (P : Program) (hp : H) (σ : Sg) (h : H) (w : World) : Prop where
  ctx : Ctx P σ
  ok : HeapOK σ h.cl w
  tabs : ∀ id n l, hp.cl id = .tab n l → h.cl id = .tab n l
  nx : hp.nx ≤ h.nx

theorem St.next {P : Program} {hp : H} {σ τ : Sg} {h h' : H} {w w' : World} (s : St P hp σ h w) (e : SExt σ h w τ h' w') (ok : HeapOK τ h'.cl w') : St P hp τ h' w' :=
  ⟨s.ctx.mono e.up, ok, fun id n l g => e.tabs _ _ _ (s.tabs id n l g), Nat.le_trans s.nx e.nx⟩
theorem Fr.tail {σ τ : Sg} {h h' : H} {w w' : World} {m : Nat} (e : SExt σ h w τ h' w') (f : Fr σ h.nx m) : Fr τ h'.nx m := fun id h1 h2 => by
  rw [e.out id (by have := e.nx; omega)]
  exact f id (Nat.le_trans e.nx h1) h2
theorem Fr.head {σ : Sg} {a b c : Nat} (f : Fr σ a c) (h : b ≤ c) : Fr σ a b := fun id h1 h2 => f id h1 (Nat.zero_le _)

/-- the fence: everything, in this round -/
def Fx (l : Option Nat) : Fence := { Fence.wide with round := l }

/-- how a call ends -/
def EndOK (σ : Sg) (h : H) (w : World) (x : V) (h' : H) (e : Ending) (w' : World) : Prop := ∃ v σ', e = .returned v ∧ SExt σ h w σ' h' w' ∧ HeapOK σ' h'.cl w' ∧ VR σ' x v
/-- a function that runs as it is -/
def RunsFn (P : Program) (f : FuncId) : Prop := ∃ fn, P.funcs[f]? = some fn ∧ fn.body.isNone = false ∧ (fn.name == "runtime.NumGoroutine") = false
theorem RunsFn.call {P : Program} {f : FuncId} (h : RunsFn P f) (args : Array Value) (w : World) : (callFunc f args).run P w = .ok (.enter f args) w := by
  obtain ⟨fn, h1, h2, h3⟩ := h
  simp only [callFunc, Sem.run_bind, run_program, Result.andThen_ok, h1, h2, h3, Sem.run_pure, Bool.false_eq_true, if_false]

/-- a world that has grown: nothing that lay there is turned -/
structure Grown (w w' : World) : Prop where
  size : w.heap.size ≤ w'.heap.size
  old : ∀ b, b < w.heap.size → w'.heap[b]? = w.heap[b]?
  same : Same w w'
/-- how a harmless call ends that was put off -/
def BenEnd (w : World) (e : Ending) (u : FrameMode) (w' : World) : Prop := (∃ v, e = .returned v) ∧ u = .returning ∧ Grown w w'
/-- a call put off that turns nothing -/
def BenD (P : Program) (d : Deferred) : Prop := ∃ fv cap f args, d.target = .fn fv cap ∧ (∀ w, (invoke d.target d.args).run P w = .ok (.enter f args) w) ∧ ∀ w, CallsDIn Fence.wide 0 P f args .returning w (BenEnd w)
/-- the calls put off: marks, in nobody else's blocks; harmless ones -/
structure MK (P : Program) (n0 : Nat) (σ : Sg) (c : Cm) (w : World) (ms : List Deferred) : Prop where
  each : ∀ d, d ∈ ms → (∃ r, d.target = .collected r ∧ n0 ≤ r ∧ w.heap[r]? = some (.deferred (some [])) ∧ ∀ id sz, c id ≠ .dead → σ id ≠ some (r, sz)) ∨ BenD P d
  apart : ms.Pairwise fun d d' => ∀ r r', d.target = .collected r → d'.target = .collected r' → r ≠ r'
theorem MK.nil (P : Program) (n0 : Nat) (σ : Sg) (c : Cm) (w : World) : MK P n0 σ c w [] := ⟨fun _ h => (by cases h), .nil⟩
theorem MK.next {P : Program} {n0 : Nat} {σ τ : Sg} {h h' : H} {w w' : World} {ms : List Deferred} (m : MK P n0 σ h.cl w ms) (e : SExt σ h w τ h' w') : MK P n0 τ h'.cl w' ms := by
  refine ⟨fun d hd => ?_, m.apart⟩
  rcases m.each d hd with ⟨r, h1, h2, h3, h4⟩ | hben
  case inr => exact .inr hben
  refine .inl ?_
  have hlt : r < w.heap.size := (Array.getElem?_eq_some_iff.1 h3).1
  refine ⟨r, h1, h2, by rw [e.keep r hlt h4]; exact h3, fun id sz hc hs => ?_⟩
  obtain ⟨i, z, g1, g2⟩ := e.own id r sz hc hs hlt
  exact h4 i z g1 g2

/-- how code ends -/
def PostOK (P : Program) (σ : Sg) (h : H) (w : World) (nt n0 : Nat) (r : Res) (e : Exit) (a' : Act) (w' : World) : Prop :=
  ∃ t' h' σ', (r = .nor t' h' ∧ e = .normal ∨ r = .ret t' h' ∧ e = .ret ∨ ∃ id, r = .exit id t' h' ∧ e = .exit id) ∧ SExt σ h w σ' h' w' ∧ HeapOK σ' h'.cl w' ∧ TR σ' nt t' a'.tmps ∧ MK P n0 σ' h'.cl w' a'.defers

/-- a loop, a round ahead -/
def LoopW (F : Fence) (n : Nat) (P : Program) (c : Code) (Q : Exit → Act → World → Prop) (a : Act) (w : World) : Prop :=
  ∀ (b : Frame) (k : List Item) (cs : List Frame), b.roundOf = F.round → F.fn b.fn → F.room (cs.length + 1 + n) →
    ∃ e a' w', Q e a' w' ∧ ArrivesIn (Machine.fenced P F) P (lone (b.atR a (.code c :: .inLoop c :: k)) cs w) b k cs e a' w'

def wpX (l : Option Nat) (P : Program) (c : Code) (Q : Exit → Act → World → Prop) (a : Act) (w : World) : Prop := c.wpIn (Fx l) 0 P Q a w ∧ ∀ c0, c = .loop c0 → LoopW (Fx l) 0 P c0 Q a w

def resOK (r : Res) (t' : T) (h' : H) : Prop := r = .nor t' h' ∨ r = .ret t' h' ∨ ∃ id, r = .exit id t' h'

/-- what is known of code whose end is told -/
def CodeG (P : Program) (hp : H) (rnd : Bool) (nt : Nat) (c : Code) (t : T) (h : H) (r : Res) : Prop := ∃ t' h', resOK r t' h' ∧ h.nx ≤ h'.nx ∧
  ∀ σ l a w n0, rnd = l.isSome → St P hp σ h w → Fr σ h.nx h'.nx → TR σ nt t a.tmps → MK P n0 σ h.cl w a.defers → n0 ≤ w.heap.size → wpX l P c (PostOK P σ h w nt n0 r) a w

structure IHOK (P : Program) (hp : H) (ih : IH) : Prop where
  call : ∀ f args h r, ih (.call f args h) = some r → ∃ x h', r = .val x h' ∧ h.nx ≤ h'.nx ∧ RunsFn P f ∧ ∀ σ w vs, St P hp σ h w → Fr σ h.nx h'.nx → VRs σ args vs.toList → CallsIn Fence.wide 0 P f vs w (EndOK σ h w x h')
  code : ∀ rnd nt c t h r, ih (.code rnd nt c t h) = some r → CodeG P hp rnd nt c t h r

/-- one operation, whatever it is -/
def LoudF (P : Program) (hp : H) (nt : Nat) (op : Op) (s : S) (f : F) : Prop := ∀ ih, IHOK P hp ih → ∀ t h k r, f ih t h k = some r → ∃ v h', k (s v t) h' = some r ∧ h.nx ≤ h'.nx ∧
  ∀ σ l a w, St P hp σ h w → TR σ nt t a.tmps → Fr σ h.nx h'.nx → ∀ (dst : Option Tmp) (ty : TypeId) (pos : String) (after : Array Edge) (gd : Option (Nat × Bool)) (K : Act → World → Prop) (Q : Exit → Act → World → Prop),
    (∀ v' w' σ', SExt σ h w σ' h' w' → HeapOK σ' h'.cl w' → VR σ' v v' → K (a.put dst v') w') → Oper.wpIn (Fx l) 0 P ⟨dst, op, ty, pos, after, gd⟩ a w K Q

section
variable {P : Program} {hp : H} {nt : Nat} {s : S} {f : F}
theorem LoudF.dead {op : Op} (h : Dead f) : LoudF P hp nt op s f := fun ih _ t hh k r e => by rw [h] at e; cases e

theorem HeapF.loud {op : Op} (hd : ∀ c, op ≠ .defer c) (h : HeapF P nt op s f) : LoudF P hp nt op s f := fun ih _ t hh k r e => by
  obtain ⟨v, h', h1, h2, h3⟩ := h ih t hh k r e
  refine ⟨v, h', h1, h2, fun σ l a w st ht fr dst ty pos after gd K Q hk => ⟨fun _ _ => trivial, ?_⟩⟩
  obtain ⟨v', σ', w', nxt, r1, r2, r3, r4, r5⟩ := h3 σ a w st.ctx ht st.ok fr dst ty pos after gd
  rw [Oper.semAt_eq _ _ _ hd, r1]
  have := hk v' w' σ' r3 r4 r5
  rcases r2 with rfl | ⟨rfl, rfl⟩
  · exact this
  · exact this

/-! ### 'append' as an operation -/
theorem oAppend_ok {x y : Operand} {tys : Array TypeId} (e : cBuiltin .append [x, y] tys.toList P nt s = .mk f) : HeapF P nt (.call ⟨.builtin .append, #[x, y], tys⟩) s f := by
  obtain ⟨tl⟩ := tys
  match tl, e with
  | [], e => exact HeapF.dead (dead_of e)
  | [_], e => exact HeapF.dead (dead_of e)
  | _ :: _ :: _ :: _, e => exact HeapF.dead (dead_of e)
  | [ty, ty2], e =>
    rcases bcl_inv e with h | ⟨hfew, e1⟩
    · exact HeapF.dead h
    cases hint : intT P ty2 with
    | false =>
      rw [hint] at e1
      rcases bcl_inv e1 with h | ⟨hni, e2⟩
      · exact HeapF.dead h
      rcases ocl_inv e2 with h | ⟨es, hes, e3⟩
      · exact HeapF.dead h
      rcases bcl_inv e3 with h | ⟨hzo, e4⟩
      · exact HeapF.dead h
      rcases cO_inv e4 with h | ⟨gx, hgx, e5⟩
      · exact HeapF.dead h
      rcases cO_inv e5 with h | ⟨gy, hgy, e6⟩
      · exact HeapF.dead h
      cases e6
      intro ih t h k r er
      obtain ⟨el, hu, hsz⟩ := elemT_spec hes
      obtain ⟨i, hi, h1, h4⟩ := fewT_spec hfew hu
      obtain ⟨d, hd, hnd⟩ := notInt_spec hni
      obtain ⟨zv, hz, hzs⟩ := zeroOk_spec hzo hu
      obtain ⟨v, h', e7, hnx, hrun⟩ := append_ok hu (sizeT_run hsz) hd hnd hi h1 h4 hz hzs er
      refine ⟨v, h', e7, hnx, fun σ a w cx ht ok fr dst ty' pos after gd => ?_⟩
      obtain ⟨v', σ', w', r1, r2, r3, r4⟩ := hrun ty' σ w (a.eval x) (a.eval y) ok fr (hgx σ t a cx ht) (hgy σ t a cx ht)
      refine ⟨v', σ', w', .value v', ?_, .inl rfl, r2, r3, r4⟩
      simp [execOp, resolve, invoke, builtin, r1]
    | true =>
      rw [hint] at e1
      rcases ocl_inv e1 with h | ⟨es, hes, e2⟩
      · exact HeapF.dead h
      rcases ocl_inv e2 with h | ⟨z, hzz, e4⟩
      · exact HeapF.dead h
      rcases cO_inv e4 with h | ⟨gx, hgx, e5⟩
      · exact HeapF.dead h
      rcases cO_inv e5 with h | ⟨gy, hgy, e6⟩
      · exact HeapF.dead h
      cases e6
      intro ih t h k r er
      obtain ⟨el, hu, hsz⟩ := elemT_spec hes
      obtain ⟨i, hi, h1, h4⟩ := fewT_spec hfew hu
      obtain ⟨kk, hd⟩ := intT_spec hint
      obtain ⟨el', hel', hz'⟩ := ob_some.1 hzz
      have : el' = el := by have := elemI_spec hel'; rw [hu] at this; cases this; rfl
      subst this
      obtain ⟨zv, hz1, hz2⟩ := zeroT_run hz'
      obtain ⟨v, h', e7, hnx, hrun⟩ := appZ_ok hu (sizeT_run hsz) hd hi h1 h4 hz1 hz2 er
      refine ⟨v, h', e7, hnx, fun σ a w cx ht ok fr dst ty' pos after gd => ?_⟩
      obtain ⟨v', σ', w', r1, r2, r3, r4⟩ := hrun ty' σ w (a.eval x) (a.eval y) ok fr (hgx σ t a cx ht) (hgy σ t a cx ht)
      refine ⟨v', σ', w', .value v', ?_, .inl rfl, r2, r3, r4⟩
      simp [execOp, resolve, invoke, builtin, r1]
end
end Go.Ev
namespace Go.Ev
section
variable {P : Program} {hp : H} {nt : Nat} {s : S} {f : F}

theorem valK_some {x : R} {k : KH} {r : Res} (e : valK x k = some r) : ∃ v h, x = some (.val v h) ∧ k v h = some r := by
  cases x with
  | none => cases e
  | some y => cases y <;> first | (exact ⟨_, _, rfl, e⟩) | (cases e)
theorem norK_some {x : R} {k : KT} {r : Res} (e : norK x k = some r) : ∃ v h, x = some (.nor v h) ∧ k v h = some r := by
  cases x with
  | none => cases e
  | some y => cases y <;> first | (exact ⟨_, _, rfl, e⟩) | (cases e)

theorem isNil_true {v : V} {σ : Sg} {l : List Value} (h : isNil v = true) (g : VRs σ v l) : l = [] := by
  cases g
  · rfl
  · cases h

/-- the parameters are laid -/
theorem setPs_some {ps : List Tmp} {vs : V} {t : T} {k : T → R} {r : Res} (e : setPs nt ps vs t k = some r) : ∃ t', k t' = some r ∧
    ∀ (σ : Sg) (tm : Array Value) (args : List Value), TR σ nt t tm → VRs σ vs args → args.length = ps.length ∧ TR σ nt t' ((ps.zip args).foldl (fun tm (q : Tmp × Value) => tm.setIfInBounds q.1 q.2) tm) := by
  induction ps generalizing vs t with
  | nil =>
    have e : (isNil vs).rec none (k t) = some r := e
    cases hn : isNil vs with
    | false => rw [hn] at e; cases e
    | true =>
      rw [hn] at e
      refine ⟨t, e, fun σ tm args ht hv => ?_⟩
      have := isNil_true hn hv
      subst this
      exact ⟨rfl, ht⟩
  | cons p ps ih =>
    have e : nthK vs 0 (fun v => dropK 1 vs fun r => bi (Nat.blt p nt) (setPs nt ps r (setT t p v) k)) = some r := e
    obtain ⟨v, e1, h1⟩ := nthK_some e
    obtain ⟨q, e2, h2⟩ := dropK_some e1
    obtain ⟨hlt, e3⟩ := bi_some.1 e2
    have hlt : p < nt := blt_lt hlt
    obtain ⟨t', e4, h4⟩ := ih e3
    refine ⟨t', e4, fun σ tm args ht hv => ?_⟩
    obtain ⟨g1, g2⟩ := h2 σ _ hv
    obtain ⟨y, hy, g3⟩ := h1 σ _ hv
    cases args with
    | nil => simp at g1
    | cons a args =>
      have : y = a := by simpa using hy.symm
      subst this
      have hput : TR σ nt (setT t p v) (tm.setIfInBounds p y) := TR.put (a := ⟨tm, []⟩) (d := some p) ht (fun n hn => by cases hn; exact hlt) g3
      obtain ⟨h5, h6⟩ := h4 σ _ args hput (by simpa using g2)
      exact ⟨by simp [h5], h6⟩

/-- how a round ended, and the jump it leaves -/
def JR (r0 : Res) (t : T) (h : H) (jump : Option Code) : Prop := (r0 = .nor t h ∧ jump = none) ∨ (r0 = .ret t h ∧ jump = some .ret) ∨ ∃ id, r0 = .exit id t h ∧ jump = some (.exit id)
theorem busyK_some {h : H} {l : Nat} {y : Nat → T → List Tmp → Code → Code → R} {r : Res} (e : busyK h l y = some r) :
    ∃ p nt t ps as bd, h.gt l = .loop 1 p nt t ps as bd ∧ y nt t ps as bd = some r := by
  unfold busyK at e
  rw [H.getK_gt] at e
  cases hb : h.gt l <;> rw [hb] at e <;> try (exact absurd e (by intro e; cases e))
  obtain ⟨h1, e1⟩ := bi_some.1 e
  have h1 := Nat.eq_of_beq_eq_true h1
  subst h1
  exact ⟨_, _, _, _, _, _, rfl, e1⟩
theorem endK_some {x : R} {l : Nat} {k : KH} {r : Res} (e : endK x l k = some r) : ∃ r0 t4 h4 jump p nt t ps as bd, x = some r0 ∧ JR r0 t4 h4 jump ∧ h4.gt l = .loop 1 p nt t ps as bd ∧
    k (.b jump.isNone) (h4.set l (.loop (stN (if jump.isNone then .ready else .done)) jump nt t ps as bd)) = some r := by
  cases x with
  | none => cases e
  | some y =>
    cases y with
    | val => cases e
    | nor t4 h4 =>
      obtain ⟨p, nt, t, ps, as, bd, h1, h2⟩ := busyK_some e
      exact ⟨_, t4, h4, none, p, nt, t, ps, as, bd, rfl, .inl ⟨rfl, rfl⟩, h1, h2⟩
    | ret t4 h4 =>
      obtain ⟨p, nt, t, ps, as, bd, h1, h2⟩ := busyK_some e
      exact ⟨_, t4, h4, some .ret, p, nt, t, ps, as, bd, rfl, .inr (.inl ⟨rfl, rfl⟩), h1, h2⟩
    | exit id t4 h4 =>
      obtain ⟨p, nt, t, ps, as, bd, h1, h2⟩ := busyK_some e
      exact ⟨_, t4, h4, some (.exit id), p, nt, t, ps, as, bd, rfl, .inr (.inr ⟨id, rfl, rfl⟩), h1, h2⟩

theorem HeapOK.loopAt {σ : Sg} {h : H} {w : World} (ok : HeapOK σ h.cl w) {id b sz st nt : Nat} {p : Option Code} {t : T} {ps : List Tmp} {as bd : Code} (hi : id < 65536) (hs : σ id = some (b, sz)) (hg : h.gt id = .loop st p nt t ps as bd) :
    ∃ L : Loop, w.heap[b]? = some (.loop L) ∧ stN L.state = st ∧ L.pending = p ∧ TR σ nt t L.tmps ∧ L.params.toList = ps ∧ L.assign = as ∧ L.body = bd := by
  have hc := H.cl_gt h id hi
  rw [hg] at hc
  obtain ⟨b', sz', o, h1, h2, h3⟩ := ok.ok id (by rw [hc]; intro h; cases h)
  rw [hs] at h1
  obtain ⟨rfl, rfl⟩ := Prod.mk.inj (Option.some.inj h1)
  rw [hc] at h3
  obtain ⟨L, rfl, a⟩ := h3
  exact ⟨L, h2, a⟩
theorem not_tab' {h : H} {id st nt : Nat} {p : Option Code} {t : T} {ps : List Tmp} {as bd : Code} (hi : id < 65536) (hg : h.gt id = .loop st p nt t ps as bd) : h.cl id ≠ .dead ∧ ∀ n l', h.cl id ≠ .tab n l' := by
  rw [H.cl_gt h id hi, hg]
  exact ⟨fun e => (by cases e), fun _ _ e => (by cases e)⟩

/-- the record is turned -/
theorem HeapOK.putLoop {σ : Sg} {h : H} {w : World} (ok : HeapOK σ h.cl w) {id b sz st nt : Nat} {p : Option Code} {t : T} {ps : List Tmp} {as bd : Code} {L L' : Loop} (hi : id < 65536) (hs : σ id = some (b, sz)) (hg : h.gt id = .loop st p nt t ps as bd)
    (hL : w.heap[b]? = some (.loop L)) (ht : TR σ nt t L'.tmps) (hp : L'.params.toList = ps) (ha : L'.assign = as) (hb : L'.body = bd) :
    HeapOK σ (h.set id (.loop (stN L'.state) L'.pending nt t ps as bd)).cl (w.putObj b (.loop L')) ∧ SExt σ h w σ (h.set id (.loop (stN L'.state) L'.pending nt t ps as bd)) (w.putObj b (.loop L')) := by
  obtain ⟨h1, h2⟩ := not_tab' hi hg
  exact ok.turn hi hs h1 h2 World.putObj_size (World.putObj_heap_same (Array.getElem?_eq_some_iff.1 hL).1) ⟨L', rfl, rfl, rfl, ht, hp, ha, hb⟩ ⟨fun b' hb' => World.putObj_heap_other hb', ⟨rfl, rfl, rfl⟩⟩

theorem stN_zero {s : LoopState} (h : stN s = 0) : s = .ready := by cases s <;> first | rfl | (cases h)
theorem stN_one {s : LoopState} (h : stN s = 1) : s = .busy := by cases s <;> first | rfl | (cases h)

/-- one round -/
theorem doYield_ok {ih : IH} (hih : IHOK P hp ih) {vs : V} {h : H} {k : KH} {l : Nat} {r : Res} (e : doYield ih vs h k l = some r) : ∃ x h', k x h' = some r ∧ h.nx ≤ h'.nx ∧
    ∀ σ w b sz args, σ l = some (b, sz) → l < 65536 → St P hp σ h w → Fr σ h.nx h'.nx → VRs σ vs args → ∃ fn tmps as bd, (Instr.yield b args.toArray).run P w = .ok (.round b fn tmps as bd) w ∧
      RoundIn Fence.wide 0 P b fn tmps as bd w (EndOK σ h w x h') := by
  unfold doYield at e
  rw [H.getK_gt] at e
  cases hb : h.gt l <;> rw [hb] at e <;> try (exact absurd e (by intro e; cases e))
  rename_i st p nt t ps as bd
  have e : doRound ih vs h l k st p nt t ps as bd = some r := e
  cases st with
  | succ n => exact absurd e (by intro e; cases e)
  | zero =>
    obtain ⟨t', e1, h1⟩ := setPs_some (show setPs nt ps vs t _ = some r from e)
    obtain ⟨t2, h2, e2, e3⟩ := norK_some e1
    rw [H.getK_gt] at e3
    cases hb2 : h2.gt l <;> rw [hb2] at e3 <;> try (exact absurd e3 (by intro e; cases e))
    rename_i st2 p2 nt2 t3 ps2 as2 bd2
    cases st2 with
    | succ n => exact absurd e3 (by intro e; cases e)
    | zero =>
      obtain ⟨r0, t4, h4, jump, p4, nt4, t5, ps4, as4, bd4, e4, hj, hb4, e5⟩ := endK_some (show endK (ih (.code true nt bd t2 (h2.set l (.loop 1 p2 nt2 t3 ps2 as2 bd2)))) l k = some r from e3)
      obtain ⟨ta, ha, c1, c2, c3⟩ := hih.code _ _ _ _ _ _ e2
      have hta : t2 = ta ∧ h2 = ha := by
        rcases c1 with h | h | ⟨_, h⟩ <;> cases h
        exact ⟨rfl, rfl⟩
      obtain ⟨rfl, rfl⟩ := hta
      obtain ⟨tb, hb', d1, d2, d3⟩ := hih.code _ _ _ _ _ _ e4
      have htb : t4 = tb ∧ h4 = hb' := by
        rcases d1 with h | h | ⟨_, h⟩ <;> rcases hj with ⟨g, _⟩ | ⟨g, _⟩ | ⟨_, g, _⟩ <;> rw [h] at g <;> cases g <;> exact ⟨rfl, rfl⟩
      obtain ⟨rfl, rfl⟩ := htb
      rw [H.nx_set] at d2 d3
      refine ⟨_, _, e5, by rw [H.nx_set]; omega, fun σ w b sz args hs hi stt fr hv => ?_⟩
      rw [H.nx_set] at fr
      obtain ⟨L, hL, g1, g2, g3, g4, g5, g6⟩ := stt.ok.loopAt hi hs hb
      obtain ⟨q1, q2⟩ := h1 σ L.tmps args g3 hv
      have hsz : args.toArray.size = L.params.size := by rw [List.size_toArray, q1, ← g4, Array.length_toList]
      refine ⟨L.fn, _, L.assign, L.body, run_yield hL hsz, ?_⟩
      refine roundIn_of_wpIn trivial ?_
      rw [g5, g6]
      have hfold : (L.params.zip args.toArray).foldl (fun t (x : Nat × Value) => t.setIfInBounds x.1 x.2) L.tmps = (ps.zip args).foldl (fun tm (q : Tmp × Value) => tm.setIfInBounds q.1 q.2) L.tmps := by
        rw [← Array.foldl_toList, Array.toList_zip, g4]
      rw [hfold]
      have hw := (c3 σ (some b) ⟨_, []⟩ w w.heap.size rfl stt (fr.head (by omega)) q2 (MK.nil _ _ _ _ _) (Nat.le_refl _)).1
      refine wpIn_mono hw fun e a1 w1 hpost => ?_
      obtain ⟨tx, hx, σ1, hr, x1, x2, x3, x4⟩ := hpost
      have : (tx = t2 ∧ hx = h2) ∧ e = .normal := by
        rcases hr with ⟨h, rfl⟩ | ⟨h, rfl⟩ | ⟨_, h, rfl⟩ <;> cases h
        exact ⟨⟨rfl, rfl⟩, rfl⟩
      obtain ⟨⟨rfl, rfl⟩, rfl⟩ := this
      have hs1 : σ1 l = some (b, sz) := x1.up _ _ hs
      obtain ⟨L1, hL1, k1, k2, k3, k4, k5, k6⟩ := x2.loopAt hi hs1 hb2
      refine ⟨_, run_beginRound hL1 (stN_zero k1), ?_⟩
      obtain ⟨ok2, ext2⟩ := x2.putLoop (L' := { L1 with state := .busy }) hi hs1 hb2 hL1 k3 k4 k5 k6
      have st1 := stt.next x1 x2
      have hset : (HeapOK σ1 (hx.set l (.loop 1 p2 nt2 t3 ps2 as2 bd2)).cl (w1.putObj b (.loop { L1 with state := .busy })) ∧ SExt σ1 hx w1 σ1 (hx.set l (.loop 1 p2 nt2 t3 ps2 as2 bd2)) (w1.putObj b (.loop { L1 with state := .busy }))) := by
        rw [show (1 : Nat) = stN ({ L1 with state := .busy } : Loop).state from rfl, ← k2]; exact ⟨ok2, ext2⟩
      obtain ⟨ok2, ext2⟩ := hset
      have st2 := st1.next ext2 ok2
      have fr1 : Fr σ1 hx.nx h4.nx := fr.tail x1
      have hw2 := (d3 σ1 (some b) a1 (w1.putObj b (.loop { L1 with state := .busy })) w.heap.size rfl st2 fr1 x3 (x4.next ext2) (Nat.le_trans x1.size ext2.size)).1
      refine wpIn_mono hw2 fun e a3 w3 hpost => ?_
      obtain ⟨tx, hx', σ3, hr, y1, y2, y3, y4⟩ := hpost
      have hs3 : σ3 l = some (b, sz) := y1.up _ _ hs1
      have hh4 : tx = t4 ∧ hx' = h4 := by
        rcases hr with ⟨h, _⟩ | ⟨h, _⟩ | ⟨_, h, _⟩ <;> rcases hj with ⟨g, _⟩ | ⟨g, _⟩ | ⟨_, g, _⟩ <;> rw [h] at g <;> cases g <;> exact ⟨rfl, rfl⟩
      obtain ⟨rfl, rfl⟩ := hh4
      obtain ⟨L3, hL3, m1, m2, m3, m4, m5, m6⟩ := y2.loopAt hi hs3 hb4
      have hfin : ∃ v w', (Instr.endRound b jump).run P w3 = .ok v w' ∧ EndOK σ h w (.b jump.isNone) (hx'.set l (.loop (stN (if jump.isNone then .ready else .done)) jump nt4 t5 ps4 as4 bd4)) (.returned v) w' := by
        obtain ⟨ok5, ext5⟩ := y2.putLoop (L' := { L3 with state := if jump.isNone then .ready else .done, pending := jump }) hi hs3 hb4 hL3 m3 m4 m5 m6
        exact ⟨_, _, run_endRound jump hL3, _, σ3, rfl, x1.trans (ext2.trans (y1.trans ext5)), ok5, .b _⟩
      rcases hj with ⟨g, gj⟩ | ⟨g, gj⟩ | ⟨id, g, gj⟩ <;> rcases hr with ⟨h, he⟩ | ⟨h, he⟩ | ⟨id', h, he⟩ <;> rw [h] at g <;> cases g <;> subst he <;> subst gj <;> exact hfin
end
end Go.Ev
namespace Go.Ev
section
variable {P : Program} {hp : H} {nt : Nat} {s : S} {f : F}

/-- a call of a value -/
theorem doCall_ok {ih : IH} (hih : IHOK P hp ih) {vs g : V} {h : H} {k : KH} {r : Res} (e : doCall ih vs h k g = some r) : ∃ x h', k x h' = some r ∧ h.nx ≤ h'.nx ∧
    ∀ σ w gv (args : Array Value), St P hp σ h w → Fr σ h.nx h'.nx → VR σ g gv → VRs σ vs args.toList →
      ∃ d, (∀ w', (Deferred.ofValue gv args).run P w' = .ok d w') ∧
        ((∃ fn cs, (invoke d.target d.args).run P w = .ok (.enter fn cs) w ∧ CallsIn Fence.wide 0 P fn cs w (EndOK σ h w x h')) ∨
         (∃ b fn tmps as bd, (invoke d.target d.args).run P w = .ok (.round b fn tmps as bd) w ∧ RoundIn Fence.wide 0 P b fn tmps as bd w (EndOK σ h w x h'))) := by
  cases g <;> try (exact absurd e (by intro e; cases e))
  case f fn first cap =>
    obtain ⟨x, h', e1, e2⟩ := valK_some (show valK (ih (.call fn (appV (appV cap vs) first) h)) k = some r from e)
    obtain ⟨x', h'', g1, g2, g3, g4⟩ := hih.call _ _ _ _ e1
    cases g1
    refine ⟨x, h', e2, g2, fun σ w gv args st fr hg hv => ?_⟩
    cases hg with | @f _ _ _ c d hx hy =>
    refine ⟨⟨.fn (.func fn) d, c ++ args⟩, fun w' => rfl, .inl ⟨fn, c ++ args ++ d, g3.call _ _, g4 σ w _ st fr ?_⟩⟩
    rw [Array.toList_append, Array.toList_append, List.append_assoc]
    exact VRs.app hx (VRs.app hv hy)
  case y l =>
    obtain ⟨x, h', e1, e2, e3⟩ := doYield_ok hih (show doYield ih vs h k l = some r from e)
    refine ⟨x, h', e1, e2, fun σ w gv args st fr hg hv => ?_⟩
    cases hg with | @y _ b sz hs hi =>
    obtain ⟨fn, tmps, as, bd, r1, r2⟩ := e3 σ w b sz args.toList hs hi st fr hv
    refine ⟨⟨.fn (.yield b) #[], args⟩, fun w' => by simp [Deferred.ofValue], .inr ⟨b, fn, tmps, as, bd, r1, r2⟩⟩

/-- the call of a range over a function -/
theorem doIter_ok {ih : IH} (hih : IHOK P hp ih) {vs g : V} {h : H} {k : KH} {r : Res} (e : doIter ih vs h k g = some r) : ∃ x h', k x h' = some r ∧ h.nx ≤ h'.nx ∧
    ∀ σ w gv (args : Array Value), St P hp σ h w → Fr σ h.nx h'.nx → VR σ g gv → VRs σ vs args.toList →
      ∃ d, (∀ w', (Deferred.ofValue gv args).run P w' = .ok d w') ∧ ∃ fn cs, (invoke d.target d.args).run P w = .ok (.enter fn cs) w ∧ CallsIn Fence.wide 0 P fn cs w (EndOK σ h w x h') := by
  cases g <;> try (exact absurd e (by intro e; cases e))
  case f fn first cap =>
    obtain ⟨x, h', e1, e2⟩ := valK_some (show valK (ih (.call fn (appV (appV cap vs) first) h)) k = some r from e)
    obtain ⟨x', h'', g1, g2, g3, g4⟩ := hih.call _ _ _ _ e1
    cases g1
    refine ⟨x, h', e2, g2, fun σ w gv args st fr hg hv => ?_⟩
    cases hg with | @f _ _ _ c d hx hy =>
    refine ⟨⟨.fn (.func fn) d, c ++ args⟩, fun w' => rfl, fn, c ++ args ++ d, g3.call _ _, g4 σ w _ st fr ?_⟩
    rw [Array.toList_append, Array.toList_append, List.append_assoc]
    exact VRs.app hx (VRs.app hv hy)

theorem cCallee0_ok {x : Operand} {args tys : Array _} (e : cCallee0 x args.toList P nt s = .mk f) : LoudF P hp nt (.call ⟨.value x, args, tys⟩) s f := by
  rcases cO_inv e with h | ⟨gf, hgf, e1⟩
  · exact LoudF.dead h
  rcases cOs_inv e1 with h | ⟨ga, hga, e2⟩
  · exact LoudF.dead h
  cases e2
  intro ih hih t h k r er
  obtain ⟨v, h', e3, e4, e5⟩ := doCall_ok hih er
  refine ⟨v, h', e3, e4, fun σ l a w st ht fr dst ty pos after gd K Q hk => ⟨fun _ _ => trivial, ?_⟩⟩
  have hargs : VRs σ (ga t) (args.map a.eval).toList := by rw [Array.toList_map]; exact hga σ t a st.ctx ht
  obtain ⟨d, r1, r2⟩ := e5 σ w (a.eval x) (args.map a.eval) st fr (hgf σ t a st.ctx ht) hargs
  rw [Oper.semAt_eq _ _ _ (fun c hc => by cases hc)]
  have hex : ∀ nxt w', (invoke d.target d.args).run P w = .ok nxt w' → (execOp a.eval ⟨dst, .call ⟨.value x, args, tys⟩, ty, pos, after, gd⟩).run P w = .ok nxt w' := fun nxt w' hr => by
    simp only [execOp, resolve, Sem.run_bind, r1, Result.andThen_ok, hr]
  rcases r2 with ⟨fn, cs, r3, r4⟩ | ⟨b, fn, tmps, as, bd, r3, r4⟩
  · rw [hex _ _ r3]
    refine ⟨fun hh => (by cases hh), CallsIn.mono (show CallsIn (Fx l) 0 P fn cs w _ from r4) fun e w' hR => ?_⟩
    obtain ⟨v', σ', rfl, q1, q2, q3⟩ := hR
    exact hk v' w' σ' q1 q2 q3
  · rw [hex _ _ r3]
    refine ⟨fun hh => (by cases hh), RoundIn.mono (show RoundIn (Fx l) 0 P b fn tmps as bd w _ from r4) fun e w' hR => ?_⟩
    obtain ⟨v', σ', rfl, q1, q2, q3⟩ := hR
    exact hk v' w' σ' q1 q2 q3

/-! ### pure calls -/
structure PUOK (P : Program) (hp : H) (pu : PU) : Prop where
  call : ∀ f vs x h', pu f vs = some (.val x h') → hp.nx ≤ h'.nx ∧ RunsFn P f ∧
    ∀ σ w args, St P hp σ hp w → Fr σ hp.nx h'.nx → VRs σ vs args.toList → CallsIn Fence.wide 0 P f args w (EndOK σ hp w x h')
  ben : ∀ g vs i t h', pu g vs = some (.exit i t h') → RunsFn P g ∧ ∀ σ (args : Array Value), VRs σ vs args.toList → ∀ w, CallsDIn Fence.wide 0 P g args .returning w (BenEnd w)

theorem normK_some {v : V} {k : KV} {r : Res} (e : normK v k = some r) : ∃ x, k x = some r ∧ ∀ σ τ y, VR σ v y → VR τ x y := by
  cases v <;> try (exact absurd e (by intro e; cases e))
  case b x =>
    cases x
    · exact ⟨_, e, fun σ τ y h => by cases h; exact .b _⟩
    · exact ⟨_, e, fun σ τ y h => by cases h; exact .b _⟩
  case i c n =>
    have e : force c (fun c => force n fun n => k (.i c n)) = some r := e
    rw [force_eq, force_eq] at e
    exact ⟨_, e, fun σ τ y h => by cases h; exact .i _ _⟩
  case j c n =>
    have e : force c (fun c => force n fun n => k (.j c n)) = some r := e
    rw [force_eq, force_eq] at e
    exact ⟨_, e, fun σ τ y h => by cases h; exact .j _ _⟩
  case s n l =>
    have e : force n (fun n => force l fun l => k (.s n l)) = some r := e
    rw [force_eq, force_eq] at e
    exact ⟨_, e, fun σ τ y h => by cases h; exact .s _⟩
theorem normsK_some {v : V} {k : KV} {r : Res} (e : normsK v k = some r) : ∃ x, k x = some r ∧ ∀ σ τ y, VRs σ v y → VRs τ x y := by
  induction v generalizing k with
  | nil => exact ⟨.nil, e, fun σ τ y h => by cases h; exact .nil⟩
  | cons a b _ ih =>
    obtain ⟨x, e1, h1⟩ := normK_some (show normK a (fun x => normsK b fun r => k (.cons x r)) = some r from e)
    obtain ⟨y, e2, h2⟩ := ih e1
    exact ⟨_, e2, fun σ τ l h => by cases h with | cons p q => exact .cons (h1 σ τ _ p) (h2 σ τ _ q)⟩
  | _ => cases e

theorem scal_ok {v : V} (h : scal v = true) {σ τ : Sg} {y : Value} (g : VR σ v y) : VR τ v y := by
  cases g <;> first | (constructor; done) | (cases h)
theorem scals_ok {v : V} (h : scals v = true) {σ τ : Sg} {y : List Value} (g : VRs σ v y) : VRs τ v y := by
  induction y generalizing v with
  | nil => cases g; exact .nil
  | cons a l ih =>
    cases g with | @cons x r _ _ hx hr =>
    have h' : (scal x).rec false (scals r) = true := h
    cases h1 : scal x <;> rw [h1] at h'
    · cases h'
    · exact .cons (scal_ok h1 hx) (ih h' hr)
theorem scalR_ok {v : V} (h : scalR v = true) {σ τ : Sg} {y : Value} (g : VR σ v y) : VR τ v y := by
  cases g with
  | t hl => exact .t (scals_ok h hl)
  | _ => first | (constructor; done) | (cases h)

/-- the world of a pure call, within the world -/
def cutSg (σ : Sg) (n : Nat) : Sg := fun id => if id < n then σ id else none
theorem St.cut {σ : Sg} {h : H} {w : World} (hpo : HpOK P hp) (st : St P hp σ h w) : St P hp (cutSg σ hp.nx) hp w := by
  refine ⟨fun g hg => ?_, ⟨fun id hc => ?_, fun id id' b s1 s2 h1 h2 e1 e2 => ?_⟩, fun _ _ _ h => h, Nat.le_refl _⟩
  · obtain ⟨sz, hs⟩ := st.ctx g hg
    exact ⟨sz, by have := hpo.glob; simp only [cutSg]; rw [if_pos (by omega)]; exact hs⟩
  · obtain ⟨n, l, hn⟩ := hpo.tab id hc
    have hh := st.tabs id n l hn
    obtain ⟨b, sz, o, g1, g2, g3⟩ := st.ok.ok id (by rw [hh]; intro h; cases h)
    refine ⟨b, sz, o, by simp only [cutSg]; rw [if_pos (hpo.lt id hc)]; exact g1, g2, ?_⟩
    rw [hh] at g3
    rw [hn]
    exact g3
  · obtain ⟨n, l, hn⟩ := hpo.tab id h1
    obtain ⟨n', l', hn'⟩ := hpo.tab id' h2
    simp only [cutSg, if_pos (hpo.lt id h1)] at e1
    simp only [cutSg, if_pos (hpo.lt id' h2)] at e2
    exact st.ok.inj id id' b s1 s2 (by rw [st.tabs _ _ _ hn]; intro h; cases h) (by rw [st.tabs _ _ _ hn']; intro h; cases h) e1 e2
theorem cut_fr (σ : Sg) (n m : Nat) : Fr (cutSg σ n) n m := fun id h _ => by simp only [cutSg]; rw [if_neg (by omega)]
theorem St.back {σ σ' : Sg} {h h' : H} {w w' : World} (hpo : HpOK P hp) (st : St P hp σ h w) (x : SExt (cutSg σ hp.nx) hp w σ' h' w') (ok : HeapOK σ' h'.cl w') : SExt σ h w σ h w' ∧ HeapOK σ h.cl w' := by
  have keep : ∀ b, b < w.heap.size → (∀ id sz, hp.cl id ≠ .dead → cutSg σ hp.nx id ≠ some (b, sz)) → w'.heap[b]? = w.heap[b]? := x.keep
  have hcl : ∀ id sz b, hp.cl id ≠ .dead → cutSg σ hp.nx id = some (b, sz) → h.cl id ≠ .dead ∧ σ id = some (b, sz) := fun id sz b hc hs => by
    obtain ⟨n, l, hn⟩ := hpo.tab id hc
    simp only [cutSg, if_pos (hpo.lt id hc)] at hs
    exact ⟨by rw [st.tabs _ _ _ hn]; (intro h; cases h), hs⟩
  refine ⟨⟨⟨Up.refl _, x.size, fun b hb hn => keep b hb fun id sz hc hs => ?_, fun id b sz hc hs _ => ⟨id, sz, hc, hs⟩, fun _ _ _ h => h, x.same, fun id n l b sz hc hs hb => ?_⟩, Nat.le_refl _, fun _ _ => rfl⟩, ⟨fun id hc => ?_, st.ok.inj⟩⟩
  · obtain ⟨g1, g2⟩ := hcl id sz b hc hs
    exact hn id sz g1 g2
  · by_cases hx : ∃ id' sz', hp.cl id' ≠ .dead ∧ cutSg σ hp.nx id' = some (b, sz')
    · obtain ⟨id', sz', q1, q2⟩ := hx
      obtain ⟨n', l', hn'⟩ := hpo.tab id' q1
      exact x.tabk id' n' l' b sz' hn' q2 hb
    · exact keep b hb fun id' sz' q1 q2 => hx ⟨id', sz', q1, q2⟩
  · obtain ⟨b, sz, o, g1, g2, g3⟩ := st.ok.ok id hc
    by_cases hx : ∃ id' sz', hp.cl id' ≠ .dead ∧ cutSg σ hp.nx id' = some (b, sz')
    · obtain ⟨id', sz', q1, q2⟩ := hx
      obtain ⟨q3, q4⟩ := hcl id' sz' b q1 q2
      have : id = id' := st.ok.inj _ _ _ _ _ hc q3 g1 q4
      subst this
      obtain ⟨n, l, hn⟩ := hpo.tab id q1
      have hh := st.tabs id n l hn
      have hh' := x.tabs id n l hn
      obtain ⟨b2, sz2, o2, u1, u2, u3⟩ := ok.ok id (by rw [hh']; intro h; cases h)
      rw [x.up _ _ q2] at u1
      obtain ⟨rfl, rfl⟩ := Prod.mk.inj (Option.some.inj u1)
      rw [g1] at q4
      obtain ⟨_, rfl⟩ := Prod.mk.inj (Option.some.inj q4)
      refine ⟨_, _, o2, g1, u2, ?_⟩
      rw [hh'] at u3
      rw [hh]
      exact u3
    · refine ⟨b, sz, o, g1, ?_, g3⟩
      rw [keep b (Array.getElem?_eq_some_iff.1 g2).1 fun id' sz' q1 q2 => hx ⟨id', sz', q1, q2⟩]
      exact g2

theorem cPureTo_ok {pu : PU} (hpo : HpOK P hp) (hpu : PUOK P hp pu) {fn : Nat} {args : Array Operand} {tys : Array TypeId} (e : cPureTo pu fn args.toList P nt s = .mk f) : LoudF P hp nt (.call ⟨.value (.func fn), args, tys⟩) s f := by
  rcases cOs_inv e with h | ⟨ga, hga, e2⟩
  · exact LoudF.dead h
  cases e2
  intro ih hih t h k r er
  obtain ⟨vs, e3, hvs⟩ := normsK_some (show normsK (ga t) _ = some r from er)
  obtain ⟨v, h', e4, e5⟩ := valK_some e3
  obtain ⟨g2, g3, g4⟩ := hpu.call _ _ _ _ e4
  cases hsc : scalR v with
  | false =>
    have : (scalR v).rec (motive := fun _ => R) none (k (s v t) h) = some r := e5
    rw [hsc] at this; cases this
  | true =>
    have e6 : k (s v t) h = some r := by
      have : (scalR v).rec (motive := fun _ => R) none (k (s v t) h) = some r := e5
      rw [hsc] at this; exact this
    refine ⟨v, h, e6, Nat.le_refl _, fun σ l a w st ht fr dst ty pos after gd K Q hk => ⟨fun _ _ => trivial, ?_⟩⟩
    have hargs : VRs (cutSg σ hp.nx) vs (args.map a.eval).toList := by rw [Array.toList_map]; exact hvs σ _ _ (hga σ t a st.ctx ht)
    have hc := g4 _ w _ (st.cut hpo) (cut_fr _ _ _) hargs
    rw [Oper.semAt_eq _ _ _ (fun c hc => by cases hc)]
    have hex : (execOp a.eval ⟨dst, .call ⟨.value (.func fn), args, tys⟩, ty, pos, after, gd⟩).run P w = .ok (.enter fn (args.map a.eval)) w := by
      have := g3.call (args.map a.eval) w
      simp [execOp, resolve, Act.eval, Deferred.ofValue, invoke, this]
    rw [hex]
    refine ⟨fun hh => (by cases hh), CallsIn.mono (show CallsIn (Fx l) 0 P fn _ w _ from hc) fun e w' hR => ?_⟩
    obtain ⟨v', σ', rfl, q1, q2, q3⟩ := hR
    obtain ⟨q4, q5⟩ := st.back hpo q1 q2
    exact hk v' w' σ q4 q5 (scalR_ok hsc q3)
end
end Go.Ev
namespace Go.Ev
section
variable {P : Program} {hp : H} {nt : Nat} {s : S} {f : F} {pu : PU}

theorem cBuiltin_pure {b : Builtin} {args : Array Operand} {tys : Array TypeId} (hc : cls (.call ⟨.builtin b, args, tys⟩) = 0) (e : cBuiltin b args.toList tys.toList P nt s = .mk f) : PureF P nt (.call ⟨.builtin b, args, tys⟩) s f := by
  obtain ⟨al⟩ := args
  obtain ⟨tl⟩ := tys
  cases b <;> try (cases hc; done)
  case len =>
    match al, e with
    | [], e => exact PureF.dead (dead_of e)
    | _ :: _ :: _, e => exact PureF.dead (dead_of e)
    | [x], e =>
      match tl, e with
      | [], e => exact PureF.dead (dead_of e)
      | ty :: r0, e =>
        rcases cO_inv e with h | ⟨g, hg, e1⟩
        · exact PureF.dead h
        cases e1
        exact lenK_ok hg
  case max =>
    match al, e with
    | [], e => exact PureF.dead (dead_of e)
    | [_], e => exact PureF.dead (dead_of e)
    | _ :: _ :: _ :: _, e => exact PureF.dead (dead_of e)
    | [x, y], e =>
      rcases cO_inv e with h | ⟨g, hg, e1⟩
      · exact PureF.dead h
      rcases cO_inv e1 with h | ⟨g', hg', e2⟩
      · exact PureF.dead h
      cases e2
      exact maxN_ok hg hg'
  case min =>
    match al, e with
    | [], e => exact PureF.dead (dead_of e)
    | [_], e => exact PureF.dead (dead_of e)
    | _ :: _ :: _ :: _, e => exact PureF.dead (dead_of e)
    | [x, y], e =>
      rcases cO_inv e with h | ⟨g, hg, e1⟩
      · exact PureF.dead h
      rcases cO_inv e1 with h | ⟨g', hg', e2⟩
      · exact PureF.dead h
      cases e2
      exact minN_ok hg hg'

theorem cOp_pure {op : Op} (hc : cls op = 0) (e : cOp pu op P nt s = .mk f) : PureF P nt op s f := by
  cases op
  case move => exact oMove_ok (.inl rfl) e
  case assign => exact oMove_ok (.inr rfl) e
  case pick => exact oPick_ok e
  case build => exact oBuild_ok e
  case nilCheck => exact oNil_ok e
  case binOp => exact oBin_ok e
  case unOp => exact oUn_ok e
  case convert => exact oConv_ok e
  case makeFunc => exact oFunc_ok e
  case slice => exact oSlice_ok e
  case fieldAddr => exact oFieldAddr_ok e
  case field => exact oField_ok e
  case indexAddr => exact oIndexAddr_ok e
  case index => exact oIndex_ok e
  case extract => exact oExtract_ok e
  case call c =>
    obtain ⟨callee, args, tys⟩ := c
    cases callee
    case value => cases hc
    case invoke => cases hc
    case builtin b => exact cBuiltin_pure hc e
  all_goals (cases hc)

theorem cOp_look {op : Op} (hc : cls op = 1) (e : cOp pu op P nt s = .mk f) : LookF P nt op s f := by
  cases op
  case load => exact oLoad_ok e
  case lookup => exact oLookup_ok e
  case call c =>
    obtain ⟨callee, args, tys⟩ := c
    cases callee
    case value => cases hc
    case invoke => cases hc
    case builtin b => cases b <;> cases hc
  all_goals (cases hc)

theorem cOp_new {op : Op} (hc : cls op = 2) (e : cOp pu op P nt s = .mk f) : NewF P nt op s f := by
  cases op
  case alloc => exact oAlloc_ok e
  case box => exact oBox_ok e
  case buildSlice => exact oBuildSlice_ok e
  case makeMap => exact oMakeMap_ok e
  case makeSlice => exact oMakeSlice_ok e
  case range => exact oRange_ok e
  case mapEntry => exact NewF.dead (dead_of e)
  case call c =>
    obtain ⟨callee, args, tys⟩ := c
    cases callee
    case value => cases hc
    case invoke => cases hc
    case builtin b => cases b <;> cases hc
  all_goals (cases hc)

theorem LookF.loud {op : Op} (hd : ∀ c, op ≠ .defer c) (h : LookF P nt op s f) : LoudF P hp nt op s f := HeapF.loud hd h.heap
theorem cBuiltin_loud {b : Builtin} {args : Array Operand} {tys : Array TypeId} (e : cBuiltin b args.toList tys.toList P nt s = .mk f) : LoudF P hp nt (.call ⟨.builtin b, args, tys⟩) s f := by
  have hd : ∀ c, (Op.call ⟨.builtin b, args, tys⟩) ≠ .defer c := fun c hc => by cases hc
  cases hc : cls (.call ⟨.builtin b, args, tys⟩) with
  | zero => exact HeapF.loud hd (PureF.look (cBuiltin_pure hc e)).heap
  | succ n =>
    cases b <;> try (cases hc; done)
    case append =>
      obtain ⟨al⟩ := args
      match al, e with
      | [], e => exact LoudF.dead (dead_of e)
      | [_], e => exact LoudF.dead (dead_of e)
      | _ :: _ :: _ :: _, e => exact LoudF.dead (dead_of e)
      | [x, y], e => exact HeapF.loud hd (oAppend_ok e)
    case cap =>
      obtain ⟨al⟩ := args
      obtain ⟨tl⟩ := tys
      match al, e with
      | [], e => exact LoudF.dead (dead_of e)
      | _ :: _ :: _, e => exact LoudF.dead (dead_of e)
      | [x], e =>
        match tl, e with
        | [], e => exact LoudF.dead (dead_of e)
        | ty :: r0, e =>
          rcases bcl_inv e with h | ⟨hst, e0⟩
          · exact LoudF.dead h
          rcases cO_inv e0 with h | ⟨g, hg, e1⟩
          · exact LoudF.dead h
          cases e1
          exact HeapF.loud hd (PureF.look (capK_ok hst hg)).heap
    all_goals (exact LoudF.dead (dead_of e))

theorem cOp_ok (hpo : HpOK P hp) (hpu : PUOK P hp pu) {op : Op} (e : cOp pu op P nt s = .mk f) : LoudF P hp nt op s f := by
  by_cases hdef : ∃ c, op = .defer c
  · obtain ⟨c, rfl⟩ := hdef
    exact LoudF.dead (dead_of e)
  have hd : ∀ c, op ≠ .defer c := fun c hc => hdef ⟨c, hc⟩
  by_cases h0 : cls op = 0
  · exact HeapF.loud hd (cOp_pure h0 e).look.heap
  by_cases h1 : cls op = 1
  · exact HeapF.loud hd (cOp_look h1 e).heap
  by_cases h2 : cls op = 2
  · exact HeapF.loud hd (cOp_new h2 e).heap
  cases op
  case store => exact HeapF.loud hd (oStore_ok e)
  case insert => exact HeapF.loud hd (oMapSet_ok (.inr rfl) e)
  case mapUpdate => exact HeapF.loud hd (oMapSet_ok (.inl rfl) e)
  case next => exact HeapF.loud hd (oNext_ok e)
  case call c =>
    obtain ⟨callee, args, tys⟩ := c
    cases callee
    case invoke => exact LoudF.dead (dead_of e)
    case builtin b => exact cBuiltin_loud e
    case value x =>
      cases x
      case tmp => exact cCallee0_ok e
      case const => exact cCallee0_ok e
      case global => exact cCallee0_ok e
      case func fn =>
        have e : (sigPure P fn).rec (motive := fun _ => Cl) (cCallee0 (.func fn) args.toList P nt s) (cPureTo pu fn args.toList P nt s) = .mk f := e
        cases hs : sigPure P fn <;> rw [hs] at e
        · exact cCallee0_ok e
        · exact cPureTo_ok hpo hpu e
  all_goals first
    | (exact absurd rfl h0)
    | (exact absurd rfl h1)
    | (exact absurd rfl h2)
    | (exact LoudF.dead (dead_of e))
end
end Go.Ev
namespace Go.Ev

/-- one operation of a region, taken -/
def Stp (P : Program) (l : Option Nat) (ops : Array Oper) (o : Oper) (a : Act) (w : World) (G : Act → World → Prop) : Prop :=
  ∀ (K : Act → World → Prop) (Q : Exit → Act → World → Prop), (∀ a' w', G a' w' → K a' w') →
    if Region.wanted o (yielded ops a.tmps) then o.wpIn (Fx l) 0 P a w K Q else (∀ f, o.about P w a.eval = some f → (Fx l).fn f) ∧ K (a.put o.dst undef) w

def OLoud (P : Program) (hp : H) (nt : Nat) (ops : Array Oper) (o : Oper) (f : F) : Prop := ∀ ih, IHOK P hp ih → ∀ t h k r, f ih t h k = some r → ∃ v h', k (putT t o.dst v) h' = some r ∧ h.nx ≤ h'.nx ∧
  ∀ σ l a w, St P hp σ h w → TR σ nt t a.tmps → Fr σ h.nx h'.nx → Stp P l ops o a w fun a' w' => ∃ v' σ', a' = a.put o.dst v' ∧ SExt σ h w σ' h' w' ∧ HeapOK σ' h'.cl w' ∧ VR σ' v v'

section
variable {P : Program} {hp : H} {nt : Nat} {s : S} {f : F} {pu : PU} {ops : Array Oper}

theorem wantV_some {w : Bool} {no yes : R} {v : V} {r : Res} (e : wantV w no yes v = some r) : (v = .b w ∧ yes = some r) ∨ ((∀ x, v = .b x → x ≠ w) ∧ no = some r) := by
  cases v with
  | b x =>
    have e : x.rec (motive := fun _ => R) (w.rec yes no) (w.rec no yes) = some r := e
    cases x <;> cases w <;> first | (exact .inl ⟨rfl, e⟩) | (exact .inr ⟨fun x h => by cases h; (intro h; cases h), e⟩)
  | _ => exact .inr ⟨fun x h => (by cases h), e⟩

theorem wanted_of {o : Oper} {j d : Nat} {w : Bool} {tm : Array Value} (hg : o.guard = some (j, w)) (hd : (ops[j]?).bind (·.dst) = some d) (hlt : d < tm.size) :
    Region.wanted o (yielded ops tm) = true ↔ tm.getD d undef = .bool w := by
  unfold Region.wanted
  rw [hg]
  simp only [yielded, hd, Option.bind_some]
  have : tm[d]? = some (tm.getD d undef) := by simp [Array.getD, hlt]
  rw [this]
  generalize tm.getD d undef = y
  cases y <;> simp

theorem cOper_cases {o : Oper} (e : cOper pu P nt ops o = .mk f) : Dead f ∨ ∃ s f0, SOK nt o.dst s ∧ cOp pu o.op P nt s = .mk f0 ∧
    ((o.guard = none ∧ f = f0) ∨ ∃ j w d, o.guard = some (j, w) ∧ (ops[j]?).bind (·.dst) = some d ∧ d < nt ∧ f = fun ih t h k => wantV w (k (s undefV t) h) (f0 ih t h k) (getT t d)) := by
  obtain ⟨dst, op, ty, pos, after, gd⟩ := o
  rcases cD_inv (show cD nt dst (fun s => cWant nt ops gd s (cOp pu op P nt s)) = .mk f from e) with h | ⟨s, hs, e1⟩
  · exact .inl h
  cases hop : cOp pu op P nt s with | mk f0 =>
  cases gd with
  | none =>
    have e1 : cOp pu op P nt s = .mk f := e1
    rw [hop] at e1
    cases e1
    exact .inr ⟨s, f, hs, hop, .inl ⟨rfl, rfl⟩⟩
  | some g =>
    obtain ⟨j, w⟩ := g
    rw [hop] at e1
    rcases ocl_inv (show ocl ((ops[j]?).bind (·.dst)) _ = .mk f from e1) with h | ⟨d, hd, e2⟩
    · exact .inl h
    rcases cG_inv e2 with h | ⟨hlt, e3⟩
    · exact .inl h
    cases e3
    exact .inr ⟨s, f0, hs, hop, .inr ⟨j, w, d, rfl, hd, hlt, rfl⟩⟩

theorem cOper_ok (hpo : HpOK P hp) (hpu : PUOK P hp pu) {o : Oper} (e : cOper pu P nt ops o = .mk f) : OLoud P hp nt ops o f := by
  rcases cOper_cases e with h | ⟨s, f0, hs, hop, hg⟩
  · exact fun ih _ t hh k r e => by rw [h] at e; cases e
  have hl := cOp_ok (hp := hp) hpo hpu hop
  rcases hg with ⟨hg, rfl⟩ | ⟨j, w0, d, hg, hd, hlt, rfl⟩
  · intro ih hih t h k r er
    obtain ⟨v, h', e1, e2, e3⟩ := hl ih hih t h k r er
    rw [hs.eq] at e1
    refine ⟨v, h', e1, e2, fun σ l a w st ht fr K Q hk => ?_⟩
    have : Region.wanted o (yielded ops a.tmps) = true := by unfold Region.wanted; rw [hg]
    rw [if_pos this]
    exact e3 σ l a w st ht fr o.dst o.type o.pos o.after o.guard K Q fun v' w' σ' h1 h2 h3 => hk _ _ ⟨v', σ', rfl, h1, h2, h3⟩
  · intro ih hih t h k r er
    rcases wantV_some er with ⟨hv, er⟩ | ⟨hv, er⟩
    · obtain ⟨v, h', e1, e2, e3⟩ := hl ih hih t h k r er
      rw [hs.eq] at e1
      refine ⟨v, h', e1, e2, fun σ l a w st ht fr K Q hk => ?_⟩
      have hat := ht.at_ d hlt
      rw [hv] at hat
      have hval : a.tmps.getD d undef = .bool w0 := by
        generalize a.tmps.getD d undef = y at hat
        cases hat; rfl
      rw [if_pos ((wanted_of hg hd (by rw [ht.size]; exact hlt)).2 hval)]
      exact e3 σ l a w st ht fr o.dst o.type o.pos o.after o.guard K Q fun v' w' σ' h1 h2 h3 => hk _ _ ⟨v', σ', rfl, h1, h2, h3⟩
    · have er : k (s undefV t) h = some r := er
      rw [hs.eq] at er
      refine ⟨undefV, h, er, Nat.le_refl _, fun σ l a w st ht fr K Q hk => ?_⟩
      have hat := ht.at_ d hlt
      have hval : ¬ a.tmps.getD d undef = .bool w0 := fun hx => by
        rw [hx] at hat
        generalize hgv : getT t d = y at hat
        cases hat
        exact hv _ hgv rfl
      rw [if_neg (fun hx => hval ((wanted_of hg hd (by rw [ht.size]; exact hlt)).1 hx))]
      exact ⟨fun _ _ => trivial, hk _ _ ⟨undef, σ, rfl, SExt.refl _ _ _, st.ok, VR.undef σ⟩⟩

/-- a call put off -/
theorem putOff_some {o : Oper} {n : Nat} (h : putOff o = some n) : ∃ args tys ty pos after, o = ⟨none, .defer ⟨.value (.tmp n), args, tys⟩, ty, pos, after, none⟩ ∧ args = #[] := by
  unfold putOff at h
  split at h
  · rename_i n' args tys ty pos after
    split at h
    · rename_i hl
      cases h
      exact ⟨args, tys, ty, pos, after, rfl, Array.toList_eq_nil_iff.1 hl⟩
    · cases h
  · cases h
theorem benK_some {k : R} {v : V} {r : Res} (e : benK pu k v = some r) : ∃ g first cap i t h, v = .f g first cap ∧ pu g (appV cap first) = some (.exit i t h) ∧ k = some r := by
  cases v <;> try (exact absurd e (by intro e; cases e))
  case f g first cap =>
    have e' : exitK (pu g (appV cap first)) k = some r := e
    cases hq : pu g (appV cap first) with
    | none => rw [hq] at e'; cases e'
    | some y =>
      rw [hq] at e'
      cases y with
      | exit i t h => exact ⟨g, first, cap, i, t, h, rfl, hq, e'⟩
      | _ => cases e'
theorem cOper1_cases {rnd : Bool} {o : Oper} {f : F} (e : cOper1 rnd pu P nt ops o = .mk f) : cOper pu P nt ops o = .mk f ∨ (rnd = false ∧ ∃ n, putOff o = some n ∧ cPutOff pu nt n = .mk f) := by
  unfold cOper1 at e
  cases rnd with
  | true => exact .inl e
  | false =>
    cases hp : putOff o with
    | none => rw [hp] at e; exact .inl e
    | some n => rw [hp] at e; exact .inr ⟨rfl, n, rfl, e⟩

/-- a row of operations, in order -/
theorem cOps_ok (hpo : HpOK P hp) (hpu : PUOK P hp pu) {rnd : Bool} : ∀ {l : List Oper} {i : Nat} {f : F}, cOps rnd pu P nt ops l = .mk f → (∀ q, l[q]? = ops[i + q]?) → ∀ ih, IHOK P hp ih → ∀ t h k r, f ih t h k = some r →
    ∃ t' h', k t' h' = some r ∧ h.nx ≤ h'.nx ∧ ∀ σ ro a w n0 (Q : Exit → Act → World → Prop), rnd = ro.isSome → St P hp σ h w → TR σ nt t a.tmps → Fr σ h.nx h'.nx → MK P n0 σ h.cl w a.defers →
      (∀ a' w' σ', SExt σ h w σ' h' w' → HeapOK σ' h'.cl w' → TR σ' nt t' a'.tmps → MK P n0 σ' h'.cl w' a'.defers → Q .normal a' w') → wpOpsIn (Fx ro) 0 P ops Q (List.range' i l.length) a w
  | [], i, f, e, hl, ih, hih, t, h, k, r, er => by
    cases e
    exact ⟨t, h, er, Nat.le_refl _, fun σ ro a w n0 Q _ st ht fr mk hk => hk a w σ (SExt.refl _ _ _) st.ok ht mk⟩
  | o :: l, i, f, e, hl, ih, hih, t, h, k, r, er => by
    cases ho : cOper1 rnd pu P nt ops o with | mk f0 =>
    cases hr : cOps rnd pu P nt ops l with | mk g0 =>
    have e' : (cOper1 rnd pu P nt ops o).rec (motive := fun _ => Cl) (fun f => (cOps rnd pu P nt ops l).rec (motive := fun _ => Cl) fun g => .mk fun ih t h k => f ih t h fun t h => g ih t h k) = .mk f := e
    rw [ho, hr] at e'
    cases e'
    have hi : ops[i]? = some o := by have := hl 0; simpa using this.symm
    have hrest : ∀ q, l[q]? = ops[(i + 1) + q]? := fun q => by have := hl (q + 1); rw [List.getElem?_cons_succ] at this; rw [this]; congr 1; omega
    rcases cOper1_cases ho with ho | ⟨rfl, n, hpn, ho⟩
    · obtain ⟨v, h1, e1, e2, e3⟩ := cOper_ok (hp := hp) hpo hpu ho ih hih t h _ r er
      obtain ⟨t', h', e4, e5, e6⟩ := cOps_ok hpo hpu (i := i + 1) hr hrest ih hih _ h1 k r e1
      refine ⟨t', h', e4, Nat.le_trans e2 e5, fun σ ro a w n0 Q hro st ht fr mk hk => ?_⟩
      rw [List.length_cons, List.range'_succ]
      simp only [wpOpsIn, hi]
      have hdst : ∀ n, o.dst = some n → n < nt := by
        rcases cOper_cases ho with hdead | ⟨s, f1, hs, _⟩
        · have er' : f0 ih t h _ = some r := er
          rw [hdead] at er'; cases er'
        · exact hs.lt
      exact e3 σ ro a w st ht (fr.head e5) (wpOpsIn (Fx ro) 0 P ops Q (List.range' (i + 1) l.length)) Q fun a' w' ⟨v', σ', ha, x1, x2, x3⟩ => by
        subst ha
        refine e6 σ' ro _ w' n0 Q hro (st.next x1 x2) ((ht.mono x1.up).put hdst x3) (fr.tail x1) ?_ fun a2 w2 σ2 y1 y2 y3 y4 => hk a2 w2 σ2 (x1.trans y1) y2 y3 y4
        have : (a.put o.dst v').defers = a.defers := by cases o.dst <;> rfl
        rw [this]
        exact mk.next x1
    · obtain ⟨args, tys, ty, pos, after, rfl, rfl⟩ := putOff_some hpn
      rcases cG_inv (show cG nt n (fun g => .mk fun _ t h k => benK pu (k t h) (g t)) = .mk f0 from ho) with hd | ⟨hlt, e1⟩
      · have er' : f0 ih t h _ = some r := er
        rw [hd] at er'; cases er'
      cases e1
      obtain ⟨g, first, cap, ix, tx, hx, b1, b2, b3⟩ := benK_some (show benK pu (g0 ih t h k) (getT t n) = some r from er)
      obtain ⟨q1, q2⟩ := hpu.ben _ _ _ _ _ b2
      obtain ⟨t', h', e4, e5, e6⟩ := cOps_ok hpo hpu (i := i + 1) hr hrest ih hih t h k r b3
      refine ⟨t', h', e4, e5, fun σ ro a w n0 Q hro st ht fr mk hk => ?_⟩
      obtain rfl : ro = none := by cases ro with | none => rfl | some x => cases hro
      rw [List.length_cons, List.range'_succ]
      simp only [wpOpsIn, hi]
      have hw : Region.wanted (⟨none, .defer ⟨.value (.tmp n), #[], tys⟩, ty, pos, after, none⟩ : Oper) (yielded ops a.tmps) = true := by unfold Region.wanted; rfl
      rw [if_pos hw]
      have hat := ht.at_ n hlt
      rw [b1] at hat
      generalize hv : a.tmps.getD n undef = y at hat
      cases hat with | @f _ _ _ c d hc hd =>
      have hex : (execOp a.eval ⟨none, .defer ⟨.value (.tmp n), #[], tys⟩, ty, pos, after, none⟩).run P w = .ok (.defer ⟨.fn (.func g) d, c⟩) w := by
        simp [execOp, resolve, Act.eval, hv, Deferred.ofValue]
      refine ⟨fun _ _ => trivial, ?_⟩
      rw [show (Fx none).round = none from rfl, Oper.semAt_none, hex]
      refine e6 σ none _ w n0 Q rfl st ?_ fr ?_ hk
      · exact ht
      · refine ⟨fun d' hd' => ?_, List.pairwise_cons.2 ⟨fun d' _ r r' hr => (by cases hr), mk.apart⟩⟩
        rcases List.mem_cons.1 hd' with rfl | hd'
        · refine .inr ⟨_, _, g, c ++ d, rfl, fun w' => q1.call _ _, q2 σ _ ?_⟩
          rw [Array.toList_append]
          exact VRs.app hc hd
        · exact mk.each d' hd'
end
end Go.Ev
namespace Go.Ev
section
variable {P : Program} {hp : H} {nt : Nat} {pu : PU} {rnd : Bool} {c x y : Code} {t : T} {h : H} {r : Res}

theorem CodeG.of (hc : ∀ c0, c ≠ .loop c0) {t' : T} {h' : H} (h1 : resOK r t' h') (h2 : h.nx ≤ h'.nx)
    (h3 : ∀ σ l a w n0, rnd = l.isSome → St P hp σ h w → Fr σ h.nx h'.nx → TR σ nt t a.tmps → MK P n0 σ h.cl w a.defers → n0 ≤ w.heap.size → c.wpIn (Fx l) 0 P (PostOK P σ h w nt n0 r) a w) : CodeG P hp rnd nt c t h r :=
  ⟨t', h', h1, h2, fun σ l a w n0 g1 g2 g3 g4 g5 g6 => ⟨h3 σ l a w n0 g1 g2 g3 g4 g5 g6, fun c0 e => absurd e (hc c0)⟩⟩

/-- compiled code: how it ends is known, and what goes on -/
def CodeF (P : Program) (hp : H) (rnd : Bool) (nt : Nat) (c : Code) (f : F) : Prop := ∀ ih, IHOK P hp ih → ∀ t h k r, f ih t h k = some r → ∃ r0, CodeG P hp rnd nt c t h r0 ∧ (∀ t' h', r0 = .nor t' h' → k t' h' = some r) ∧ ((∀ t' h', r0 ≠ .nor t' h') → r = r0)
theorem CodeF.dead {f : F} (h : Dead f) : CodeF P hp rnd nt c f := fun ih _ t hh k r e => by rw [h] at e; cases e

theorem PostOK.then_ {σ τ : Sg} {h1 h2 : H} {w1 w2 : World} {n0 : Nat} {r : Res} (e : SExt σ h1 w1 τ h2 w2) {ex : Exit} {a' : Act} {w' : World} (p : PostOK P τ h2 w2 nt n0 r ex a' w') : PostOK P σ h1 w1 nt n0 r ex a' w' := by
  obtain ⟨t', h', σ', a, b, c⟩ := p
  exact ⟨t', h', σ', a, e.trans b, c⟩

theorem resOK.inj {t1 t2 : T} {h1 h2 : H} (a : resOK r t1 h1) (b : resOK r t2 h2) : t1 = t2 ∧ h1 = h2 := by
  rcases a with e | e | ⟨_, e⟩ <;> subst e <;> rcases b with e | e | ⟨_, e⟩ <;> cases e <;> exact ⟨rfl, rfl⟩

/-- of code that ends so, what else comes -/
theorem CodeG.bind {d : Code} {t1 : T} {h1 : H} (g : CodeG P hp rnd nt c t h (.nor t1 h1)) {r : Res} (hc : ∀ c0, d ≠ .loop c0) {t2 : T} {h2 : H} (hr : resOK r t2 h2) (hn : h1.nx ≤ h2.nx)
    (hd : ∀ σ l a w n0, rnd = l.isSome → (∀ n, n ≤ h2.nx → Fr σ h.nx h2.nx) → c.wpIn (Fx l) 0 P (fun e a' w' => e = .normal ∧ ∃ τ, St P hp τ h1 w' ∧ SExt σ h w τ h1 w' ∧ Fr τ h1.nx h2.nx ∧ TR τ nt t1 a'.tmps ∧ MK P n0 τ h1.cl w' a'.defers ∧ n0 ≤ w'.heap.size) a w → d.wpIn (Fx l) 0 P (PostOK P σ h w nt n0 r) a w) :
    CodeG P hp rnd nt d t h r := by
  obtain ⟨t', h', a1, a2, a3⟩ := g
  obtain ⟨rfl, rfl⟩ : t1 = t' ∧ h1 = h' := resOK.inj (.inl rfl) a1
  refine CodeG.of hc hr (Nat.le_trans a2 hn) fun σ l a w n0 g1 g2 g3 g4 g5 g6 => hd σ l a w n0 g1 (fun _ _ => g3) ?_
  refine wpIn_mono (a3 σ l a w n0 g1 g2 (g3.head hn) g4 g5 g6).1 fun e a' w' hp' => ?_
  obtain ⟨t', h', σ', b1, b2, b3, b4, b5⟩ := hp'
  rcases b1 with ⟨q, rfl⟩ | ⟨q, rfl⟩ | ⟨_, q, rfl⟩ <;> cases q
  exact ⟨rfl, σ', g2.next b2 b3, b2, g3.tail b2, b4, b5, Nat.le_trans g6 b2.size⟩

theorem CodeG.seq {t1 : T} {h1 : H} (g : CodeG P hp rnd nt x t h (.nor t1 h1)) (g' : CodeG P hp rnd nt y t1 h1 r) : CodeG P hp rnd nt (.seq x y) t h r := by
  obtain ⟨t2, h2, b1, b2, b3⟩ := g'
  refine g.bind (fun _ e => (by cases e)) b1 b2 fun σ l a w n0 hl hf hx => wpIn_seq ?_
  refine wpIn_mono hx fun e a' w' hq => ?_
  obtain ⟨rfl, τ, s1, s2, s3, s4, s5, s6⟩ := hq
  exact wpIn_mono (b3 τ l a' w' n0 hl s1 s3 s4 s5 s6).1 fun _ _ _ p => p.then_ s2
theorem CodeG.seq_out (g : CodeG P hp rnd nt x t h r) (hn : ∀ t' h', r ≠ .nor t' h') : CodeG P hp rnd nt (.seq x y) t h r := by
  obtain ⟨t1, h1, a1, a2, a3⟩ := g
  refine CodeG.of (fun _ e => (by cases e)) a1 a2 fun σ l a w n0 g1 g2 g3 g4 g5 g6 => wpIn_seq ?_
  refine wpIn_mono (a3 σ l a w n0 g1 g2 g3 g4 g5 g6).1 fun e a' w' hp' => ?_
  have hq := hp'
  obtain ⟨t', h', σ', b1, b2⟩ := hp'
  rcases b1 with ⟨q, rfl⟩ | ⟨q, rfl⟩ | ⟨_, q, rfl⟩
  · exact absurd q (hn _ _)
  · exact hq
  · exact hq

theorem CodeG.cond {o : Operand} {b : Bool} {g : G} (hg : GOK P nt o g) (hb : g t = .b b) (g' : CodeG P hp rnd nt (if b then x else y) t h r) : CodeG P hp rnd nt (.cond o x y) t h r := by
  obtain ⟨t1, h1, a1, a2, a3⟩ := g'
  refine CodeG.of (fun _ e => (by cases e)) a1 a2 fun σ l a w n0 g1 g2 g3 g4 g5 g6 => ?_
  have hv := hg σ t a g2.ctx g4
  rw [hb] at hv
  have : a.eval o = .bool b := by generalize a.eval o = q at hv; cases hv; rfl
  exact wpIn_cond this (a3 σ l a w n0 g1 g2 g3 g4 g5 g6).1

theorem boolK_some' {v : V} {k : Bool → R} (e : boolK v k = some r) : ∃ b, v = .b b ∧ k b = some r := by
  cases v <;> first | (exact ⟨_, rfl, e⟩) | (cases e)

theorem blkK_some {id : Nat} {q : R} {k : KT} (e : blkK id q k = some r) : ∃ r0, q = some r0 ∧ ((∃ t' h', r0 = .nor t' h' ∧ k t' h' = some r) ∨ (∃ t' h', r0 = .ret t' h' ∧ r = .ret t' h') ∨
    (∃ j t' h', r0 = .exit j t' h' ∧ ((j = id ∧ k t' h' = some r) ∨ (j ≠ id ∧ r = .exit j t' h')))) := by
  cases q with
  | none => cases e
  | some y =>
    cases y with
    | val => cases e
    | nor t' h' => exact ⟨_, rfl, .inl ⟨_, _, rfl, e⟩⟩
    | ret t' h' => exact ⟨_, rfl, .inr (.inl ⟨_, _, rfl, by cases e; rfl⟩)⟩
    | exit j t' h' =>
      have e : (Nat.beq j id).rec (motive := fun _ => R) (some (.exit j t' h')) (k t' h') = some r := e
      refine ⟨_, rfl, .inr (.inr ⟨j, t', h', rfl, ?_⟩)⟩
      cases hb : Nat.beq j id <;> rw [hb] at e
      · exact .inr ⟨Nat.ne_of_beq_eq_false hb, by cases e; rfl⟩
      · exact .inl ⟨Nat.eq_of_beq_eq_true hb, e⟩

theorem CodeG.block {id : Nat} {r0 : Res} (g : CodeG P hp rnd nt x t h r0) {t' : T} {h' : H} (hr0 : resOK r0 t' h') (hr : r = (match r0 with | .exit j t h => if j = id then .nor t h else .exit j t h | r => r)) : CodeG P hp rnd nt (.block id x) t h r := by
  obtain ⟨t1, h1, a1, a2, a3⟩ := g
  obtain ⟨rfl, rfl⟩ := hr0.inj a1
  have hr1 : resOK r t' h' := by
    rcases a1 with e | e | ⟨j, e⟩ <;> subst e <;> subst hr
    · exact .inl rfl
    · exact .inr (.inl rfl)
    · by_cases hj : j = id
      · exact .inl (by simp [hj])
      · exact .inr (.inr ⟨j, by simp [hj]⟩)
  refine CodeG.of (fun _ e => (by cases e)) hr1 a2 fun σ l a w n0 g1 g2 g3 g4 g5 g6 => wpIn_block ?_
  refine wpIn_mono (a3 σ l a w n0 g1 g2 g3 g4 g5 g6).1 fun e a' w' hp' => ?_
  obtain ⟨t', h', σ', b1, b2⟩ := hp'
  rcases b1 with ⟨q, rfl⟩ | ⟨q, rfl⟩ | ⟨j, q, rfl⟩ <;> subst q <;> subst hr
  · exact ⟨t', h', σ', .inl ⟨rfl, rfl⟩, b2⟩
  · exact ⟨t', h', σ', .inr (.inl ⟨rfl, rfl⟩), b2⟩
  · by_cases hj : j = id
    · have : Exit.inBlock id (PostOK P σ h w nt n0 (if j = id then .nor t' h' else .exit j t' h')) (.exit j) a' w' := by
        simp only [Exit.inBlock, hj, if_true]
        exact ⟨t', h', σ', .inl ⟨rfl, rfl⟩, b2⟩
      exact this
    · have : Exit.inBlock id (PostOK P σ h w nt n0 (if j = id then .nor t' h' else .exit j t' h')) (.exit j) a' w' := by
        simp only [Exit.inBlock, hj, if_false]
        exact ⟨t', h', σ', .inr (.inr ⟨j, rfl, rfl⟩), b2⟩
      exact this

/-! ### loops -/
theorem LoopW.wp {l : Option Nat} {Q : Exit → Act → World → Prop} {a : Act} {w : World} (g : LoopW (Fx l) 0 P c Q a w) : (Code.loop c).wpIn (Fx l) 0 P Q a w := fun b k cs hro hb hr =>
  let ⟨e, a', w', hq, harr⟩ := g b k cs hro hb hr
  ⟨e, a', w', hq, .of_steps (.one (fenced_calm hb hr rfl) stepR_loop) harr⟩
theorem LoopW.round {l : Option Nat} {Q : Exit → Act → World → Prop} {a : Act} {w : World} (g : c.wpIn (Fx l) 0 P (Exit.then (LoopW (Fx l) 0 P c Q) Q) a w) : LoopW (Fx l) 0 P c Q a w := fun b k cs hro hb hr => by
  obtain ⟨e, a₁, w₁, hq, harr⟩ := g b (.inLoop c :: k) cs hro hb hr
  cases e with
  | normal =>
    obtain ⟨e₂, a₂, w₂, hq₂, harr₂⟩ := hq b k cs hro hb hr
    exact ⟨e₂, a₂, w₂, hq₂, .of_steps (StepsIn.trans harr (.one (fenced_calm hb hr rfl) stepR_inLoop)) harr₂⟩
  | exit id => exact ⟨_, a₁, w₁, hq, .pass (x := .inLoop c) rfl (fun _ _ => .inl (by simp)) harr⟩
  | goto l => exact ⟨_, a₁, w₁, hq, .pass (x := .inLoop c) rfl (fun _ _ => .inl (by simp)) harr⟩
  | ret => exact ⟨_, a₁, w₁, hq, .pass (x := .inLoop c) rfl (fun _ _ => .inl (by simp)) harr⟩
  | panic ch => exact ⟨_, a₁, w₁, hq, .pass (x := .inLoop c) rfl (fun _ _ => .inl (by simp)) harr⟩
  | outgrown => exact ⟨_, a₁, w₁, hq, .pass (x := .inLoop c) rfl (fun _ _ => .inl (by simp)) harr⟩

theorem CodeG.of_loop {t' : T} {h' : H} (h1 : resOK r t' h') (h2 : h.nx ≤ h'.nx)
    (h3 : ∀ σ l a w n0, rnd = l.isSome → St P hp σ h w → Fr σ h.nx h'.nx → TR σ nt t a.tmps → MK P n0 σ h.cl w a.defers → n0 ≤ w.heap.size → LoopW (Fx l) 0 P c (PostOK P σ h w nt n0 r) a w) : CodeG P hp rnd nt (.loop c) t h r :=
  ⟨t', h', h1, h2, fun σ l a w n0 g1 g2 g3 g4 g5 g6 => ⟨(h3 σ l a w n0 g1 g2 g3 g4 g5 g6).wp, fun c0 e => by cases e; exact h3 σ l a w n0 g1 g2 g3 g4 g5 g6⟩⟩
theorem LoopW.mono {l : Option Nat} {Q Q' : Exit → Act → World → Prop} {a : Act} {w : World} (g : LoopW (Fx l) 0 P c Q a w) (hq : ∀ e a w, Q e a w → Q' e a w) : LoopW (Fx l) 0 P c Q' a w := fun b k cs hro hb hr =>
  let ⟨e, a', w', q, harr⟩ := g b k cs hro hb hr
  ⟨e, a', w', hq _ _ _ q, harr⟩

theorem CodeG.loop {t1 : T} {h1 : H} (g : CodeG P hp rnd nt c t h (.nor t1 h1)) (g' : CodeG P hp rnd nt (.loop c) t1 h1 r) : CodeG P hp rnd nt (.loop c) t h r := by
  obtain ⟨t', h', a1, a2, a3⟩ := g
  obtain ⟨rfl, rfl⟩ : t1 = t' ∧ h1 = h' := resOK.inj (.inl rfl) a1
  obtain ⟨t2, h2, b1, b2, b3⟩ := g'
  refine CodeG.of_loop b1 (Nat.le_trans a2 b2) fun σ l a w n0 g1 g2 g3 g4 g5 g6 => LoopW.round ?_
  refine wpIn_mono (a3 σ l a w n0 g1 g2 (g3.head b2) g4 g5 g6).1 fun e a' w' hp' => ?_
  obtain ⟨t', h', σ', c1, c2, c3, c4, c5⟩ := hp'
  rcases c1 with ⟨q, rfl⟩ | ⟨q, rfl⟩ | ⟨_, q, rfl⟩ <;> cases q
  exact ((b3 σ' l a' w' n0 g1 (g2.next c2 c3) (g3.tail c2) c4 c5 (Nat.le_trans g6 c2.size)).2 c rfl).mono fun _ _ _ p => p.then_ c2
theorem CodeG.loop_out (g : CodeG P hp rnd nt c t h r) (hn : ∀ t' h', r ≠ .nor t' h') : CodeG P hp rnd nt (.loop c) t h r := by
  obtain ⟨t1, h1, a1, a2, a3⟩ := g
  refine CodeG.of_loop a1 a2 fun σ l a w n0 g1 g2 g3 g4 g5 g6 => LoopW.round ?_
  refine wpIn_mono (a3 σ l a w n0 g1 g2 g3 g4 g5 g6).1 fun e a' w' hp' => ?_
  have hq := hp'
  obtain ⟨t', h', σ', b1, b2⟩ := hp'
  rcases b1 with ⟨q, rfl⟩ | ⟨q, rfl⟩ | ⟨_, q, rfl⟩
  · exact absurd q (hn _ _)
  · exact hq
  · exact hq
theorem resK_some {q : R} {k : KT} (e : resK q k = some r) : ∃ r0, q = some r0 ∧ ((∃ t' h', r0 = .nor t' h' ∧ k t' h' = some r) ∨ ((∀ t' h', r0 ≠ .nor t' h') ∧ r = r0)) := by
  cases q with
  | none => cases e
  | some y =>
    cases y with
    | val => cases e
    | nor t' h' => exact ⟨_, rfl, .inl ⟨_, _, rfl, e⟩⟩
    | ret t' h' => exact ⟨_, rfl, .inr ⟨fun _ _ h => (by cases h), (by cases e; rfl)⟩⟩
    | exit j t' h' => exact ⟨_, rfl, .inr ⟨fun _ _ h => (by cases h), (by cases e; rfl)⟩⟩
end
end Go.Ev
namespace Go.Ev
section
variable {P : Program} {hp : H} {nt : Nat} {pu : PU} {rnd : Bool} {t : T} {h : H} {r : Res}

theorem pendR_some {t : T} {h : H} {k : KT} {p : Option Code} (e : pendR t h k p = some r) : (p = none ∧ k t h = some r) ∨ (p = some .ret ∧ r = .ret t h) ∨ ∃ id, p = some (.exit id) ∧ r = .exit id t h := by
  unfold pendR at e
  split at e
  · exact .inl ⟨rfl, e⟩
  · cases e; exact .inr (.inl ⟨rfl, rfl⟩)
  · cases e; exact .inr (.inr ⟨_, rfl, rfl⟩)
  · cases e
theorem overK2_some {t : T} {k : KT} {h : H} {id : Nat} (e : overK2 t k h id = some r) : ∃ st p nt t2 ps as bd, h.gt id = .loop st p nt t2 ps as bd ∧ st ≠ 1 ∧ pendR t (h.set id .dead) k p = some r := by
  unfold overK2 at e
  rw [H.getK_gt] at e
  cases hb : h.gt id <;> rw [hb] at e <;> try (exact absurd e (by intro e; cases e))
  rename_i st p nt t2 ps as bd
  obtain ⟨h1, h2⟩ := bi_some.1 e
  refine ⟨st, p, nt, t2, ps, as, bd, rfl, fun hst => ?_, h2⟩
  subst hst
  cases h1

theorem MK.cons {n0 : Nat} {σ : Sg} {c : Cm} {w : World} {ms : List Deferred} (m : MK P n0 σ c w ms) {b : Nat} (hb : w.heap[b]? = some (.deferred (some []))) (h0 : n0 ≤ b) (hc : ∀ id sz, c id ≠ .dead → σ id ≠ some (b, sz))
    (hnew : ∀ d, d ∈ ms → ∀ r, d.target = .collected r → r ≠ b) : MK P n0 σ c w ({ target := .collected b, args := #[] } :: ms) := by
  refine ⟨fun d hd => ?_, List.pairwise_cons.2 ⟨fun d hd r r' h1 h2 => ?_, m.apart⟩⟩
  · rcases List.mem_cons.1 hd with rfl | hd
    · exact .inl ⟨b, rfl, h0, hb, hc⟩
    · exact m.each d hd
  · cases h1
    exact fun e => hnew d hd r' h2 e.symm

/-- the statement 'for .. range g' over a function, in no round -/
theorem cRange_ok {g : Operand} {ps : Array Tmp} {assign body : Code} {f : F} (e : cRange P nt g ps.toList assign body = .mk f) : CodeF P hp false nt (.rangeFunc g ps assign body) f := by
  rcases cO_inv e with h | ⟨gg, hgg, e1⟩
  · exact CodeF.dead h
  cases e1
  intro ih hih t h k r er
  obtain ⟨h0, h1, e2, hn, hcl⟩ := H.new_some er
  obtain ⟨x, h2, e3, e4, e5⟩ := doIter_ok hih e2
  obtain ⟨st, p, nt2, t2, ps2, as2, bd2, hg2, hst, e6⟩ := overK2_some e3
  obtain ⟨r0, hr0, hk⟩ : ∃ r0, ((p = none ∧ r0 = .nor t (h2.set h.nx .dead)) ∨ (p = some .ret ∧ r0 = .ret t (h2.set h.nx .dead)) ∨ ∃ id, p = some (.exit id) ∧ r0 = .exit id t (h2.set h.nx .dead)) ∧
      ((∀ t' h', r0 = .nor t' h' → k t' h' = some r) ∧ ((∀ t' h', r0 ≠ .nor t' h') → r = r0)) := by
    rcases pendR_some e6 with ⟨hp, hk⟩ | ⟨hp, hr⟩ | ⟨id, hp, hr⟩
    · exact ⟨_, .inl ⟨hp, rfl⟩, fun t' h' e => by cases e; exact hk, fun hh => absurd rfl (hh _ _)⟩
    · exact ⟨_, .inr (.inl ⟨hp, rfl⟩), fun t' h' e => (by cases e), fun _ => hr⟩
    · exact ⟨_, .inr (.inr ⟨id, hp, rfl⟩), fun t' h' e => (by cases e), fun _ => hr⟩
  have hres : resOK r0 t (h2.set h.nx .dead) := by
    rcases hr0 with ⟨_, h⟩ | ⟨_, h⟩ | ⟨id, _, h⟩
    · exact .inl h
    · exact .inr (.inl h)
    · exact .inr (.inr ⟨id, h⟩)
  refine ⟨r0, CodeG.of (fun _ e => (by cases e)) hres (by rw [H.nx_set]; omega) fun σ l a w n0 g1 g2 g3 g4 g5 g6 => ?_, hk.1, hk.2⟩
  have hl : l = none := by cases l <;> first | rfl | (cases g1)
  subst hl
  rw [H.nx_set] at g3
  have hfree : σ h.nx = none := g3 _ (Nat.le_refl _) (by omega)
  refine wpIn_rangeFunc (F := Fx none) fun fn _ => ?_
  have hent := run_enterLoop_outer (P := P) (w := w) fn a.tmps ps assign body
  obtain ⟨rec, hrec⟩ : ∃ rec : Loop, rec = { state := .ready, pending := none, fn, tmps := a.tmps, params := ps, assign, body, defers := w.heap.size } := ⟨_, rfl⟩
  rw [← hrec] at hent
  obtain ⟨wa, hwa⟩ : ∃ wa, wa = w.alloc (.deferred (some [])) := ⟨_, rfl⟩
  rw [← hwa] at hent
  have hsa : wa.heap.size = w.heap.size + 1 := by rw [hwa]; simp
  have oka : HeapOK σ h.cl wa := ⟨fun id hc => by
    obtain ⟨b, sz, o, q1, q2, q3⟩ := g2.ok.ok id hc
    exact ⟨b, sz, o, q1, by rw [hwa, alloc_old (g2.ok.lt hc q1)]; exact q2, q3⟩, g2.ok.inj⟩
  have exta : SExt σ h w σ h wa := ⟨⟨Up.refl _, by omega, fun b hb _ => by rw [hwa]; exact alloc_old hb, fun id b sz hc hs _ => ⟨id, sz, hc, hs⟩, fun _ _ _ h => h, by rw [hwa]; exact ⟨rfl, rfl, rfl⟩, fun _ _ _ _ _ _ _ hb => by rw [hwa]; exact alloc_old hb⟩, Nat.le_refl _, fun _ _ => rfl⟩
  have hda : wa.heap[w.heap.size]? = some (.deferred (some [])) := by rw [hwa]; exact alloc_new _ _
  obtain ⟨okb, extb⟩ := oka.new (h' := h1) (b := .loop 0 none nt t ps.toList assign body) (o := .loop rec) (sz := 0) hfree hn hcl ⟨rec, rfl, by rw [hrec]; rfl, by rw [hrec], by rw [hrec]; exact g4.mono (newSg_up hfree), by rw [hrec], by rw [hrec], by rw [hrec]⟩
  rw [hsa] at okb extb
  have ext1 := exta.trans extb
  have st1 := g2.next ext1 okb
  have hy : VRs (newSg σ h.nx (w.heap.size + 1) 0) (.cons (.y h.nx) .nil) (#[.func (.yield (w.heap.size + 1)) #[] #[]] : Array Value).toList := .cons (.y (newSg_at _ _ _ _) h0) .nil
  have hmk : MK P n0 (newSg σ h.nx (w.heap.size + 1) 0) h1.cl (wa.alloc (.loop rec)) ({ target := .collected w.heap.size, args := #[] } :: a.defers) := by
    refine (g5.next ext1).cons (by rw [alloc_old (by omega)]; exact hda) g6 (fun id sz hc hs => ?_) fun d hd r hr => ?_
    · obtain ⟨b', sz', o', q1, q2, q3⟩ := okb.ok id hc
      rw [hs] at q1
      obtain ⟨rfl, rfl⟩ := Prod.mk.inj (Option.some.inj q1)
      rw [alloc_old (by omega), hda] at q2
      cases q2
      generalize h1.cl id = bb at hc q3
      cases bb with
      | cells => obtain ⟨_, _, _, q, _⟩ := q3; cases q
      | tab => obtain ⟨_, _, _, q, _⟩ := q3; cases q
      | map => obtain ⟨_, _, q, _⟩ := q3; cases q
      | siter => obtain ⟨_, q, _⟩ := q3; cases q
      | loop => obtain ⟨_, q, _⟩ := q3; cases q
      | dead => exact hc rfl
    · rcases g5.each d hd with ⟨r', q1, q2, q3, q4⟩ | ⟨fv, cap, f', args', q1, _⟩
      · rw [hr] at q1
        cases q1
        have := (Array.getElem?_eq_some_iff.1 q3).1
        omega
      · rw [hr] at q1
        cases q1
  obtain ⟨d, r1, fn', cs, r3, r4⟩ := e5 _ (wa.alloc (.loop rec)) (a.eval g) #[.func (.yield (w.heap.size + 1)) #[] #[]] st1 (g3.tail ext1) ((hgg σ t a g2.ctx g4).mono ext1.up) hy
  refine ⟨w.heap.size + 1, _, wa.alloc (.loop rec), d, wa.alloc (.loop rec), fn', cs, wa.alloc (.loop rec), hent, ?_, fun _ _ => trivial, r3, fun hh => (by cases hh), ?_⟩
  · simp only [resolve]
    rw [show Array.map a.eval #[Operand.const (Value.func (Fn.yield (w.heap.size + 1)) #[] #[])] = #[Value.func (Fn.yield (w.heap.size + 1)) #[] #[]] from by simp [Act.eval]]
    exact r1 _
  · refine CallsIn.mono (show CallsIn (Fx none) 0 P fn' cs _ _ from r4) fun e w' hR => ?_
    obtain ⟨v', σ', rfl, q1, q2, q3⟩ := hR
    have hs2 : σ' h.nx = some (w.heap.size + 1, 0) := q1.up _ _ (newSg_at _ _ _ _)
    obtain ⟨L, hL, m1, m2, m3⟩ := q2.loopAt h0 hs2 hg2
    obtain ⟨k1, k2⟩ := not_tab' h0 hg2
    have hne : L.state ≠ .busy := fun hb => hst (by rw [← m1, hb]; rfl)
    have hend := run_endLoop (P := P) hL hne
    have hdead : HeapOK σ' (h2.set h.nx .dead).cl (w'.putObj (w.heap.size + 1) (.loop { L with state := .exhausted })) ∧ SExt σ' h2 w' σ' (h2.set h.nx .dead) (w'.putObj (w.heap.size + 1) (.loop { L with state := .exhausted })) :=
      q2.turn h0 hs2 k1 k2 World.putObj_size (World.putObj_heap_same (Array.getElem?_eq_some_iff.1 hL).1) trivial ⟨fun b' hb' => World.putObj_heap_other hb', ⟨rfl, rfl, rfl⟩⟩
    have mk3 := (hmk.next q1).next hdead.2
    have ext3 := ext1.trans (q1.trans hdead.2)
    have ht3 : TR σ' nt t a.tmps := g4.mono ext3.up
    refine ⟨p, _, by rw [← m2]; exact hend, ?_⟩
    rcases hr0 with ⟨rfl, rfl⟩ | ⟨rfl, rfl⟩ | ⟨id, rfl, rfl⟩
    · exact ⟨_, _, σ', .inl ⟨rfl, rfl⟩, ext3, hdead.1, ht3, mk3⟩
    · exact wpIn_ret ⟨_, _, σ', .inr (.inl ⟨rfl, rfl⟩), ext3, hdead.1, ht3, mk3⟩
    · exact wpIn_exit ⟨_, _, σ', .inr (.inr ⟨id, rfl, rfl⟩), ext3, hdead.1, ht3, mk3⟩

/-- a region that draws its order -/
def DrawOK (P : Program) (hp : H) (nt : Nat) (ops : Array Oper) (f : F) : Prop := ∀ ih, IHOK P hp ih → ∀ t h k r, f ih t h k = some r → ∃ t' h', k t' h' = some r ∧ h.nx ≤ h'.nx ∧
  ∀ σ l a w n0 id, St P hp σ h w → Fr σ h.nx h'.nx → TR σ nt t a.tmps → MK P n0 σ h.cl w a.defers → n0 ≤ w.heap.size → (Code.region id ops true).wpIn (Fx l) 0 P (PostOK P σ h w nt n0 (.nor t' h')) a w

theorem cCode_ok (hpo : HpOK P hp) (hpu : PUOK P hp pu) (hdraw : ∀ ops f, cDraw pu P nt ops = .mk f → DrawOK P hp nt ops f) : ∀ {c : Code} {f : F}, cCode pu P rnd nt c = .mk f → CodeF P hp rnd nt c f := by
  intro c
  induction c with
  | skip => intro f e; cases e; exact fun ih hih t h k r er => ⟨.nor t h, CodeG.of (fun _ e => (by cases e)) (.inl rfl) (Nat.le_refl _) fun σ l a w n0 g1 g2 g3 g4 g5 g6 => wpIn_skip ⟨t, h, σ, .inl ⟨rfl, rfl⟩, SExt.refl _ _ _, g2.ok, g4, g5⟩, fun t' h' e => by cases e; exact er, fun hh => absurd rfl (hh _ _)⟩
  | label l0 => intro f e; cases e; exact fun ih hih t h k r er => ⟨.nor t h, CodeG.of (fun _ e => (by cases e)) (.inl rfl) (Nat.le_refl _) fun σ l a w n0 g1 g2 g3 g4 g5 g6 => wpIn_label ⟨t, h, σ, .inl ⟨rfl, rfl⟩, SExt.refl _ _ _, g2.ok, g4, g5⟩, fun t' h' e => by cases e; exact er, fun hh => absurd rfl (hh _ _)⟩
  | exit id => intro f e; cases e; exact fun ih hih t h k r er => ⟨.exit id t h, CodeG.of (fun _ e => (by cases e)) (.inr (.inr ⟨id, rfl⟩)) (Nat.le_refl _) fun σ l a w n0 g1 g2 g3 g4 g5 g6 => wpIn_exit ⟨t, h, σ, .inr (.inr ⟨id, rfl, rfl⟩), SExt.refl _ _ _, g2.ok, g4, g5⟩, fun t' h' e => (by cases e), fun hh => (by cases er; rfl)⟩
  | ret => intro f e; cases e; exact fun ih hih t h k r er => ⟨.ret t h, CodeG.of (fun _ e => (by cases e)) (.inr (.inl rfl)) (Nat.le_refl _) fun σ l a w n0 g1 g2 g3 g4 g5 g6 => wpIn_ret ⟨t, h, σ, .inr (.inl ⟨rfl, rfl⟩), SExt.refl _ _ _, g2.ok, g4, g5⟩, fun t' h' e => (by cases e), fun hh => (by cases er; rfl)⟩
  | region id ops draw =>
    intro f e
    cases draw with
    | true =>
      intro ih hih t h k r er
      obtain ⟨t', h', e1, e2, e3⟩ := hdraw ops f e ih hih t h k r er
      exact ⟨.nor t' h', CodeG.of (fun _ e => (by cases e)) (.inl rfl) e2 fun σ l a w n0 g1 g2 g3 g4 g5 g6 => e3 σ l a w n0 id g2 g3 g4 g5 g6, fun t' h' e => by cases e; exact e1, fun hh => absurd rfl (hh _ _)⟩
    | false =>
      intro ih hih t h k r er
      obtain ⟨t', h', e1, e2, e3⟩ := cOps_ok (hp := hp) hpo hpu (i := 0) (show cOps rnd pu P nt ops ops.toList = .mk f from e) (fun q => by simp) ih hih t h k r er
      refine ⟨.nor t' h', CodeG.of (fun _ e => (by cases e)) (.inl rfl) e2 fun σ l a w n0 g1 g2 g3 g4 g5 g6 => wpIn_region ?_, fun t' h' e => by cases e; exact e1, fun hh => absurd rfl (hh _ _)⟩
      rw [List.range_eq_range', ← Array.length_toList]
      exact e3 σ l a w n0 _ g1 g2 g4 g3 g5 fun a' w' σ' x1 x2 x3 x4 => ⟨t', h', σ', .inl ⟨rfl, rfl⟩, x1, x2, x3, x4⟩
  | seq x y hx hy =>
    intro f e
    cases h1 : cCode pu P rnd nt x with | mk fx =>
    cases h2 : cCode pu P rnd nt y with | mk fy =>
    have e : (cCode pu P rnd nt x).rec (motive := fun _ => Cl) (fun f => (cCode pu P rnd nt y).rec (motive := fun _ => Cl) fun g => .mk fun ih t h k => f ih t h fun t h => g ih t h k) = .mk f := e
    rw [h1, h2] at e
    cases e
    intro ih hih t h k r er
    obtain ⟨r0, a1, a2, a3⟩ := hx h1 ih hih t h _ r er
    by_cases hn : ∃ t' h', r0 = .nor t' h'
    · obtain ⟨t', h', rfl⟩ := hn
      obtain ⟨r1, b1, b2, b3⟩ := hy h2 ih hih _ _ k r (a2 _ _ rfl)
      exact ⟨r1, a1.seq b1, b2, b3⟩
    · have hn' : ∀ t' h', r0 ≠ .nor t' h' := fun t' h' e => hn ⟨t', h', e⟩
      exact ⟨r0, a1.seq_out hn', fun t' h' e => absurd e (hn' _ _), a3⟩
  | cond o x y hx hy =>
    intro f e
    rcases cO_inv (show cO P nt o (fun gx => (cCode pu P rnd nt x).rec (motive := fun _ => Cl) fun f => (cCode pu P rnd nt y).rec (motive := fun _ => Cl) fun g => .mk fun ih t h k => boolK (gx t) fun r => r.rec (g ih t h k) (f ih t h k)) = .mk f from e) with hd | ⟨g, hg, e⟩
    · exact CodeF.dead hd
    cases h1 : cCode pu P rnd nt x with | mk fx =>
    cases h2 : cCode pu P rnd nt y with | mk fy =>
    rw [h1, h2] at e
    cases e
    intro ih hih t h k r er
    obtain ⟨b, hb, e1⟩ := boolK_some' er
    cases b with
    | true =>
      obtain ⟨r0, a1, a2, a3⟩ := hx h1 ih hih t h k r e1
      exact ⟨r0, CodeG.cond hg hb a1, a2, a3⟩
    | false =>
      obtain ⟨r0, a1, a2, a3⟩ := hy h2 ih hih t h k r e1
      exact ⟨r0, CodeG.cond hg hb a1, a2, a3⟩
  | block id x hx =>
    intro f e
    cases h1 : cCode pu P rnd nt x with | mk fx =>
    have e : (cCode pu P rnd nt x).rec (motive := fun _ => Cl) (fun f => .mk fun ih t h k => blkK id (f ih t h norT) k) = .mk f := e
    rw [h1] at e
    cases e
    intro ih hih t h k r er
    obtain ⟨r1, e1, e2⟩ := blkK_some er
    obtain ⟨r0, a1, a2, a3⟩ := hx h1 ih hih t h norT r1 e1
    have hr : r1 = r0 := by
      by_cases hn : ∃ t' h', r0 = .nor t' h'
      · obtain ⟨t', h', rfl⟩ := hn
        have := a2 _ _ rfl
        cases this; rfl
      · exact a3 fun t' h' e => hn ⟨t', h', e⟩
    subst hr
    rcases e2 with ⟨t', h', rfl, hk⟩ | ⟨t', h', rfl, hk⟩ | ⟨j, t', h', rfl, hk⟩
    · exact ⟨.nor t' h', a1.block (.inl rfl) rfl, fun t1 h1 e => by cases e; exact hk, fun hh => absurd rfl (hh _ _)⟩
    · exact ⟨.ret t' h', a1.block (.inr (.inl rfl)) rfl, fun t1 h1 e => (by cases e), fun hh => hk⟩
    · rcases hk with ⟨hj, hk⟩ | ⟨hj, hk⟩
      · exact ⟨.nor t' h', a1.block (.inr (.inr ⟨j, rfl⟩)) (by simp [hj]), fun t1 h1 e => by cases e; exact hk, fun hh => absurd rfl (hh _ _)⟩
      · exact ⟨.exit j t' h', a1.block (.inr (.inr ⟨j, rfl⟩)) (by simp [hj]), fun t1 h1 e => (by cases e), fun hh => hk⟩
  | loop x hx =>
    intro f e
    cases h1 : cCode pu P rnd nt x with | mk fx =>
    have e : (cCode pu P rnd nt x).rec (motive := fun _ => Cl) (fun f => .mk fun ih t h k => resK (f ih t h fun t h => ih (.code rnd nt (.loop x) t h)) k) = .mk f := e
    rw [h1] at e
    cases e
    intro ih hih t h k r er
    obtain ⟨r1, e1, e2⟩ := resK_some er
    obtain ⟨r0, a1, a2, a3⟩ := hx h1 ih hih t h _ r1 e1
    have hg : CodeG P hp rnd nt (.loop x) t h r1 := by
      by_cases hn : ∃ t' h', r0 = .nor t' h'
      · obtain ⟨t', h', rfl⟩ := hn
        exact a1.loop (hih.code _ _ _ _ _ _ (a2 _ _ rfl))
      · have hn' : ∀ t' h', r0 ≠ .nor t' h' := fun t' h' e => hn ⟨t', h', e⟩
        have := a3 hn'
        subst this
        exact a1.loop_out hn'
    rcases e2 with ⟨t', h', rfl, hk⟩ | ⟨hn, hk⟩
    · exact ⟨_, hg, fun t1 h1 e => by cases e; exact hk, fun hh => absurd rfl (hh _ _)⟩
    · exact ⟨_, hg, fun t1 h1 e => absurd e (hn _ _), fun _ => hk⟩
  | rangeFunc g ps assign body _ _ =>
    intro f e
    cases rnd with
    | true => exact CodeF.dead (dead_of e)
    | false => exact cRange_ok e
  | _ => intro f e; exact CodeF.dead (dead_of e)
end
end Go.Ev
namespace Go.Ev
section
variable {P : Program} {hp : H} {nt : Nat} {pu : PU} {t : T} {h : H} {r : Res}

theorem setAll_at {l : V} {σ : Sg} {vs : List Value} (h : VRs σ l vs) : ∀ (n : Nat) (t : T), n + vs.length ≤ 256 → ∀ x, x < 256 →
    (x < n ∨ n + vs.length ≤ x → getT (setAll l n t) x = getT t x) ∧ ∀ y, n ≤ x → vs[x - n]? = some y → VR σ (getT (setAll l n t) x) y := by
  induction vs generalizing l with
  | nil => cases h; exact fun n t _ x hx => ⟨fun _ => rfl, fun y _ e => (by cases e)⟩
  | cons v vs ih =>
    cases h with | @cons a b _ _ h1 h2 =>
    intro n t hn x hx
    rw [List.length_cons] at hn
    have hs : setAll (.cons a b) n t = setAll b (Nat.succ n) (setT t n a) := rfl
    rw [hs]
    obtain ⟨g1, g2⟩ := ih h2 (Nat.succ n) (setT t n a) (by omega) x hx
    refine ⟨fun hh => ?_, fun y hle hy => ?_⟩
    · rw [List.length_cons] at hh
      rw [g1 (by omega), getT_setT _ _ _ _ (by omega) hx, if_neg (by omega)]
    · by_cases hxn : x = n
      · subst hxn
        rw [Nat.sub_self, List.getElem?_cons_zero] at hy
        cases hy
        rw [g1 (by omega), getT_setT _ _ _ _ (by omega) hx, if_pos rfl]
        exact h1
      · refine g2 y (by omega) ?_
        rw [show x - n = (x - Nat.succ n) + 1 by omega, List.getElem?_cons_succ] at hy
        exact hy

theorem TR.start {σ : Sg} {l : V} {vs : Array Value} (h : VRs σ l vs.toList) (hn : vs.size ≤ nt) (h256 : nt ≤ 256) : TR σ nt (setAll l 0 Te) (vs ++ Array.replicate (nt - vs.size) undef) := by
  refine ⟨by simp; omega, h256, fun x hx => ?_⟩
  have hl : vs.toList.length = vs.size := Array.length_toList
  obtain ⟨g1, g2⟩ := setAll_at h 0 Te (by omega) x (by omega)
  by_cases hlt : x < vs.size
  · have hv : (vs ++ Array.replicate (nt - vs.size) undef).getD x undef = vs[x] := by
      rw [Array.getD_eq_getD_getElem?, Array.getElem?_append_left hlt, Array.getElem?_eq_getElem hlt]; rfl
    rw [hv]
    exact g2 _ (Nat.zero_le _) (by rw [Nat.sub_zero, Array.getElem?_toList, Array.getElem?_eq_getElem hlt])
  · have hv : (vs ++ Array.replicate (nt - vs.size) undef).getD x undef = undef := by
      rw [Array.getD_eq_getD_getElem?, Array.getElem?_append_right (by omega)]
      rw [Array.getElem?_replicate]
      split <;> rfl
    rw [hv, g1 (by omega), getT_Te]
    exact VR.undef σ

/-- what a function gives back -/
def resOne (tmps : Array Value) : ResultVar → Sem Value
  | .tmp t => pure (tmps.getD t undef)
  | .cell a t => do loadVar t (← asAddr (tmps.getD a undef))
def RsOK (P : Program) (nt : Nat) (l : List ResultVar) (rs : Rs) : Prop := ∀ t h q r, rs t h q = some r → ∃ vs, q vs = some r ∧ ∀ σ w tmps, HeapOK σ h.cl w → TR σ nt t tmps → ∃ out, (l.mapM (resOne tmps)).run P w = .ok out w ∧ VRs σ vs out
theorem cRes_inv {l : List ResultVar} {k : Rs → Cl} {f : F} (e : cRes P nt l k = .mk f) : Dead f ∨ ∃ rs, RsOK P nt l rs ∧ k rs = .mk f := by
  induction l generalizing k with
  | nil => exact .inr ⟨_, fun t h q r er => ⟨.nil, er, fun σ w tmps _ _ => ⟨[], by simp, .nil⟩⟩, e⟩
  | cons x l ih =>
    cases x with
    | tmp n =>
      rcases cG_inv (show cG nt n (fun g => cRes P nt l fun f => k fun t h q => f t h fun r => q (.cons (g t) r)) = .mk f from e) with h | ⟨hlt, e1⟩
      · exact .inl h
      rcases ih e1 with h | ⟨rs, hrs, e2⟩
      · exact .inl h
      refine .inr ⟨_, fun t h q r er => ?_, e2⟩
      obtain ⟨vs, e3, h3⟩ := hrs _ _ _ _ er
      refine ⟨_, e3, fun σ w tmps ok ht => ?_⟩
      obtain ⟨out, h4, h5⟩ := h3 σ w tmps ok ht
      refine ⟨_ :: out, ?_, .cons (ht.at_ n hlt) h5⟩
      rw [List.mapM_cons]
      simp only [Sem.run_bind, resOne, Sem.run_pure, Result.andThen_ok, h4]
    | cell n ty =>
      rcases cG_inv (show cG nt n (fun g => ocl (shape P ty) fun sh => sh.rec (motive := fun _ => Cl) fun m agg => cRes P nt l fun f => k fun t h q => loadK m agg h (g t) fun v => f t h fun r => q (.cons v r)) = .mk f from e) with h | ⟨hlt, e1⟩
      · exact .inl h
      rcases ocl_inv e1 with h | ⟨sh, hsh, e2⟩
      · exact .inl h
      cases sh with | mk m agg =>
      rcases ih e2 with h | ⟨rs, hrs, e3⟩
      · exact .inl h
      refine .inr ⟨_, fun t h q r er => ?_, e3⟩
      obtain ⟨v, e4, hv⟩ := loadK_some er
      obtain ⟨vs, e5, h3⟩ := hrs _ _ _ _ e4
      obtain ⟨hsz, hagg⟩ := shape_spec hsh
      refine ⟨_, e5, fun σ w tmps ok ht => ?_⟩
      obtain ⟨out, h4, h5⟩ := h3 σ w tmps ok ht
      obtain ⟨b, off, hp, h1, h2⟩ := hv σ w _ ok (ht.at_ n hlt)
      cases agg with
      | true =>
        obtain ⟨cs, hl, hcs, hvr⟩ := h1 rfl
        refine ⟨.agg cs.toArray :: out, ?_, .cons hvr h5⟩
        have hrun := run_loadCells_list (P := P) (w := w) ⟨b, off, none⟩ cs (fun j v hj => by rw [add_none]; exact hcs j v hj)
        rw [hl] at hrun
        rw [List.mapM_cons]
        simp only [Sem.run_bind, resOne, hp, asAddr, Sem.run_pure, Result.andThen_ok, loadVar, aggT_run hagg, if_true, sizeT_run hsz, hrun, h4]
      | false =>
        obtain ⟨y, hy, hvr⟩ := h2 rfl
        refine ⟨y :: out, ?_, .cons hvr h5⟩
        rw [List.mapM_cons]
        simp only [Sem.run_bind, resOne, hp, asAddr, Sem.run_pure, Result.andThen_ok, loadVar, aggT_run hagg, Bool.false_eq_true, if_false, run_load, hy, h4]

def outV (l : List Value) : Value := match l with | [v] => v | l => .tuple l.toArray
theorem results_run {fn : Func} {tmps : Array Value} {w : World} {out : List Value} (h : (fn.results.toList.mapM (resOne tmps)).run P w = .ok out w) :
    (results fn tmps).run P w = .ok (outV out) w := by
  show (do let vs ← fn.results.mapM (resOne tmps); pure (if h : vs.size = 1 then vs[0] else .tuple vs) : Sem Value).run P w = _
  rw [Array.mapM_eq_mapM_toList]
  simp only [Sem.run_bind, Sem.run_map, h, Result.andThen_ok, Sem.run_pure]
  match out with
  | [] => rfl
  | [v] => rfl
  | _ :: _ :: _ => rfl

theorem oneV_ok {σ : Sg} {vs : V} {out : List Value} (h : VRs σ vs out) : VR σ (oneV vs) (outV out) := by
  cases h with
  | nil => exact .t (c := #[]) .nil
  | cons h1 h2 =>
    cases h2 with
    | nil => exact h1
    | cons h3 h4 => exact .t (c := (_ :: _ :: _).toArray) (.cons h1 (.cons h3 h4))

theorem HeapOK.grown {σ : Sg} {c : Cm} {w w' : World} (ok : HeapOK σ c w) (g : Grown w w') : HeapOK σ c w' :=
  ⟨fun id hc => by
    obtain ⟨b, sz, o, q1, q2, q3⟩ := ok.ok id hc
    exact ⟨b, sz, o, q1, by rw [g.old b (Array.getElem?_eq_some_iff.1 q2).1]; exact q2, q3⟩, ok.inj⟩
theorem SExt.grown {σ τ : Sg} {h h' : H} {w w' w'' : World} (e : SExt σ h w τ h' w') (g : Grown w' w'') : SExt σ h w τ h' w'' :=
  ⟨⟨e.up, Nat.le_trans e.size g.size, fun b hb hn => by rw [g.old b (Nat.lt_of_lt_of_le hb e.size)]; exact e.keep b hb hn, e.own, e.tabs, e.same.trans g.same, fun id n l b sz hc hs hb => by rw [g.old b (Nat.lt_of_lt_of_le hb e.size)]; exact e.tabk id n l b sz hc hs hb⟩, e.nx, e.out⟩
theorem MK.tail {n0 : Nat} {σ : Sg} {c : Cm} {w : World} {d : Deferred} {ms : List Deferred} (m : MK P n0 σ c w (d :: ms)) : MK P n0 σ c w ms := ⟨fun d' hd => m.each d' (List.mem_cons_of_mem _ hd), (List.pairwise_cons.1 m.apart).2⟩
theorem MK.grown {n0 : Nat} {σ : Sg} {c : Cm} {w w' : World} {ms : List Deferred} (m : MK P n0 σ c w ms) (g : Grown w w') : MK P n0 σ c w' ms :=
  ⟨fun d hd => by
    rcases m.each d hd with ⟨r, h1, h2, h3, h4⟩ | hben
    · exact .inl ⟨r, h1, h2, by rw [g.old r (Array.getElem?_eq_some_iff.1 h3).1]; exact h3, h4⟩
    · exact .inr hben, m.apart⟩

/-- the marks are taken, one by one -/
theorem leaves_marks {fn : Func} {tmps : Array Value} {R : Ending → World → Prop} {σ0 σ : Sg} {h0 h : H} {w0 : World} : ∀ {ms : List Deferred} {w : World}, HeapOK σ h.cl w → SExt σ0 h0 w0 σ h w → MK P w0.heap.size σ h.cl w ms →
    (∀ w', HeapOK σ h.cl w' → SExt σ0 h0 w0 σ h w' → ∃ v, (results fn tmps).run P w' = .ok v w' ∧ R (.returned v) w') → LeavesInM Fence.wide 0 P fn tmps R ms .returning w
  | [], w, ok, ext, mk, hfin => hfin w ok ext
  | d :: ms, w, ok, ext, mk, hfin => by
    have hap := List.pairwise_cons.1 mk.apart
    rcases mk.each d (List.mem_cons_self ..) with ⟨b, hb1, hb2, hb3, hb4⟩ | ⟨fv, cap, f, args, d1, d2, d3⟩
    case inr =>
      refine ⟨fun h => (by cases h), .inr ⟨fun hh => (by cases hh), fv, cap, f, args, d1, d2 w, fun _ _ => trivial, (d3 w).mono fun e u' w' ⟨⟨v, hv⟩, hu, hg⟩ => ?_⟩⟩
      subst hv hu
      exact leaves_marks (ok.grown hg) (ext.grown hg) ((mk.tail).grown hg) hfin
    refine ⟨fun h => (by cases h), .inl ⟨b, _, hb1, run_takeDeferred hb3, leaves_marks ?_ ?_ ?_ hfin⟩⟩
    · refine ⟨fun id hc => ?_, ok.inj⟩
      obtain ⟨b', sz, o, q1, q2, q3⟩ := ok.ok id hc
      exact ⟨b', sz, o, q1, by rw [World.putObj_heap_other fun e => hb4 id sz hc (by rw [← e]; exact q1)]; exact q2, q3⟩
    · refine ⟨⟨ext.up, by rw [World.putObj_size]; exact ext.size, fun b' hb' hn => ?_, ext.own, ext.tabs, ext.same.trans ⟨rfl, rfl, rfl⟩, fun id n l b' sz hc hs hb' => ?_⟩, ext.nx, ext.out⟩
      · rw [World.putObj_heap_other (by omega)]
        exact ext.keep b' hb' hn
      · rw [World.putObj_heap_other (by omega)]
        exact ext.tabk id n l b' sz hc hs hb'
    · refine ⟨fun d' hd' => ?_, hap.2⟩
      rcases mk.each d' (List.mem_cons_of_mem _ hd') with ⟨r', q1, q2, q3, q4⟩ | hben
      · exact .inl ⟨r', q1, q2, by rw [World.putObj_heap_other fun e => hap.1 d' hd' b r' hb1 q1 e.symm]; exact q3, q4⟩
      · exact .inr hben

theorem cFun_ok (hpo : HpOK P hp) (hpu : PUOK P hp pu) (hdraw : ∀ nt ops f, cDraw pu P nt ops = .mk f → DrawOK P hp nt ops f) {fid : FuncId} {fn : Func} (hfn : P.funcs[fid]? = some fn) {f : F} (e : cFun pu P fn = .mk f)
    {ih : IH} (hih : IHOK P hp ih) {args : V} {h : H} {r : Res} (er : f ih (setAll args 0 Te) h norT = some r) : fn.body.isNone = false ∧ ∃ x h', r = .val x h' ∧ h.nx ≤ h'.nx ∧
      ∀ σ w vs, St P hp σ h w → Fr σ h.nx h'.nx → VRs σ args vs.toList → vs.size ≤ fn.ntmps → CallsIn Fence.wide 0 P fid vs w (EndOK σ h w x h') := by
  rcases bcl_inv e with hd | ⟨h256, e1⟩
  · rw [hd] at er; cases er
  have h256 : fn.ntmps ≤ 256 := Nat.le_of_ble_eq_true h256
  rcases ocl_inv e1 with hd | ⟨c, hc, e2⟩
  · rw [hd] at er; cases er
  refine ⟨by rw [hc]; rfl, ?_⟩
  cases h1 : cCode pu P false fn.ntmps c with | mk fc =>
  rw [h1] at e2
  rcases cRes_inv e2 with hd | ⟨rs, hrs, e3⟩
  · rw [hd] at er; cases er
  cases e3
  obtain ⟨r1, e4, e5⟩ : ∃ r1, fc ih (setAll args 0 Te) h norT = some r1 ∧ ((∃ t' h', (r1 = .nor t' h' ∨ r1 = .ret t' h') ∧ rs t' h' (fun vs => some (.val (oneV vs) h')) = some r)) := by
    have er : endR (fc ih (setAll args 0 Te) h norT) (fun t h => rs t h fun vs => some (.val (oneV vs) h)) = some r := er
    cases hq : fc ih (setAll args 0 Te) h norT with
    | none => rw [hq] at er; cases er
    | some y =>
      rw [hq] at er
      cases y with
      | val => cases er
      | nor t' h' => exact ⟨_, rfl, t', h', .inl rfl, er⟩
      | ret t' h' => exact ⟨_, rfl, t', h', .inr rfl, er⟩
      | exit => cases er
  obtain ⟨t', h', hr1, e6⟩ := e5
  obtain ⟨vs, e7, e8⟩ := hrs _ _ _ _ e6
  cases e7
  obtain ⟨r0, a1, a2, a3⟩ := cCode_ok hpo hpu (hdraw fn.ntmps) h1 ih hih _ _ _ _ e4
  have hr0 : r1 = r0 := by
    by_cases hn : ∃ t' h', r0 = .nor t' h'
    · obtain ⟨t', h', rfl⟩ := hn
      have := a2 _ _ rfl
      cases this; rfl
    · exact a3 fun t' h' e => hn ⟨t', h', e⟩
  subst hr0
  obtain ⟨t2, h2, b1, b2, b3⟩ := a1
  obtain ⟨rfl, rfl⟩ : t' = t2 ∧ h' = h2 := resOK.inj (hr1.elim .inl fun h => .inr (.inl h)) b1
  refine ⟨_, h', rfl, b2, fun σ w va st fr hv hsz => callsIn_of_wp_marks hfn hc trivial ?_⟩
  have hw := (b3 σ none ⟨va ++ Array.replicate (fn.ntmps - va.size) undef, []⟩ w w.heap.size rfl st fr (TR.start hv hsz h256) (MK.nil _ _ _ _ _) (Nat.le_refl _)).1
  refine wpIn_mono (F := Fence.wide) hw fun e a' w' hpost => ?_
  obtain ⟨t2, h2, σ', c1, c2, c3, c4, c5⟩ := hpost
  have hth : (t2 = t' ∧ h2 = h') ∧ (e = .normal ∨ e = .ret) := by
    rcases c1 with ⟨q, he⟩ | ⟨q, he⟩ | ⟨_, q, he⟩ <;> rcases hr1 with g | g <;> rw [g] at q <;> cases q
    · exact ⟨⟨rfl, rfl⟩, .inl he⟩
    · exact ⟨⟨rfl, rfl⟩, .inr he⟩
  obtain ⟨⟨rfl, rfl⟩, he⟩ := hth
  have hleave : LeavesInM Fence.wide 0 P fn a'.tmps (EndOK σ h w (oneV vs) h2) a'.defers .returning w' := leaves_marks c3 c2 c5 fun w2 ok2 ext2 => by
    obtain ⟨out, q1, q2⟩ := e8 σ' w2 a'.tmps ok2 c4
    exact ⟨_, results_run q1, _, σ', rfl, ext2, ok2, oneV_ok q2⟩
  rcases he with rfl | rfl
  · exact hleave
  · exact hleave

theorem step_ok (hpo : HpOK P hp) (hpu : PUOK P hp pu) (hdraw : ∀ nt ops f, cDraw pu P nt ops = .mk f → DrawOK P hp nt ops f) {ih : IH} (hih : IHOK P hp ih) : IHOK P hp (step pu P ih) := by
  refine ⟨fun fid args h r er => ?_, fun rnd nt c t h r er => ?_⟩
  · obtain ⟨hfit, e1⟩ := bi_some.1 (show bi (fits P fid args) ((cFn pu P fid).rec (motive := fun _ => R) fun g => g ih (setAll args 0 Te) h norT) = some r from er)
    cases hc : cFn pu P fid with | mk f =>
    rw [hc] at e1
    have e1 : f ih (setAll args 0 Te) h norT = some r := e1
    rcases ocl_inv hc with hd | ⟨fn, hfn, e2⟩
    · rw [hd] at e1; cases e1
    obtain ⟨g1, x, h', g2, g3, g4⟩ := cFun_ok hpo hpu hdraw hfn e2 hih e1
    unfold fits at hfit
    rw [hfn] at hfit
    simp only [Bool.and_eq_true, Bool.not_eq_true'] at hfit
    refine ⟨x, h', g2, g3, ⟨fn, hfn, g1, hfit.2⟩, fun σ w vs st fr hv => g4 σ w vs st fr hv ?_⟩
    have := Nat.le_of_ble_eq_true hfit.1
    rw [hv.len, Array.length_toList] at this
    exact this
  · cases hc : cCode pu P rnd nt c with | mk f =>
    have er : (cCode pu P rnd nt c).rec (motive := fun _ => R) (fun g => g ih t h norT) = some r := er
    rw [hc] at er
    obtain ⟨r0, a1, a2, a3⟩ := cCode_ok hpo hpu (hdraw nt) hc ih hih _ _ _ _ er
    have hr0 : r = r0 := by
      by_cases hn : ∃ t' h', r0 = .nor t' h'
      · obtain ⟨t', h', rfl⟩ := hn
        have := a2 _ _ rfl
        cases this; rfl
      · exact a3 fun t' h' e => hn ⟨t', h', e⟩
    rw [hr0]; exact a1

/-- **THE EVALUATOR TELLS WHAT THE MACHINE DOES** -/
theorem ev_ok (hpo : HpOK P hp) (hpu : PUOK P hp pu) (hdraw : ∀ nt ops f, cDraw pu P nt ops = .mk f → DrawOK P hp nt ops f) : ∀ n, IHOK P hp (ev pu P n)
  | 0 => ⟨fun _ _ _ _ e => (by cases e), fun _ _ _ _ _ _ e => (by cases e)⟩
  | n + 1 => step_ok hpo hpu hdraw (ev_ok hpo hpu hdraw n)

theorem PUOK.none : PUOK P hp fun _ _ => none := ⟨fun _ _ _ _ e => (by cases e), fun _ _ _ _ _ e => (by cases e)⟩
theorem PUOK.of {ih : IH} (hih : IHOK P hp ih) : PUOK P hp fun f vs => ih (.call f vs hp) := by
  refine ⟨fun f vs x h' e => ?_, fun g vs i t h' e => ?_⟩
  · obtain ⟨x, h', h1, h2, h3, h4⟩ := hih.call _ _ _ _ e
    cases h1
    exact ⟨h2, h3, fun σ w args st fr hv => h4 σ w args st fr hv⟩
  · obtain ⟨x, h', h1, _⟩ := hih.call _ _ _ _ e
    cases h1
/-- a function of n arguments that is known to be harmless where it is put off -/
def withBen (b n : Nat) (hp : H) (pu : PU) : PU := fun f vs => (Nat.beq f b).rec (pu f vs) ((Nat.beq (lenV vs) n).rec none (some (.exit 0 Te hp)))
theorem PUOK.withBen {b n : Nat} (h : PUOK P hp pu) (hr : RunsFn P b) (hb : ∀ args : Array Value, args.size = n → ∀ w, CallsDIn Fence.wide 0 P b args .returning w (BenEnd w)) : PUOK P hp (withBen b n hp pu) := by
  have key : ∀ f vs r, Go.Ev.withBen b n hp pu f vs = some r → pu f vs = some r ∨ (f = b ∧ lenV vs = n ∧ r = .exit 0 Te hp) := fun f vs r e => by
    unfold Go.Ev.withBen at e
    cases hf : Nat.beq f b with
    | false => rw [hf] at e; exact .inl e
    | true =>
      rw [hf] at e
      cases hl : Nat.beq (lenV vs) n with
      | false => rw [hl] at e; cases e
      | true => rw [hl] at e; cases e; exact .inr ⟨Nat.eq_of_beq_eq_true hf, Nat.eq_of_beq_eq_true hl, rfl⟩
  refine ⟨fun f vs x h' e => ?_, fun g vs i t h' e => ?_⟩
  · rcases key _ _ _ e with e | ⟨_, _, e⟩
    · exact h.call _ _ _ _ e
    · cases e
  · rcases key _ _ _ e with e | ⟨rfl, hl, _⟩
    · exact h.ben _ _ _ _ _ e
    · refine ⟨hr, fun σ args hv => hb args ?_⟩
      rw [← hl, hv.len, Array.length_toList]
end
end Go.Ev
namespace Go.Ev
section
variable {P : Program} {hp : H} {nt : Nat} {f : F} {pu : PU} {ops : Array Oper}

/-- the step by the other temporaries: those looked at are the same -/
theorem Stp.move {l : Option Nat} {o : Oper} {a b : Act} {w : World} {X : Value → World → Prop} (hs : ∀ cs c, o.op ≠ .select cs c) (hd : ∀ c, o.op ≠ .defer c)
    (h : Stp P l ops o a w fun a' w' => ∃ v', a' = a.put o.dst v' ∧ X v' w') (ho : ∀ x ∈ o.op.operands, a.eval x = b.eval x) (hsz : a.tmps.size = b.tmps.size) (hnd : ∀ d, o.dst = some d → d < a.tmps.size)
    (hg : Region.wanted o (yielded ops a.tmps) = Region.wanted o (yielded ops b.tmps)) : Stp P l ops o b w fun a' w' => ∃ v', a' = b.put o.dst v' ∧ X v' w' := by
  have hput : ∀ v v', a.put o.dst v = a.put o.dst v' → b.put o.dst v = b.put o.dst v' := fun v v' e => by
    cases hdst : o.dst with
    | none => rfl
    | some d =>
      rw [hdst] at e
      have hlt := hnd d hdst
      have e1 : a.tmps.setIfInBounds d v = a.tmps.setIfInBounds d v' := congrArg Act.tmps e
      have e2 : (a.tmps.setIfInBounds d v)[d]? = (a.tmps.setIfInBounds d v')[d]? := by rw [e1]
      rw [Array.getElem?_setIfInBounds_self_of_lt hlt, Array.getElem?_setIfInBounds_self_of_lt hlt] at e2
      cases e2; rfl
  intro K Q hk
  have h0 := h (fun a' w' => ∃ v', a' = a.put o.dst v' ∧ X v' w') (fun _ _ _ => False) fun _ _ h => h
  rw [hg] at h0
  have hK : ∀ v w', (∃ v', a.put o.dst v = a.put o.dst v' ∧ X v' w') → K (b.put o.dst v) w' := fun v w' ⟨v', e, hx⟩ => hk _ _ ⟨v', hput _ _ e, hx⟩
  by_cases hw : Region.wanted o (yielded ops b.tmps) = true
  · rw [if_pos hw] at h0 ⊢
    refine ⟨fun _ _ => trivial, ?_⟩
    have h1 := h0.2
    rw [Oper.semAt_eq _ _ _ hd, execOp_congr o hs ho] at h1
    rw [Oper.semAt_eq _ _ _ hd]
    generalize (execOp b.eval o).run P w = r at h1 ⊢
    cases r with
    | ok x w' =>
      cases x <;> simp only [Oper.uponIn] at h1 ⊢ <;>
        first
          | exact hK _ _ h1
          | exact ⟨h1.1, CallsIn.mono h1.2 (fun e w'' he => by cases e <;> first | exact hK _ _ he | exact he.elim | (obtain ⟨_, _, h⟩ := he; exact h.elim))⟩
          | exact ⟨h1.1, RowsIn.mono h1.2 (fun _ _ he => hK _ _ he)⟩
          | exact ⟨h1.1, RoundIn.mono h1.2 (fun e w'' he => by cases e <;> first | exact hK _ _ he | exact he.elim | (obtain ⟨_, _, h⟩ := he; exact h.elim))⟩
          | (exfalso
             obtain ⟨v', e, _⟩ := h1
             have e1 := congrArg Act.defers e
             have e2 : ∀ (c : Act) v, (c.put o.dst v).defers = c.defers := fun c v => by cases o.dst <;> rfl
             rw [e2, e2] at e1
             exact absurd (congrArg List.length e1) (by simp))
    | halt x w' => cases x <;> simp only [Oper.uponIn] at h1 ⊢
  · rw [if_neg hw] at h0 ⊢
    exact ⟨fun _ _ => trivial, hK _ _ h0.2⟩

/-- an operation that needs nothing of the heap, or looks at it, or makes a block -/
structure Quiet (P : Program) (nt : Nat) (ops : Array Oper) (o : Oper) (t : T) (h h' : H) (v : V) (Y : Sg → World → Prop) : Prop where
  nx : h.nx ≤ h'.nx ∧ h'.nx ≤ h.nx + 1
  cl : h'.cl = fun x => if h'.nx = h.nx + 1 ∧ x = h.nx then h'.cl x else h.cl x
  step : ∀ σ l a w, Ctx P σ → TR σ nt t a.tmps → σ h.nx = none → Y σ w → ∃ v' w' σ', Stp P l ops o a w (fun a1 w1 => ∃ v1, a1 = a.put o.dst v1 ∧ v1 = v' ∧ w1 = w') ∧ VR σ' v v' ∧
    ((h'.nx = h.nx ∧ w' = w ∧ σ' = σ) ∨ (h'.nx = h.nx + 1 ∧ ∃ obj sz, w' = w.alloc obj ∧ σ' = newSg σ h.nx w.heap.size sz ∧ BOK σ' (h'.cl h.nx) sz obj))

theorem stp_exec {l : Option Nat} {o : Oper} {a : Act} {w w' : World} {v' : Value} (hd : ∀ c, o.op ≠ .defer c) (hw : Region.wanted o (yielded ops a.tmps) = true) (h : (execOp a.eval o).run P w = .ok (.value v') w') :
    Stp P l ops o a w fun a1 w1 => ∃ v1, a1 = a.put o.dst v1 ∧ v1 = v' ∧ w1 = w' := fun K Q hk => by
  rw [if_pos hw]
  refine ⟨fun _ _ => trivial, ?_⟩
  rw [Oper.semAt_eq _ _ _ hd, h]
  exact hk _ _ ⟨v', rfl, rfl, rfl⟩
theorem stp_skip {l : Option Nat} {o : Oper} {a : Act} {w : World} (hw : ¬ Region.wanted o (yielded ops a.tmps) = true) :
    Stp P l ops o a w fun a1 w1 => ∃ v1, a1 = a.put o.dst v1 ∧ v1 = undef ∧ w1 = w := fun K Q hk => by
  rw [if_neg hw]
  exact ⟨fun _ _ => trivial, hk _ _ ⟨undef, rfl, rfl, rfl⟩⟩

theorem cls_defer {op : Op} (h : cls op ≠ 3) : ∀ c, op ≠ .defer c := fun c e => by subst e; exact h rfl

/-- by the guard: what is wanted is done, what is not is passed over -/
theorem quiet_guard {o : Oper} (e : cOper pu P nt ops o = .mk f) {ih : IH} {t : T} {h : H} {k : KT} {r : Res} (er : f ih t h k = some r) :
    ∃ s f0, SOK nt o.dst s ∧ cOp pu o.op P nt s = .mk f0 ∧
      ((f0 ih t h k = some r ∧ ∀ σ tm, TR σ nt t tm → Region.wanted o (yielded ops tm) = true) ∨ (k (putT t o.dst undefV) h = some r ∧ ∀ σ tm, TR σ nt t tm → ¬ Region.wanted o (yielded ops tm) = true)) := by
  rcases cOper_cases e with hd | ⟨s, f0, hs, hop, hg⟩
  · rw [hd] at er; cases er
  refine ⟨s, f0, hs, hop, ?_⟩
  rcases hg with ⟨hg, rfl⟩ | ⟨j, w0, d, hg, hd, hlt, rfl⟩
  · exact .inl ⟨er, fun σ tm _ => by unfold Region.wanted; rw [hg]⟩
  · rcases wantV_some er with ⟨hv, er⟩ | ⟨hv, er⟩
    · refine .inl ⟨er, fun σ tm ht => (wanted_of hg hd (by rw [ht.size]; exact hlt)).2 ?_⟩
      have hat := ht.at_ d hlt
      rw [hv] at hat
      generalize tm.getD d undef = y at hat
      cases hat; rfl
    · have er : k (s undefV t) h = some r := er
      rw [hs.eq] at er
      refine .inr ⟨er, fun σ tm ht hw => ?_⟩
      have hx := (wanted_of hg hd (by rw [ht.size]; exact hlt)).1 hw
      have hat := ht.at_ d hlt
      rw [hx] at hat
      generalize hgv : getT t d = y at hat
      cases hat
      exact hv _ hgv rfl

theorem Quiet.skip {o : Oper} {t : T} {h : H} {Y : Sg → World → Prop} (hw : ∀ σ tm, TR σ nt t tm → ¬ Region.wanted o (yielded ops tm) = true) : Quiet P nt ops o t h h undefV Y :=
  ⟨⟨Nat.le_refl _, Nat.le_succ _⟩, by funext x; rw [if_neg (by omega)], fun σ l a w _ ht _ _ => ⟨undef, w, σ, stp_skip (hw σ _ ht), VR.undef σ, .inl ⟨rfl, rfl, rfl⟩⟩⟩

theorem quiet_pure {o : Oper} (hc : cls o.op = 0) (e : cOper pu P nt ops o = .mk f) {ih : IH} {t : T} {h : H} {k : KT} {r : Res} (er : f ih t h k = some r) :
    ∃ v, k (putT t o.dst v) h = some r ∧ ∀ Y, Quiet P nt ops o t h h v Y := by
  obtain ⟨s, f0, hs, hop, hg⟩ := quiet_guard e er
  rcases hg with ⟨e1, hw⟩ | ⟨e1, hw⟩
  · obtain ⟨v, e2, h2⟩ := cOp_pure hc hop ih t h k r e1
    rw [hs.eq] at e2
    refine ⟨v, e2, fun Y => ⟨⟨Nat.le_refl _, Nat.le_succ _⟩, by funext x; rw [if_neg (by omega)], fun σ l a w cx ht _ _ => ?_⟩⟩
    obtain ⟨v', h3, h4⟩ := h2 σ a cx ht o.dst o.type o.pos o.after o.guard
    exact ⟨v', w, σ, stp_exec (cls_defer (by rw [hc]; decide)) (hw σ _ ht) (h3 w), h4, .inl ⟨rfl, rfl, rfl⟩⟩
  · exact ⟨undefV, e1, fun Y => Quiet.skip hw⟩

/-- a look at one heap -/
theorem quiet_look {o : Oper} (hc : cls o.op = 1) (e : cOper pu P nt ops o = .mk f) {ih : IH} {t : T} {hs0 : H} {k : KT} {r : Res} (er : f ih t hs0 k = some r) :
    ∃ v, k (putT t o.dst v) hs0 = some r ∧ ∀ h, Quiet P nt ops o t h h v fun σ w => HeapOK σ hs0.cl w := by
  obtain ⟨s, f0, hs, hop, hg⟩ := quiet_guard e er
  rcases hg with ⟨e1, hw⟩ | ⟨e1, hw⟩
  · obtain ⟨v, e2, h2⟩ := cOp_look hc hop ih t hs0 k r e1
    rw [hs.eq] at e2
    refine ⟨v, e2, fun h => ⟨⟨Nat.le_refl _, Nat.le_succ _⟩, by funext x; rw [if_neg (by omega)], fun σ l a w cx ht _ ok => ?_⟩⟩
    obtain ⟨v', h3, h4⟩ := h2 σ a w cx ht ok o.dst o.type o.pos o.after o.guard
    exact ⟨v', w, σ, stp_exec (cls_defer (by rw [hc]; decide)) (hw σ _ ht) h3, h4, .inl ⟨rfl, rfl, rfl⟩⟩
  · exact ⟨undefV, e1, fun h => Quiet.skip hw⟩

theorem quiet_new {o : Oper} (hc : cls o.op = 2) (e : cOper pu P nt ops o = .mk f) {ih : IH} {t : T} {h : H} {k : KT} {r : Res} (er : f ih t h k = some r) :
    ∃ v h', k (putT t o.dst v) h' = some r ∧ ∀ Y, Quiet P nt ops o t h h' v Y := by
  obtain ⟨s, f0, hs, hop, hg⟩ := quiet_guard e er
  rcases hg with ⟨e1, hw⟩ | ⟨e1, hw⟩
  · obtain ⟨v, b, h', e2, h0, hn, hcl, h2⟩ := cOp_new hc hop ih t h k r e1
    rw [hs.eq] at e2
    have hcl2 : h'.cl h.nx = b := by rw [hcl]; simp
    refine ⟨v, h', e2, fun Y => ⟨⟨by omega, by omega⟩, ?_, fun σ l a w cx ht hf _ => ?_⟩⟩
    · funext x
      by_cases hx : x = h.nx
      · rw [if_pos ⟨hn, hx⟩]
      · rw [if_neg (fun hh => hx hh.2), hcl]; simp [hx]
    · obtain ⟨v', obj, sz, h3, h4, h5⟩ := h2 σ a w cx ht hf o.dst o.type o.pos o.after o.guard
      exact ⟨v', _, _, stp_exec (cls_defer (by rw [hc]; decide)) (hw σ _ ht) h3, h4, .inr ⟨hn, obj, sz, rfl, rfl, by rw [hcl2]; exact h5⟩⟩
  · exact ⟨undefV, h, e1, fun Y => Quiet.skip hw⟩
end
end Go.Ev
namespace Go.Ev

theorem band {a b : Bool} (h : a.rec (motive := fun _ => Bool) false b = true) : a = true ∧ b = true := by cases a <;> first | (cases h; done) | exact ⟨rfl, h⟩
theorem eqV_ok {v : V} : ∀ {w : V}, eqV v w = true → v = w := by
  induction v with
  | b x => intro w h; cases w <;> first | (cases h; done) | (rename_i y; cases x <;> cases y <;> first | rfl | (cases h))
  | i a b => intro w h; cases w <;> first | (cases h; done) | (obtain ⟨h1, h2⟩ := band h; rw [Nat.eq_of_beq_eq_true h1, Nat.eq_of_beq_eq_true h2])
  | j a b => intro w h; cases w <;> first | (cases h; done) | (obtain ⟨h1, h2⟩ := band h; rw [Nat.eq_of_beq_eq_true h1, Nat.eq_of_beq_eq_true h2])
  | s a b => intro w h; cases w <;> first | (cases h; done) | (obtain ⟨h1, h2⟩ := band h; rw [Nat.eq_of_beq_eq_true h1, Nat.eq_of_beq_eq_true h2])
  | z a => intro w h; cases w <;> first | (cases h; done) | (rw [Nat.eq_of_beq_eq_true h])
  | m a => intro w h; cases w <;> first | (cases h; done) | (rw [Nat.eq_of_beq_eq_true h])
  | p a b => intro w h; cases w <;> first | (cases h; done) | (obtain ⟨h1, h2⟩ := band h; rw [Nat.eq_of_beq_eq_true h1, Nat.eq_of_beq_eq_true h2])
  | l a b c d => intro w h; cases w <;> first | (cases h; done) | (obtain ⟨h1, h2⟩ := band h; obtain ⟨h2, h3⟩ := band h2; obtain ⟨h3, h4⟩ := band h3; rw [Nat.eq_of_beq_eq_true h1, Nat.eq_of_beq_eq_true h2, Nat.eq_of_beq_eq_true h3, Nat.eq_of_beq_eq_true h4])
  | a n l ih => intro w h; cases w <;> first | (cases h; done) | (obtain ⟨h1, h2⟩ := band h; rw [Nat.eq_of_beq_eq_true h1, ih h2])
  | nil => intro w h; cases w <;> first | (cases h; done) | rfl
  | cons x r ihx ihr => intro w h; cases w <;> first | (cases h; done) | (obtain ⟨h1, h2⟩ := band h; rw [ihx h1, ihr h2])
  | _ => intro w h; cases h

section
variable {P : Program} {hp : H} {nt : Nat} {f : F} {pu : PU} {ops : Array Oper}

def fillT (ds : List Nat) (t0 t : T) : T := ds.foldr (fun d u => setT u d (getT t d)) t0
theorem cPutD_eq (d : Nat) : cPutD d = .mk fun t1 t => setT t d (getT t1 d) := by
  unfold cPutD
  rw [selV_eq]
  simp only
  rw [selN_eq]
  rfl
theorem cNeed_eq (ds : List Nat) : cNeed ds = .mk (fillT ds) := by
  induction ds with
  | nil => rfl
  | cons d ds ih =>
    show (cNeed ds).rec (motive := fun _ => FL) (fun f => (cPutD d).rec (motive := fun _ => FL) fun p => .mk fun t0 t => p t (f t0 t)) = _
    rw [ih, cPutD_eq]
    rfl
theorem cPut_eq (dst : Option Tmp) : cPut dst = .mk fun t1 t => putT t dst (match dst with | none => undefV | some d => getT t1 d) := by
  cases dst with
  | none => rfl
  | some d => exact cPutD_eq d

/-- a step of the plan, and what it gave -/
structure PS where
  j : Nat
  o : Oper
  t : T
  h : H
  h' : H
  v : V
  loud : Bool
  ls : List H

structure OutOK (P : Program) (hp : H) (nt : Nat) (ops : Array Oper) (e : PS) : Prop where
  quiet : e.loud = false → Quiet P nt ops e.o e.t e.h e.h' e.v (fun σ w => e.ls = [] ∨ ∃ S ∈ e.ls, HeapOK σ S.cl w)
  loud_ : e.loud = true → e.h.nx ≤ e.h'.nx ∧ ∀ σ l a w, St P hp σ e.h w → TR σ nt e.t a.tmps → Fr σ e.h.nx e.h'.nx → Stp P l ops e.o a w fun a' w' => ∃ v', a' = a.put e.o.dst v' ∧ ∃ σ', SExt σ e.h w σ' e.h' w' ∧ HeapOK σ' e.h'.cl w' ∧ VR σ' e.v v'
  supp : (∀ cs c, e.o.op ≠ .select cs c) ∧ ∀ c, e.o.op ≠ .defer c

inductive Run (P : Program) (hp : H) (nt : Nat) (ops : Array Oper) (bm : List Nat) (t0 : T) : T → H → List H → List PE → List PS → T → H → Prop
  | nil {t h ss} : Run P hp nt ops bm t0 t h ss [] [] t h
  | cons {pe r t h ss e L t' h'} (hj : e.j = pe.j) (ho : e.o = pe.o) (hh : e.h = h) (ht : e.t = fillT (needsOf ops bm pe.j pe.o) t0 t) (ok : OutOK P hp nt ops e) (hl : e.loud = Nat.beq pe.kind 3)
      (hls : e.ls = if Nat.beq pe.kind 1 then ss.take (pe.back + 1) else []) (hls1 : pe.kind = 1 → pe.back + 1 ≤ ss.length) (rest : Run P hp nt ops bm t0 (putT t e.o.dst e.v) e.h' (if e.loud then e.h' :: ss else ss) r L t' h') : Run P hp nt ops bm t0 t h ss (pe :: r) (e :: L) t' h'

theorem agree_some {o : Oper} (hc : cls o.op = 1) (e : cOper pu P nt ops o = .mk f) {d : Nat} (hd : o.dst = some d) (h256 : d < 256) {ih : IH} {t : T} {v : V} {y : R} {r : Res} : ∀ {n : Nat} {ss : List H},
    agree f ih t (fun t => getT t d) v n ss y = some r → n ≤ ss.length ∧ y = some r ∧ ∀ S ∈ ss.take n, ∀ h, Quiet P nt ops o t h h v fun σ w => HeapOK σ S.cl w
  | 0, ss, er => ⟨Nat.zero_le _, er, fun S hS => by simp at hS⟩
  | n + 1, [], er => by cases er
  | n + 1, S0 :: ss, er => by
    have er : f ih t S0 (fun t2 _ => bi (eqV (getT t2 d) v) (agree f ih t (fun t => getT t d) v n ss y)) = some r := er
    obtain ⟨v', e1, q⟩ := quiet_look hc e er
    obtain ⟨h1, e2⟩ := bi_some.1 e1
    have hv : v' = v := by
      have := eqV_ok h1
      rw [hd] at this
      rw [← this]
      show v' = getT (setT t d v') d
      rw [getT_setT _ _ _ _ h256 h256, if_pos rfl]
    subst hv
    obtain ⟨g1, g2, g3⟩ := agree_some hc e hd h256 e2
    refine ⟨by simp; omega, g2, fun S hS h => ?_⟩
    rw [List.take_succ_cons] at hS
    rcases List.mem_cons.1 hS with rfl | hS
    · exact q h
    · exact g3 S hS h

theorem Quiet.or {o : Oper} {t : T} {h h' : H} {v : V} {Z : Sg → World → Prop} (q : ∀ σ w, Z σ w → ∃ Y : Sg → World → Prop, Y σ w ∧ Quiet P nt ops o t h h' v Y) (nx : h.nx ≤ h'.nx ∧ h'.nx ≤ h.nx + 1)
    (cl : h'.cl = fun x => if h'.nx = h.nx + 1 ∧ x = h.nx then h'.cl x else h.cl x) : Quiet P nt ops o t h h' v Z :=
  ⟨nx, cl, fun σ l a w cx ht hf hz => let ⟨_, hy, g⟩ := q σ w hz; g.step σ l a w cx ht hf hy⟩

theorem cls_select {op : Op} (h : cls op ≠ 3) : ∀ cs c, op ≠ .select cs c := fun cs c e => by subst e; exact h rfl

theorem supp_of {op : Op} (h : plainOp op = true) : (∀ cs c, op ≠ .select cs c) ∧ ∀ c, op ≠ .defer c := ⟨fun cs c e => (by subst e; cases h), fun c e => (by subst e; cases h)⟩

theorem run_some (hpo : HpOK P hp) (hpu : PUOK P hp pu) {bm : List Nat} {t0 : T} {ih : IH} (hih : IHOK P hp ih) : ∀ {l : List PE} {f : FD}, cPlan pu P nt ops bm l = .mk f → (∀ e ∈ l, e.kind = cls e.o.op ∧ (∀ d, e.o.dst = some d → d < 256) ∧ plainOp e.o.op = true) →
    ∀ {t h ss k r}, f ih t0 t h ss k = some r → ∃ L t' h', Run P hp nt ops bm t0 t h ss l L t' h' ∧ k t' h' = some r
  | [], f, e, hl, t, h, ss, k, r, er => by cases e; exact ⟨[], t, h, .nil, er⟩
  | ⟨j, o, kind, back⟩ :: l, f, e, hl, t, h, ss, k, r, er => by
    obtain ⟨hk, hd256, hpl⟩ := hl _ (List.mem_cons_self ..)
    have hl' := fun e he => hl e (List.mem_cons_of_mem _ he)
    cases hc : cPlan pu P nt ops bm l with | mk nx =>
    cases ho : cOper pu P nt ops o with | mk fo =>
    have e : (cPlan pu P nt ops bm l).rec (motive := fun _ => CD) (fun nx => (cOper pu P nt ops o).rec (motive := fun _ => CD) fun f => (cNeed (needsOf ops bm j o)).rec (motive := fun _ => CD) fun fl => (cPut o.dst).rec (motive := fun _ => CD) fun pt => cStepK f fl pt o.dst kind back nx) = .mk f := e
    rw [hc, ho, cNeed_eq, cPut_eq] at e
    have hpt : ∀ (u t : T) (v : V), putT t o.dst (match o.dst with | none => undefV | some d => getT (putT u o.dst v) d) = putT t o.dst v := fun u t v => by
      cases hd : o.dst with
      | none => rfl
      | some d =>
        show setT t d (getT (setT u d v) d) = setT t d v
        rw [getT_setT _ _ _ _ (hd256 d hd) (hd256 d hd), if_pos rfl]
    obtain ⟨tm, htm⟩ : ∃ tm, tm = fillT (needsOf ops bm j o) t0 t := ⟨_, rfl⟩
    match kind, hk, e with
    | 0, hk, e =>
      cases e
      obtain ⟨v, e1, q⟩ := quiet_pure hk.symm ho (show fo ih (fillT (needsOf ops bm j o) t0 t) h _ = some r from er)
      simp only [hpt] at e1
      obtain ⟨L, t', h', g1, g2⟩ := run_some hpo hpu hih hc hl' e1
      exact ⟨⟨j, o, tm, h, h, v, false, []⟩ :: L, t', h', .cons rfl rfl rfl htm ⟨fun _ => by rw [htm]; exact q _, fun h => (by cases h), supp_of hpl⟩ rfl rfl (fun h => (by cases h)) g1, g2⟩
    | 1, hk, e =>
      have hk1 : cls o.op = 1 := hk.symm
      have e : o.dst.rec (motive := fun _ => CD) failD (fun d => cLook fo (fillT (needsOf ops bm j o)) (fun t1 t => putT t o.dst (match o.dst with | none => undefV | some d => getT t1 d)) back nx d) = .mk f := e
      cases hdst : o.dst with
      | none =>
        simp only [hdst] at e
        cases e
        cases er
      | some d =>
        have hd : d < 256 := hd256 d hdst
        simp only [hdst] at e
        unfold cLook at e
        rw [selV_eq] at e
        simp only at e
        rw [selN_eq] at e
        cases e
        cases ss with
        | nil => cases er
        | cons S0 ss =>
          have er : fo ih (fillT (needsOf ops bm j o) t0 t) S0 (fun t1 _ => agree fo ih (fillT (needsOf ops bm j o) t0 t) (fun t => getT t d) (getT t1 d) back ss (nx ih t0 (putT t (some d) (getT t1 d)) h (S0 :: ss) k)) = some r := er
          obtain ⟨v, e1, q⟩ := quiet_look hk1 ho er
          rw [hdst] at e1
          have hget : getT (putT (fillT (needsOf ops bm j o) t0 t) (some d) v) d = v := by
            show getT (setT _ d v) d = v
            rw [getT_setT _ _ _ _ hd hd, if_pos rfl]
          rw [hget] at e1
          obtain ⟨g1, e2, g3⟩ := agree_some hk1 ho hdst hd e1
          obtain ⟨L, t', h', g4, g5⟩ := run_some hpo hpu hih hc hl' e2
          refine ⟨⟨j, o, tm, h, h, v, false, (S0 :: ss).take (back + 1)⟩ :: L, t', h', .cons rfl rfl rfl htm ⟨fun _ => ?_, fun h => (by cases h), supp_of hpl⟩ rfl rfl (fun _ => by simp; omega) (by rw [hdst]; exact g4), g5⟩
          rw [htm]
          refine Quiet.or (fun σ w hz => ?_) ⟨Nat.le_refl _, Nat.le_succ _⟩ (by funext x; rw [if_neg (by simp)])
          rcases hz with hz | ⟨S, hS, ok⟩
          · simp at hz
          · rw [List.take_succ_cons] at hS
            rcases List.mem_cons.1 hS with rfl | hS
            · exact ⟨_, ok, q h⟩
            · exact ⟨_, ok, g3 S hS h⟩
    | 2, hk, e =>
      cases e
      obtain ⟨v, h1, e1, q⟩ := quiet_new hk.symm ho (show fo ih (fillT (needsOf ops bm j o) t0 t) h _ = some r from er)
      simp only [hpt] at e1
      obtain ⟨L, t', h', g1, g2⟩ := run_some hpo hpu hih hc hl' e1
      exact ⟨⟨j, o, tm, h, h1, v, false, []⟩ :: L, t', h', .cons rfl rfl rfl htm ⟨fun _ => by rw [htm]; exact q _, fun h => (by cases h), supp_of hpl⟩ rfl rfl (fun h => (by cases h)) g1, g2⟩
    | n + 3, hk, e =>
      cases e
      obtain ⟨v, h1, e1, e2, e3⟩ := cOper_ok (hp := hp) hpo hpu ho ih hih (fillT (needsOf ops bm j o) t0 t) h _ r er
      simp only [hpt] at e1
      have hn : n = 0 := by
        have : ∀ op : Op, cls op ≤ 3 := fun op => by
          cases op <;> try (exact Nat.le_refl _)
          all_goals try (exact (by decide : (0:Nat) ≤ 3))
          all_goals try (exact (by decide : (1:Nat) ≤ 3))
          all_goals try (exact (by decide : (2:Nat) ≤ 3))
          rename_i c
          obtain ⟨callee, args, tys⟩ := c
          cases callee
          · exact Nat.le_refl _
          · exact Nat.le_refl _
          · rename_i b
            cases b <;> first | (exact (by decide : (0:Nat) ≤ 3)) | (exact Nat.le_refl _)
        have h3 := this o.op
        have hk : n + 3 = cls o.op := hk
        omega
      subst hn
      obtain ⟨L, t', h', g1, g2⟩ := run_some hpo hpu hih hc hl' e1
      refine ⟨⟨j, o, tm, h, h1, v, true, []⟩ :: L, t', h', .cons rfl rfl rfl htm ⟨fun h => (by cases h), fun _ => ⟨e2, ?_⟩, supp_of hpl⟩ rfl rfl (fun h => (by cases h)) g1, g2⟩
      rw [htm]
      intro σ l a w st ht fr K Q hk'
      exact e3 σ l a w st ht fr K Q fun a' w' ⟨v', σ', x1, x2, x3, x4⟩ => hk' a' w' ⟨v', x1, σ', x2, x3, x4⟩
end
end Go.Ev
end
