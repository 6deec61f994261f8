/- The evaluator of translated Go, part 5: The evaluator: strings.Join by its contract. -/
import Derived.Test.YtfcjbkddkaeliaaGreatDoorEv4
import Derived.Lib.Join
set_option linter.unusedVariables false
set_option linter.unusedSimpArgs false
noncomputable section
namespace Go.Ev
open Go.RowKit
/-- texts, one behind the other, with one between -/
def joinK (sn sl : Nat) (l : V) : (Nat → Nat → R) → R := l.rec (fun _ _ => none) (fun _ _ _ => none) (fun _ _ _ => none) (fun _ _ _ _ => none) (fun _ _ _ => none) (fun _ _ => none) (fun _ _ _ => none) (fun _ _ _ _ _ => none) (fun _ _ => none) (fun _ _ _ _ _ _ => none) (fun _ _ => none) (fun _ _ _ _ => none) (fun _ _ _ => none) (fun _ _ _ _ => none) (fun _ => none)
  fun x r _ ih k => x.rec (fun _ => none) (fun _ _ => none) (fun _ _ => none) (fun _ _ _ => none) (fun n len => (knNil r).rec (ih fun n2 l2 => k (Nat.add n (Nat.mul (Nat.add sn (Nat.mul n2 (Nat.pow 256 sl))) (Nat.pow 256 len))) (Nat.add len (Nat.add sl l2))) (k n len))
    (fun _ => none) (fun _ _ => none) (fun _ _ _ _ => none) (fun _ => none) (fun _ _ _ _ _ => none) (fun _ => none) (fun _ _ _ => none) (fun _ _ => none) (fun _ _ _ => none) none (fun _ _ _ _ => none)
theorem join_two (x y : List UInt8) (r : List (List UInt8)) (sep : List UInt8) : Lib.join (x :: y :: r) sep = x ++ (sep ++ Lib.join (y :: r) sep) := by
  rw [Lib.join_cons, Lib.join_cons]; simp [Lib.joinTail]
theorem joinK_some {sep : ByteArray} {k : Nat → Nat → R} {r : Res} : ∀ {l : V}, joinK (pk sep.data.toList) sep.size l k = some r → ∃ n len, k n len = some r ∧ ∀ σ vs, VRs σ l vs → ∃ xs : List ByteArray, vs = xs.map .string ∧ n = pk (Lib.join (xs.map (·.data.toList)) sep.data.toList) ∧ len = (Lib.join (xs.map (·.data.toList)) sep.data.toList).length := by
  intro l
  induction l generalizing k with
  | cons x rr ihx ih =>
    intro e
    clear ihx
    cases x <;> try (exact absurd e (by intro e; cases e))
    case s n len =>
      have e1 : (knNil rr).rec (motive := fun _ => R) (joinK (pk sep.data.toList) sep.size rr fun n2 l2 => k (Nat.add n (Nat.mul (Nat.add (pk sep.data.toList) (Nat.mul n2 (Nat.pow 256 sep.size))) (Nat.pow 256 len))) (Nat.add len (Nat.add sep.size l2))) (k n len) = some r := e
      cases hn : knNil rr with
      | true =>
        rw [hn] at e1
        obtain rfl := knNil_ok hn
        refine ⟨n, len, e1, fun σ vs h => ?_⟩
        cases h with | cons h1 h2 =>
        cases h2
        cases h1 with | s b =>
        exact ⟨[b], rfl, by simp [Lib.join_one], by simp [Lib.join_one]⟩
      | false =>
        rw [hn] at e1
        obtain ⟨n2, l2, e2, h2⟩ := ih e1
        refine ⟨_, _, e2, fun σ vs h => ?_⟩
        cases h with | cons h1 hr =>
        obtain ⟨xs, rfl, q1, q2⟩ := h2 σ _ hr
        cases h1 with | s b =>
        cases xs with
        | nil => cases hr; cases hn
        | cons y ys =>
          refine ⟨b :: y :: ys, rfl, ?_, ?_⟩
          · rw [List.map_cons, List.map_cons, join_two, pk_append, pk_append, q1, List.map_cons]
            rfl
          · rw [List.map_cons, List.map_cons, join_two, List.length_append, List.length_append, q2, List.map_cons]
            rfl
  | _ => intro e; cases e
def joinC (h : H) (args : V) : R := args.rec (fun _ => none) (fun _ _ => none) (fun _ _ => none) (fun _ _ _ => none) (fun _ _ => none) (fun _ => none) (fun _ _ => none) (fun _ _ _ _ => none) (fun _ => none) (fun _ _ _ _ _ => none) (fun _ => none) (fun _ _ _ => none) (fun _ _ => none) (fun _ _ _ => none) none
  fun x r _ _ => x.rec (fun _ => none) (fun _ _ => none) (fun _ _ => none) (fun _ _ _ => none) (fun _ _ => none) (fun _ => none) (fun _ _ => none)
    (fun id off m es => r.rec (fun _ => none) (fun _ _ => none) (fun _ _ => none) (fun _ _ _ => none) (fun _ _ => none) (fun _ => none) (fun _ _ => none) (fun _ _ _ _ => none) (fun _ => none) (fun _ _ _ _ _ => none) (fun _ => none) (fun _ _ _ => none) (fun _ _ => none) (fun _ _ _ => none) none
      fun y z _ _ => y.rec (fun _ => none) (fun _ _ => none) (fun _ _ => none) (fun _ _ _ => none) (fun sn sl => bi (knNil z) (bi (Nat.beq es 1) (bi (Nat.ble 2 m) (bi (Nat.ble m 65536) (rowK h id fun q cs => dropK off cs fun d => takeK m d fun t => joinK sn sl t fun n len => force n fun n => force len fun len => bi (Nat.ble len 65536) (some (.val (.s n len) h)))))))
        (fun _ => none) (fun _ _ => none) (fun _ _ _ _ => none) (fun _ => none) (fun _ _ _ _ _ => none) (fun _ => none) (fun _ _ _ => none) (fun _ _ => none) (fun _ _ _ => none) none (fun _ _ _ _ => none))
    (fun _ => none) (fun _ _ _ _ _ => none) (fun _ => none) (fun _ _ _ => none) (fun _ _ => none) (fun _ _ _ => none) none (fun _ _ _ _ => none)
/-- calls of strings.Join are answered at once -/
def joinIH (fj : Nat) (ih : IH) : IH := fun t => t.rec (fun f args h => (Nat.beq f fj).rec (ih (.call f args h)) (joinC h args)) fun rnd nt c t h => ih (.code rnd nt c t h)
theorem below_grown {w w' : World} (b : Below w.heap.size w w') : Grown w w' := ⟨b.size, fun x hx => b.block x hx, ⟨b.os, b.tape, b.output⟩⟩
theorem joinIH_ok {P : Program} {hp : H} {fj : Nat} (hr : RunsFn P fj)
    (hj : ∀ (bk o c : Nat) (xs : List ByteArray) (sep : ByteArray) (w : World), (∀ (j : Nat) x, xs[j]? = some x → w.cell? ⟨bk, o + j, none⟩ = some (.string x)) → bk < w.heap.size → 2 ≤ xs.length → xs.length ≤ 140737488355328 → xs.length ≤ c → (Lib.join (xs.map (·.data.toList)) sep.data.toList).length ≤ 140737488355328 →
      Calls P fj #[.slice (some ⟨bk, o, none⟩) xs.length c, .string sep] w fun e w' => e = .returned (.string ⟨(Lib.join (xs.map (·.data.toList)) sep.data.toList).toArray⟩) ∧ Below w.heap.size w w')
    {ih : IH} (hih : IHOK P hp ih) : IHOK P hp (joinIH fj ih) := by
  refine ⟨fun f args h r e => ?_, fun rnd nt c t h r e => hih.code rnd nt c t h r e⟩
  have e' : (Nat.beq f fj).rec (motive := fun _ => R) (ih (.call f args h)) (joinC h args) = some r := e
  cases hf : Nat.beq f fj with
  | false => rw [hf] at e'; exact hih.call f args h r e'
  | true =>
    rw [hf] at e'
    obtain rfl := Nat.eq_of_beq_eq_true hf
    have e1 : joinC h args = some r := e'
    cases args <;> try (exact absurd e1 (by intro e; cases e))
    case cons x rr =>
      cases x <;> try (exact absurd e1 (by intro e; cases e))
      case l id off m es =>
        cases rr <;> try (exact absurd e1 (by intro e; cases e))
        case cons y z =>
          cases y <;> try (exact absurd e1 (by intro e; cases e))
          case s sn sl =>
            obtain ⟨b1, e2⟩ := bi_some.1 e1
            obtain rfl := knNil_ok b1
            obtain ⟨b2, e3⟩ := bi_some.1 e2
            obtain rfl := Nat.eq_of_beq_eq_true b2
            obtain ⟨b3, e4⟩ := bi_some.1 e3
            have b3 : 2 ≤ m := Nat.le_of_ble_eq_true b3
            obtain ⟨b4, e5⟩ := bi_some.1 e4
            have b4 : m ≤ 65536 := Nat.le_of_ble_eq_true b4
            obtain ⟨q, cs, e6, hg⟩ := rowK_some e5
            obtain ⟨d, e7, hd⟩ := dropK_some e6
            obtain ⟨t, e8, ht⟩ := takeK_some e7
            -- the text between is known only with the world
            have hjk : ∀ sep : ByteArray, pk sep.data.toList = sn → sep.size = sl → ∃ n len, (force n fun n => force len fun len => bi (Nat.ble len 65536) (some (.val (.s n len) h))) = some r ∧ ∀ σ vs, VRs σ t vs → ∃ xs : List ByteArray, vs = xs.map .string ∧ n = pk (Lib.join (xs.map (·.data.toList)) sep.data.toList) ∧ len = (Lib.join (xs.map (·.data.toList)) sep.data.toList).length := fun sep h1 h2 => by
              subst h1 h2
              exact joinK_some e8
            have hr' : ∃ n len, r = .val (.s n len) h := by
              have gen : ∀ {l : V} {k : Nat → Nat → R}, joinK sn sl l k = some r → ∃ n len, k n len = some r := by
                intro l
                induction l with
                | cons x rr ihx ih =>
                  intro k e
                  clear ihx
                  cases x <;> try (exact absurd e (by intro e; cases e))
                  case s n len =>
                    have e1 : (knNil rr).rec (motive := fun _ => R) (joinK sn sl rr fun n2 l2 => k (Nat.add n (Nat.mul (Nat.add sn (Nat.mul n2 (Nat.pow 256 sl))) (Nat.pow 256 len))) (Nat.add len (Nat.add sl l2))) (k n len) = some r := e
                    cases hn : knNil rr with
                    | true => rw [hn] at e1; exact ⟨n, len, e1⟩
                    | false => rw [hn] at e1; obtain ⟨n2, l2, e2⟩ := ih e1; exact ⟨_, _, e2⟩
                | _ => intro k e; cases e
              obtain ⟨n, len, e9⟩ := gen e8
              rw [force_eq, force_eq] at e9
              obtain ⟨_, e10⟩ := bi_some.1 e9
              cases e10
              exact ⟨n, len, rfl⟩
            obtain ⟨rn, rl, rfl⟩ := hr'
            refine ⟨_, _, rfl, Nat.le_refl _, hr, fun σ w vs st fr hv => ?_⟩
            obtain ⟨vl⟩ := vs
            cases hv with | @cons _ _ v0 l0 h1 h2 =>
            cases h2 with | @cons _ _ v1 l1 h3 h4 =>
            cases h4
            cases h3 with | s sep =>
            obtain ⟨n, len, e9, hx⟩ := hjk sep rfl rfl
            rw [force_eq, force_eq] at e9
            obtain ⟨b5, e10⟩ := bi_some.1 e9
            cases e10
            have b5 : rl ≤ 65536 := Nat.le_of_ble_eq_true b5
            cases h1 with
            | l0 => omega
            | @l _ _ _ _ b sz cap hs hi hc hfit =>
              obtain ⟨C, hC⟩ := st.ok.row hi hs (.inl hg)
              obtain ⟨g1, g2⟩ := hd σ _ hC.rel
              obtain ⟨g3, g4⟩ := ht σ _ g2
              obtain ⟨xs, hxs, q1, q2⟩ := hx σ _ g4
              have hlen : xs.length = m := by
                have := congrArg List.length hxs
                rw [List.length_take, List.length_map] at this
                omega
              have hcell : ∀ (j : Nat) x, xs[j]? = some x → w.cell? ⟨b, off + j, none⟩ = some (.string x) := fun j x hj => by
                have h5 : ((C.toList.take q).drop off).take m = xs.map .string := hxs
                have h6 : (((C.toList.take q).drop off).take m)[j]? = some (.string x) := by rw [h5, List.getElem?_map, hj]; rfl
                rw [hC.cell]
                rw [List.getElem?_take] at h6
                split at h6
                · rw [List.getElem?_drop, List.getElem?_take] at h6
                  split at h6
                  · rw [Array.getElem?_toList] at h6; exact h6
                  · cases h6
                · cases h6
              have hblt : b < w.heap.size := by
                have := hC.cell (off + 0)
                obtain ⟨x0, hx0⟩ : ∃ x0, xs[0]? = some x0 := by
                  cases xs with
                  | nil => simp at hlen; omega
                  | cons a l => exact ⟨a, rfl⟩
                have hc0 := hcell 0 x0 hx0
                unfold World.cell? at hc0
                cases ho : w.heap[b]? with
                | none => simp [ho] at hc0
                | some o => exact (Array.getElem?_eq_some_iff.1 ho).1
              have hcall := hj b off cap xs sep w hcell hblt (by omega) (by omega) (by omega) (by omega)
              rw [hlen] at hcall
              refine callsIn_wide.2 (hcall.mono fun en w' hR => ?_)
              obtain ⟨rfl, hb⟩ := hR
              have hgr := below_grown hb
              refine ⟨_, σ, rfl, (SExt.refl σ h w).grown hgr, st.ok.grown hgr, ?_⟩
              rw [q1, q2]
              have := VR.s (σ := σ) ⟨(Lib.join (xs.map (·.data.toList)) sep.data.toList).toArray⟩
              exact this
end Go.Ev
end
