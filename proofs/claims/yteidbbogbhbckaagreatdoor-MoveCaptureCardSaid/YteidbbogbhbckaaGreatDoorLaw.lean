/- The frame of a law: a call that returns true and turns nothing that lay before meets what the statement asks behind the call. Plain: over any program. -/
import Derived.WalkKit
import Derived.ProofKit
import Derived.OpenShut
import Derived.Deep.DeepHandedRow
import Derived.Deep.DeepWitnessRowRef
import Derived.LaidMore
import Derived.Lib.LaidTab
import Derived.Lib.SmallJoins
namespace Go.Sub
set_option linter.unusedSimpArgs false
set_option linter.unusedVariables false
open Go.RowKit Go.ChangeShapes Go.ChangeAt Go.WideShapes

theorem trodAll_below {H : Type} {enc : TypeId × Value → H} {P : Program} (hl : laidOutB P = true) {W W' : World} (hb : Below W.heap.size W W') : ∀ (ts : List TypeId) (vs : List Value) (ds : List (DataW H)) (ps : List MemPlace),
    (∀ t ∈ ts, P.readableRec t = true ∧ t < P.types.size) → (∀ x ∈ ps, x.block < W.heap.size) → DataW.TrodAll enc P W 0 (fun _ => true) true ts vs ds ps → DataW.TrodAll enc P W' 0 (fun b => decide (b < W.heap.size)) true ts vs ds ps
  | [], [], [], _, _, _, h => h
  | [], [], _ :: _, _, _, _, h => h.elim
  | [], _ :: _, [], _, _, _, h => h.elim
  | [], _ :: _, _ :: _, _, _, _, h => h.elim
  | _ :: _, [], [], _, _, _, h => h.elim
  | _ :: _, [], _ :: _, _, _, _, h => h.elim
  | _ :: _, _ :: _, [], _, _, _, h => h.elim
  | t :: ts, v :: vs, d :: ds, ps, ht, hlt, h => by
    obtain ⟨p, q, h1, h2, rfl⟩ := h
    exact ⟨p, q, Below.trod hl (ht t List.mem_cons_self).1 (ht t List.mem_cons_self).2 h1 hb (fun x hx => hlt x (List.mem_append.2 (.inl hx))),
      trodAll_below hl hb ts vs ds q (fun t' h' => ht t' (List.mem_cons_of_mem _ h')) (fun x hx => hlt x (List.mem_append.2 (.inr hx))) h2, rfl⟩

/-- **BEHIND THE CALL OF A LAW**: it has returned true, and nothing that lay before has turned. -/
theorem law_post {H : Type} {enc : TypeId × Value → H} {P : Program} {f : Func} {s : ChangeSpec} {W W' : World} {args : Array Value} {ds gs : List (DataW H)} {before : List MemPlace} {tb : TypeId}
    (hl : laidOutB P = true) (hts : f.params.toList.all (fun t => P.readableRec t && decide (t < P.types.size)) = true) (hvars : s.vars = []) (hr : f.resultTypes = #[tb]) (ht : P.underlying tb = some .bool)
    (hspec : s.fn H ds = { results := [.lit (.bool true)], args := ds })
    (hW : DataW.Whole enc P f.params.toList s.vars false W args.toList ds gs before) (hb : Below W.heap.size W W') :
    s.post enc P f false true false false W args (.bool true) W' := by
  have hW' := hW
  have hlt := hW.lt
  obtain ⟨p, q, hA, hV, rfl, _, _⟩ := hW
  rw [hvars] at hV
  obtain ⟨rfl, rfl⟩ := trodVars_none hV
  refine ⟨ds, [], p ++ [], [], p, [], hW', ?_, ?_, ?_, hb.frame _, fun h => by cases h⟩
  · rw [hr, List.append_nil, hspec]
    exact trodAll_mk1 (shut_bool ht _)
  · rw [List.append_nil, hspec]
    refine trodAll_below hl hb _ _ _ _ (fun t h => ?_) (fun x hx => hlt x (by simpa using hx)) hA
    have := List.all_eq_true.1 hts t h
    simpa using this
  · rw [List.append_nil, hspec, hvars]
    rfl

/-- the rest of what the rows list -/
theorem laidMet_tail {P : Program} {W : World} {y : String × DataW Unit} {l : List (String × DataW Unit)} (h : laidMet P (y :: l) W) : laidMet P l W := by
  obtain ⟨ps, ⟨g, t, cs, fuel, p, q, h1, h2, h3, h4, h5, rfl⟩, hn, hc⟩ := h
  exact ⟨q, h5, (List.nodup_append.1 hn).2.1, fun b off hm => hc b off (List.mem_append.2 (.inr hm))⟩
end Go.Sub
