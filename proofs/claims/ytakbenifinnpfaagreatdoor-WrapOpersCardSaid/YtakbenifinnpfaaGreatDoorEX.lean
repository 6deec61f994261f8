/- A law by the evaluator: the start heap, the levels of pure calls, 'known' once, and the walk from what the evaluator tells. -/
import Derived.Test.YtakbenifinnpfaaGreatDoorC1
set_option linter.unusedVariables false
noncomputable section
namespace Go.Proofs.YtakbenifinnpfaaGreatDoor
open Go.RowKit Go.Ev
def spaces : List Value := (List.range 256).map fun c => .int .u8 (if Lib.isSp (UInt8.ofNat c) then 1 else 0)
def asc : V := (List.range 256).foldr (fun i l => V.cons (.i 4 (if i = 32 ∨ (9 ≤ i ∧ i ≤ 13) then 1 else 0)) l) .nil
def h0 : H := h0T 120 256 asc
def G0 : IH := ev (fun _ _ => none) Tryz.prog 5000
def G1 : IH := ev (fun f vs => G0 (.call f vs h0)) Tryz.prog 5000
def G2 : IH := ev (fun f vs => G1 (.call f vs h0)) Tryz.prog 5000
def G3 : IH := ev (fun f vs => G2 (.call f vs h0)) Tryz.prog 5000
def P3 : PU := fun f vs => G3 (.call f vs h0)
theorem hpo : HpOK Tryz.prog h0 := h0T_ok (by decide +kernel) (by omega)
theorem mix : Tryz.prog.follows .mixedOrders = true := by kernel_rfl
theorem pOK : PUOK Tryz.prog h0 P3 := .of (sound hpo (.of (sound hpo (.of (sound hpo (.of (sound hpo .none mix 5000)) mix 5000)) mix 5000)) mix 5000)
theorem asc_rel (τ : Sg) (a : Nat → Nat) (b : Nat → Int) : ∀ l : List Nat, (∀ c ∈ l, b c = Int.ofNat (a c)) → VRs τ (l.foldr (fun i l => V.cons (.i 4 (a i)) l) .nil) (l.map fun c => .int .u8 (b c))
  | [], _ => .nil
  | c :: l, h => .cons (by show VR τ _ (.int .u8 (b c)); rw [h c (List.mem_cons_self ..)]; exact .i .u8 _) (asc_rel τ a b l fun x hx => h x (List.mem_cons_of_mem _ hx))
theorem asc_ok (τ : Sg) : VRs τ asc spaces := asc_rel τ _ _ _ (by decide +kernel)
/-- from a level of calls that keeps: what it says is true is true -/
theorem calls_from {ih : IH} (hih : IHOK Tryz.prog h0 ih) (w : World) (hT : TabX w) {f : FuncId} {args : V} {vs : Array Value} (hv : ∀ σ, VRs σ args vs.toList) (hc : isTrue (ih (.call f args h0)) = true) :
    Calls Tryz.prog f vs w fun e w' => e = .returned (.bool true) ∧ Below w.heap.size w w' := by
  obtain ⟨σ, st, hfr⟩ := h0T_st (P := Tryz.prog) (nx := 120) (n := 256) (l := asc) (vs := spaces) (W := w) (by decide +kernel) (by decide +kernel) (by omega) (by simp [spaces]) asc_ok fun c v h => by
    simp only [spaces, List.getElem?_map, Option.map_eq_some_iff] at h
    obtain ⟨c', h1, rfl⟩ := h
    obtain ⟨hlt, h2⟩ := List.getElem?_eq_some_iff.1 h1
    rw [List.getElem_range] at h2
    subst h2
    exact hT c (by simpa using hlt)
  obtain ⟨h', e⟩ := isTrue_ok hc
  exact calls_true hih hpo st hfr (hv σ) e
end Go.Proofs.YtakbenifinnpfaaGreatDoor
end
