/- A law by the evaluator: the start heap, the levels of pure calls (with what is put off; strings.Join by its contract), 'known' once, and the walk from what the evaluator tells. -/
import Derived.Test.YtfcjbkddkaeliaaGreatDoorC1
import Derived.Test.YtfcjbkddkaeliaaGreatDoorEB
import Derived.Test.YtfcjbkddkaeliaaGreatDoorShelf
set_option linter.unusedVariables false
noncomputable section
namespace Go.Proofs.YtfcjbkddkaeliaaGreatDoor
open Go.RowKit Go.Ev
def spaces : List Value := (List.range 256).map fun c => .int .u8 (if Lib.isSp (UInt8.ofNat c) then 1 else 0)
def asc : V := (List.range 256).foldr (fun i l => V.cons (.i 4 (if i = 32 ∨ (9 ≤ i ∧ i ≤ 13) then 1 else 0)) l) .nil
def h0 : H := h0T 120 1 256 asc
def wb (pu : PU) : PU := withBen 160 3 h0 pu
def G0 : IH := evM (joinIH 104) (wb fun _ _ => none) Tryz.prog 5000
def G1 : IH := evM (joinIH 104) (wb fun f vs => G0 (.call f vs h0)) Tryz.prog 5000
def G2 : IH := evM (joinIH 104) (wb fun f vs => G1 (.call f vs h0)) Tryz.prog 5000
def G3 : IH := evM (joinIH 104) (wb fun f vs => G2 (.call f vs h0)) Tryz.prog 5000
def G4 : IH := evM (joinIH 104) (wb fun f vs => G3 (.call f vs h0)) Tryz.prog 5000
def G5 : IH := evM (joinIH 104) (wb fun f vs => G4 (.call f vs h0)) Tryz.prog 5000
def P5 : PU := wb fun f vs => G5 (.call f vs h0)
theorem hpo : HpOK Tryz.prog h0 := h0T_ok (by omega) (by decide +kernel) (by omega)
theorem mix : Tryz.prog.follows .mixedOrders = true := by kernel_rfl
theorem jRuns : RunsFn Tryz.prog 104 := ⟨Tryz.f104, Tryz.func104, by kernel_rfl, by kernel_rfl⟩
theorem jOK : ∀ ih : IH, IHOK Tryz.prog h0 ih → IHOK Tryz.prog h0 (joinIH 104 ih) := fun ih h => joinIH_ok jRuns (fun bk o c xs sep w h1 h2 _ h4 h5 h6 => Tryz.strings_Join bk o c xs sep w h1 h2 h4 h5 h6) h
theorem wbOK {pu : PU} (h : PUOK Tryz.prog h0 pu) : PUOK Tryz.prog h0 (wb pu) := h.withBen ben_runs ben
theorem up {pu : PU} (h : PUOK Tryz.prog h0 pu) : PUOK Tryz.prog h0 (wb fun f vs => evM (joinIH 104) pu Tryz.prog 5000 (.call f vs h0)) := wbOK (.of (soundM hpo h mix jOK 5000))
theorem pOK : PUOK Tryz.prog h0 P5 := up (up (up (up (up (up (wbOK .none))))))
theorem asc_rel (τ : Sg) (a : Nat → Nat) (b : Nat → Int) : ∀ l : List Nat, (∀ c ∈ l, b c = Int.ofNat (a c)) → VRs τ (l.foldr (fun i l => V.cons (.i 4 (a i)) l) .nil) (l.map fun c => .int .u8 (b c))
  | [], _ => .nil
  | c :: l, h => .cons (by show VR τ _ (.int .u8 (b c)); rw [h c (List.mem_cons_self ..)]; exact .i .u8 _) (asc_rel τ a b l fun x hx => h x (List.mem_cons_of_mem _ hx))
theorem asc_ok (τ : Sg) : VRs τ asc spaces := asc_rel τ _ _ _ (by decide +kernel)
/-- from a level of calls that keeps: what it says is true is true -/
theorem calls_from {ih : IH} (hih : IHOK Tryz.prog h0 ih) (w : World) (hT : TabX w) {f : FuncId} {args : V} {vs : Array Value} (hv : ∀ σ, VRs σ args vs.toList) (hc : isTrue (ih (.call f args h0)) = true) :
    Calls Tryz.prog f vs w fun e w' => e = .returned (.bool true) ∧ Below w.heap.size w w' := by
  obtain ⟨σ, st, hfr⟩ := h0T_st (P := Tryz.prog) (nx := 120) (g := 1) (n := 256) (l := asc) (vs := spaces) (W := w) (by omega) (by decide +kernel) (by decide +kernel) (by omega) (by simp [spaces]) asc_ok fun c v h => by
    simp only [spaces, List.getElem?_map, Option.map_eq_some_iff] at h
    obtain ⟨c', h1, rfl⟩ := h
    obtain ⟨hlt, h2⟩ := List.getElem?_eq_some_iff.1 h1
    rw [List.getElem_range] at h2
    subst h2
    exact hT c (by simpa using hlt)
  obtain ⟨h', e⟩ := isTrue_ok hc
  exact calls_true hih hpo st hfr (hv σ) e
end Go.Proofs.YtfcjbkddkaeliaaGreatDoor
end
