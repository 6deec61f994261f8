/- A law by the evaluator: the start heap, the levels of pure calls, tables of calls; the walk from what the evaluator tells. -/
import Derived.Test.YteidbbogbhbckaaGreatDoorC1
import Derived.Test.YteidbbogbhbckaaGreatDoorEB
set_option linter.unusedVariables false
set_option linter.unusedSimpArgs false
noncomputable section
namespace Go.Proofs.YteidbbogbhbckaaGreatDoor
open Go.RowKit Go.Ev
def spaces : List Value := (List.range 256).map fun c => .int .u8 (if Lib.isSp (UInt8.ofNat c) then 1 else 0)
def asc : V := (List.range 256).foldr (fun i l => V.cons (.i 4 (if i = 32 ∨ (9 ≤ i ∧ i ≤ 13) then 1 else 0)) l) .nil
def h0 : H := h0T 120 0 256 asc
def wb (pu : PU) : PU := withBen 173 3 h0 pu
def G0 : IH := ev (wb fun _ _ => none) Tryz.prog 5000
def G1 : IH := ev (wb fun f vs => G0 (.call f vs h0)) Tryz.prog 5000
def G2 : IH := ev (wb fun f vs => G1 (.call f vs h0)) Tryz.prog 5000
def G3 : IH := ev (wb fun f vs => G2 (.call f vs h0)) Tryz.prog 5000
def G4 : IH := ev (wb fun f vs => G3 (.call f vs h0)) Tryz.prog 5000
def G5 : IH := ev (wb fun f vs => G4 (.call f vs h0)) Tryz.prog 5000
def P5 : PU := wb fun f vs => G5 (.call f vs h0)
theorem hpo : HpOK Tryz.prog h0 := h0T_ok (by omega) (by decide +kernel) (by omega)
theorem mix : Tryz.prog.follows .mixedOrders = true := by kernel_rfl
theorem wbOK {pu : PU} (h : PUOK Tryz.prog h0 pu) : PUOK Tryz.prog h0 (wb pu) := h.withBen ben_runs ben
theorem up {pu : PU} (h : PUOK Tryz.prog h0 pu) : PUOK Tryz.prog h0 (wb fun f vs => ev pu Tryz.prog 5000 (.call f vs h0)) := wbOK (.of (sound hpo h mix 5000))
theorem pOK : PUOK Tryz.prog h0 P5 := up (up (up (up (up (up (wbOK .none))))))
theorem asc_rel (τ : Sg) (a : Nat → Nat) (b : Nat → Int) : ∀ l : List Nat, (∀ c ∈ l, b c = Int.ofNat (a c)) → VRs τ (l.foldr (fun i l => V.cons (.i 4 (a i)) l) .nil) (l.map fun c => .int .u8 (b c))
  | [], _ => .nil
  | c :: l, h => .cons (by show VR τ _ (.int .u8 (b c)); rw [h c (List.mem_cons_self ..)]; exact .i .u8 _) (asc_rel τ a b l fun x hx => h x (List.mem_cons_of_mem _ hx))
theorem asc_ok (τ : Sg) : VRs τ asc spaces := asc_rel τ _ _ _ (by decide +kernel)
/-- from a level of calls that keeps: what it says is true is true -/
theorem calls_from {ih : IH} (hih : IHOK Tryz.prog h0 ih) (w : World) (hT : TabX w) {f : FuncId} {args : V} {vs : Array Value} (hv : ∀ σ, VRs σ args vs.toList) (hc : isTrue (ih (.call f args h0)) = true) :
    Calls Tryz.prog f vs w fun e w' => e = .returned (.bool true) ∧ Below w.heap.size w w' := by
  obtain ⟨σ, st, hfr⟩ := h0T_st (P := Tryz.prog) (nx := 120) (g := 0) (n := 256) (l := asc) (vs := spaces) (W := w) (by omega) (by decide +kernel) (by decide +kernel) (by omega) (by simp [spaces]) asc_ok fun c v h => by
    simp only [spaces, List.getElem?_map, Option.map_eq_some_iff] at h
    obtain ⟨c', h1, rfl⟩ := h
    obtain ⟨hlt, h2⟩ := List.getElem?_eq_some_iff.1 h1
    rw [List.getElem_range] at h2
    subst h2
    exact hT c (by simpa using hlt)
  obtain ⟨h', e⟩ := isTrue_ok hc
  exact calls_true hih hpo st hfr (hv σ) e
/-! ### the loop over a map in move.named -/
def nq : NT := ⟨67, 66, 64, 3, 9, 4, "move.go:78", "move.go:79"⟩
theorem und_m : Tryz.prog.underlying 64 = some (.map 3 9) := by kernel_rfl
theorem und_i : Tryz.prog.underlying 3 = some (.int .i64) := by kernel_rfl
theorem agg_m : aggT Tryz.prog 64 = some false := by kernel_rfl
theorem nlP : NlP Tryz.prog nq .i64 := by
  refine ⟨mix, fun b w => by kernel_rfl, fun b v w h => ?_, und_m, und_i, fun x y s s' w hl => ?_⟩
  · show (Instr.loadAt 64 (.pointer (some ⟨b, 0, none⟩))).run Tryz.prog w = _
    simp only [Instr.loadAt, Instr.sureAddr, Sem.run_bind, Sem.run_pure, Result.andThen_ok, loadVar, aggT_run agg_m, Bool.false_eq_true, if_false, run_load, h]
  · show (do eqGuard .add 9 x y (.string s) (.string s'); binOp .add 9 (.string s) (.string s') : Sem Value).run Tryz.prog w = _
    have g := eqGuard_run (P := Tryz.prog) (op := .add) (t := 9) (x := x) (y := y) (a := .string s) (b := .string s') (fun ⟨_, _, h, _⟩ => by cases h) (fun h => by cases h.1) w
    rw [Sem.run_bind, g]
    simp only [Result.andThen_ok]
    have h1 : ¬ (9223372036854775807 : Int) < (s.size : Int) + (s'.size : Int) := by omega
    simp [binOp, Op.stringOp, IntKind.max, IntKind.bits, IntKind.signed, h1]
theorem n_hat : spineAt 5 ((Tryz.f21.body).getD .skip) = some (nlCode nq) := by kernel_rfl
theorem n_body : Tryz.f21.body = some ((Tryz.f21.body).getD .skip) := by kernel_rfl
theorem n_big : 86 ≤ Tryz.f21.ntmps := by decide +kernel
/-- the evaluator with a table of calls -/
def GT (L : List Ent) : IH := evM (fun ih => tabIH L (nlIH P5 Tryz.prog nlF 21 5 (tabIH L ih))) P5 Tryz.prog 5000
theorem gtOK {L : List Ent} (hL : ∀ e ∈ L, EntOK Tryz.prog h0 e) : IHOK Tryz.prog h0 (GT L) :=
  soundM hpo pOK mix (fun ih h => tabIH_ok hpo hL (nlIH_ok hpo pOK mix Tryz.func21 n_body n_hat (nl_codeF nlP n_big) (tabIH_ok hpo hL h))) 5000
theorem consOK {e : Ent} {L : List Ent} (he : EntOK Tryz.prog h0 e) (hL : ∀ x ∈ L, EntOK Tryz.prog h0 x) : ∀ x ∈ e :: L, EntOK Tryz.prog h0 x := fun x hx => by
  rcases List.mem_cons.1 hx with rfl | h
  · exact he
  · exact hL x h
def vl (l : List V) : V := l.rec .nil fun x _ ih => .cons x ih
end Go.Proofs.YteidbbogbhbckaaGreatDoor
end
