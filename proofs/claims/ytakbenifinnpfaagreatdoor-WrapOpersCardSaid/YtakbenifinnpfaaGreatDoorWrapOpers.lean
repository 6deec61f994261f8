/- WrapOpers, the card: for all arguments the law returns true (each kind of argument by the evaluator, run by the kernel, whose soundness is proved). Its condition: the listed table of Go's library holds what its text lays (tied by the card). -/
import Derived.Test.YtakbenifinnpfaaGreatDoorWrapOpersE0
import Derived.Test.YtakbenifinnpfaaGreatDoorWrapOpersE1
import Derived.Test.YtakbenifinnpfaaGreatDoorWrapOpersE2
import Derived.Test.YtakbenifinnpfaaGreatDoorWrapOpersE3
import Derived.Test.YtakbenifinnpfaaGreatDoorWrapOpersE4
import Derived.Test.YtakbenifinnpfaaGreatDoorWrapOpersE5
namespace Go.Proofs.YtakbenifinnpfaaGreatDoor.wrapOpers
set_option linter.unusedSimpArgs false
set_option linter.unusedVariables false
open Go.ChangeShapes Go.WideShapes Go.ChangeAt Go.RowKit Go.Sub Go.Joins
open Go.ChangeMaps (open_string shut_string)

theorem cases_ok (a : Nat) (ha : a < 9) (b : Nat) (hb : b < 9) (c : Bool) : Go.Ev.isTrue (Go.Proofs.YtakbenifinnpfaaGreatDoor.GT10 (.call 4 (.cons (.r 4 9 a) (.cons (.r 4 9 b) (.cons (.b c) .nil))) h0)) = true := by
  have qa : a = 0 ∨ a = 1 ∨ a = 2 ∨ a = 3 ∨ a = 4 ∨ a = 5 ∨ a = 6 ∨ a = 7 ∨ a = 8 := by omega
  rcases qa with rfl | rfl | rfl | rfl | rfl | rfl | rfl | rfl | rfl
  · cases c
    · by_cases u0 : b < 5
      · exact List.all_eq_true.1 e_0_false_0 b (List.mem_range'_1.2 ⟨by omega, by omega⟩)
      exact List.all_eq_true.1 e_0_false_5 b (List.mem_range'_1.2 ⟨by omega, by omega⟩)
    · by_cases u0 : b < 5
      · exact List.all_eq_true.1 e_0_true_0 b (List.mem_range'_1.2 ⟨by omega, by omega⟩)
      exact List.all_eq_true.1 e_0_true_5 b (List.mem_range'_1.2 ⟨by omega, by omega⟩)
  · cases c
    · by_cases u0 : b < 5
      · exact List.all_eq_true.1 e_1_false_0 b (List.mem_range'_1.2 ⟨by omega, by omega⟩)
      exact List.all_eq_true.1 e_1_false_5 b (List.mem_range'_1.2 ⟨by omega, by omega⟩)
    · by_cases u0 : b < 5
      · exact List.all_eq_true.1 e_1_true_0 b (List.mem_range'_1.2 ⟨by omega, by omega⟩)
      exact List.all_eq_true.1 e_1_true_5 b (List.mem_range'_1.2 ⟨by omega, by omega⟩)
  · cases c
    · by_cases u0 : b < 5
      · exact List.all_eq_true.1 e_2_false_0 b (List.mem_range'_1.2 ⟨by omega, by omega⟩)
      exact List.all_eq_true.1 e_2_false_5 b (List.mem_range'_1.2 ⟨by omega, by omega⟩)
    · by_cases u0 : b < 5
      · exact List.all_eq_true.1 e_2_true_0 b (List.mem_range'_1.2 ⟨by omega, by omega⟩)
      exact List.all_eq_true.1 e_2_true_5 b (List.mem_range'_1.2 ⟨by omega, by omega⟩)
  · cases c
    · by_cases u0 : b < 5
      · exact List.all_eq_true.1 e_3_false_0 b (List.mem_range'_1.2 ⟨by omega, by omega⟩)
      exact List.all_eq_true.1 e_3_false_5 b (List.mem_range'_1.2 ⟨by omega, by omega⟩)
    · by_cases u0 : b < 5
      · exact List.all_eq_true.1 e_3_true_0 b (List.mem_range'_1.2 ⟨by omega, by omega⟩)
      exact List.all_eq_true.1 e_3_true_5 b (List.mem_range'_1.2 ⟨by omega, by omega⟩)
  · cases c
    · by_cases u0 : b < 5
      · exact List.all_eq_true.1 e_4_false_0 b (List.mem_range'_1.2 ⟨by omega, by omega⟩)
      exact List.all_eq_true.1 e_4_false_5 b (List.mem_range'_1.2 ⟨by omega, by omega⟩)
    · by_cases u0 : b < 5
      · exact List.all_eq_true.1 e_4_true_0 b (List.mem_range'_1.2 ⟨by omega, by omega⟩)
      exact List.all_eq_true.1 e_4_true_5 b (List.mem_range'_1.2 ⟨by omega, by omega⟩)
  · cases c
    · by_cases u0 : b < 5
      · exact List.all_eq_true.1 e_5_false_0 b (List.mem_range'_1.2 ⟨by omega, by omega⟩)
      exact List.all_eq_true.1 e_5_false_5 b (List.mem_range'_1.2 ⟨by omega, by omega⟩)
    · by_cases u0 : b < 5
      · exact List.all_eq_true.1 e_5_true_0 b (List.mem_range'_1.2 ⟨by omega, by omega⟩)
      exact List.all_eq_true.1 e_5_true_5 b (List.mem_range'_1.2 ⟨by omega, by omega⟩)
  · cases c
    · by_cases u0 : b < 5
      · exact List.all_eq_true.1 e_6_false_0 b (List.mem_range'_1.2 ⟨by omega, by omega⟩)
      exact List.all_eq_true.1 e_6_false_5 b (List.mem_range'_1.2 ⟨by omega, by omega⟩)
    · by_cases u0 : b < 5
      · exact List.all_eq_true.1 e_6_true_0 b (List.mem_range'_1.2 ⟨by omega, by omega⟩)
      exact List.all_eq_true.1 e_6_true_5 b (List.mem_range'_1.2 ⟨by omega, by omega⟩)
  · cases c
    · by_cases u0 : b < 5
      · exact List.all_eq_true.1 e_7_false_0 b (List.mem_range'_1.2 ⟨by omega, by omega⟩)
      exact List.all_eq_true.1 e_7_false_5 b (List.mem_range'_1.2 ⟨by omega, by omega⟩)
    · by_cases u0 : b < 5
      · exact List.all_eq_true.1 e_7_true_0 b (List.mem_range'_1.2 ⟨by omega, by omega⟩)
      exact List.all_eq_true.1 e_7_true_5 b (List.mem_range'_1.2 ⟨by omega, by omega⟩)
  · cases c
    · by_cases u0 : b < 5
      · exact List.all_eq_true.1 e_8_false_0 b (List.mem_range'_1.2 ⟨by omega, by omega⟩)
      exact List.all_eq_true.1 e_8_false_5 b (List.mem_range'_1.2 ⟨by omega, by omega⟩)
    · by_cases u0 : b < 5
      · exact List.all_eq_true.1 e_8_true_0 b (List.mem_range'_1.2 ⟨by omega, by omega⟩)
      exact List.all_eq_true.1 e_8_true_5 b (List.mem_range'_1.2 ⟨by omega, by omega⟩)
theorem u8_bounds {x : Int} (h : (Lit.int .u8 x).wf = true) : 0 ≤ x ∧ x ≤ 255 := by
  simpa [Lit.wf, IntKind.min, IntKind.max, IntKind.signed, IntKind.bits] using h
theorem walk (a : Int) (ha : (Lit.int .u8 a).wf = true) (b : Int) (hb : (Lit.int .u8 b).wf = true) (c : Bool) (w : World) (hT : TabX w) : Calls Tryz.prog 4 #[.int .u8 a, .int .u8 b, .bool c] w fun e w' => e = .returned (.bool true) ∧ Below w.heap.size w w' := by
  obtain ⟨a0, a1⟩ := u8_bounds ha
  obtain ⟨a, rfl⟩ := Int.eq_ofNat_of_zero_le a0
  obtain ⟨b0, b1⟩ := u8_bounds hb
  obtain ⟨b, rfl⟩ := Int.eq_ofNat_of_zero_le b0
  exact calls_from gOK10 w hT (fun _ => (.cons (.r .u8 9 a (by omega)) (.cons (.r .u8 9 b (by omega)) (.cons (.b c) .nil)))) (cases_ok (a % 9) (Nat.mod_lt _ (by omega)) (b % 9) (Nat.mod_lt _ (by omega)) c)

set_option maxRecDepth 100000 in
theorem contract (H : Type) (enc : TypeId × Value → H) (W : World) (base : Nat) (args : Array Value) (ds gs : List (DataW H)) (before : List MemPlace)
    (hval : ∀ (j : Nat) t v, Tryz.f4.params[j]? = some t → args[j]? = some v → Value.okWide Tryz.prog W .any base t v)
    (hW : DataW.Whole enc Tryz.prog Tryz.f4.params.toList Rows.wrapOpersSpec.vars false W args.toList ds gs before)
    (hwt : (DataW.weightsEach Tryz.prog (Tryz.f4.params.toList ++ (OpenSpec.ofChange Rows.wrapOpersSpec).bare.plain.varTypes Tryz.prog) (ds ++ gs)).all (· ≤ reachBytes) = true) (hL : laidMetH Tryz.prog Rows.wrapOpersRow.laid W) :
    Calls Tryz.prog 4 args W fun e W' => ∃ v, e = .returned v ∧ Rows.wrapOpersSpec.post enc Tryz.prog Tryz.f4 false true false false W args v W' := by
  have hW' := hW
  obtain ⟨p, q, hA0, hV, rfl, hfz, hnd⟩ := hW
  have hA : DataW.TrodAll enc Tryz.prog W 0 (fun _ => true) true Tryz.f4.params.toList args.toList ds p := hA0
  rw [Tryz.params4] at hA hval hwt
  obtain ⟨v0, vs0, d0, ds0, p0, q0, hargs, rfl, rfl, h0, r0⟩ := trodAll_cons hA
  obtain ⟨v1, vs1, d1, ds1, p1, q1, rfl, rfl, rfl, h1, r1⟩ := trodAll_cons r0
  obtain ⟨v2, vs2, d2, ds2, p2, q2, rfl, rfl, rfl, h2, r2⟩ := trodAll_cons r1
  obtain ⟨rfl, rfl, rfl⟩ := trodAll_nil r2
  obtain rfl : args = #[v0, v1, v2] := by cases args; simp_all
  obtain ⟨rfl, rfl⟩ := trodVars_none hV
  obtain ⟨a0, rfl, rfl, rfl, w0⟩ := open_int Tryz.underlying5 (hval 0 5 v0 rfl rfl) h0
  obtain ⟨a1, rfl, rfl, rfl, w1⟩ := open_int Tryz.underlying5 (hval 1 5 v1 rfl rfl) h1
  obtain ⟨a2, rfl, rfl, rfl⟩ := open_bool Tryz.underlying4 (hval 2 4 v2 rfl rfl) h2
  refine (walk a0 w0 a1 w1 a2 W (tab_of_laid hL)).mono fun e W' ⟨he, hb⟩ => ⟨_, he, ?_⟩
  exact law_post laidOut (by kernel_rfl) rfl (show Tryz.f4.resultTypes = #[4] by kernel_rfl) Tryz.underlying4 rfl hW' hb

theorem reads (os : Os) {H : Type} (enc : TypeId × Value → H) : ∃ places, DataW.whole enc Tryz.prog ((World.laidAll Tryz.prog os Rows.wrapEdgeRow.laid).forCall (fun _ _ => 0) ⟨#[], #[.int .u8 0, .int .u8 0, .bool false], []⟩).memory Tryz.f4.params.toList Rows.wrapOpersSpec.vars false (#[Value.int .u8 0, Value.int .u8 0, Value.bool false]).toList 8 = some ([.lit (.int .u8 0), .lit (.int .u8 0), .lit (.bool false)], [], places) :=
  ⟨[], by kernel_rfl⟩

set_option maxRecDepth 100000 in
theorem lifted (os : Os) (started : os.Started) (H : Type) (enc : TypeId × Value → H) (F : Stop.Interp) :
    ReturnsInHanded {} Tryz.checked os 4 .any ((OpenSpec.ofChange Rows.wrapOpersSpec).preRow enc Tryz.prog Tryz.f4 Rows.wrapOpersRow.domain false Rows.wrapOpersRow.laid) (((OpenSpec.ofChange Rows.wrapOpersSpec).at F).post enc Tryz.prog Tryz.f4 false true false false) := by
  obtain ⟨places, hx⟩ := reads os enc
  refine returnsInHanded_of_row (C := Tryz.checked) (s := (OpenSpec.ofChange Rows.wrapOpersSpec)) own started (by kernel_rfl) Tryz.func4
    (witness_row_atRef (enc := enc) (C := Tryz.checked) false (World.laidAll Tryz.prog os Rows.wrapEdgeRow.laid) #[.int .u8 0, .int .u8 0, .bool false] rfl (by kernel_rfl) (by kernel_rfl) (by kernel_rfl)
      (OpenSpec.preRow_of_cond 8 hx (by kernel_rfl) (fun k hk => by cases hk) (by kernel_rfl) (door_met os _))) ?_
  intro W base args ds gs before hval hW _ _ hwt hL _ _
  exact contract H enc W base args ds gs before hval hW hwt hL

theorem said : Rows.WrapOpersSaid :=
  OpenClaim.holds_of_cond 4 Tryz.f4 rfl rfl rfl rfl rfl rfl rfl ⟨rfl, rfl, rfl, rfl, rfl⟩ rfl rfl rfl rfl rfl (by kernel_rfl) Tryz.func4 (by kernel_rfl)
    (of_decide_eq_true (by kernel_rfl)) (by unfold Func.isWrapper; first | (rw [if_pos (by decide +kernel)]; kernel_rfl) | (rw [if_neg (by decide +kernel)]; exact ⟨rfl, rfl⟩))
    (fun os started H enc _ F => by rw [OpenClaim.pre_eq_preRow]; exact lifted os started H enc F)

theorem plain (f : FuncId) (fn : Func) (hf : Tryz.pinned.checked.prog.funcNamed Rows.wrapOpersRow.func = some f) (hfn : Tryz.pinned.checked.prog.funcs[f]? = some fn) :
    false = Tryz.pinned.checked.prog.looks [] ∧ ∀ (j : Nat) t, fn.params[j]? = some t → Tryz.pinned.checked.prog.wantsStandIn t = false := by
  obtain rfl : f = 4 := Option.some.inj ((show Tryz.prog.funcNamed Rows.wrapOpersRow.func = some 4 by kernel_rfl).symm.trans hf) |>.symm
  obtain rfl : fn = Tryz.f4 := (Option.some.inj (Tryz.func4.symm.trans hfn)).symm
  refine ⟨by kernel_rfl, fun j t ht => ?_⟩
  have hm : t ∈ Tryz.f4.params := Array.mem_of_getElem? ht
  have hall : (Tryz.f4.params.toList.all fun u => !Tryz.prog.wantsStandIn u) = true := by kernel_rfl
  exact (show Tryz.prog.wantsStandIn t = false by simpa using List.all_eq_true.1 hall t (by simpa using hm))

theorem card : Rows.WrapOpersCardSaid :=
  Claim7.holds_tied_plain_at .later [] _ _ _ _ said (fun _ h => by cases h) (by kernel_rfl) (fun _ h => by cases h) wrapOpers_row_tie rfl ⟨rfl, rfl⟩ (by kernel_rfl) rfl plain (by kernel_rfl)
end Go.Proofs.YtakbenifinnpfaaGreatDoor.wrapOpers
