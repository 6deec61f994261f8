/- PrecAsks, the card: for every text, token and byte the law returns true. Its condition: the two listed tables of Go's library hold what their text lays (tied by the card). -/
import Derived.Test.YtbjhfkaboncpoaaDoorC1
import Derived.Test.YtbjhfkaboncpoaaDoorT12
namespace Go.Proofs.YtbjhfkaboncpoaaDoor.precAsks
open Go.ChangeShapes Go.WideShapes Go.ChangeAt Go.RowKit Go.Sub Go.Joins
open Go.ChangeMaps (open_string shut_string)

theorem u8_bounds {x : Int} (h : (Lit.int .u8 x).wf = true) : 0 ≤ x ∧ x ≤ 255 := by
  simpa [Lit.wf, IntKind.min, IntKind.max, IntKind.signed, IntKind.bits] using h
theorem sizes {H : Type} {s t : ByteArray} {kd k : Int} {ts : List TypeId} {gs : List (DataW H)} (h : (DataW.weightsEach Tryd.prog (#[9, 29, 5].toList ++ ts) ([.lit (.string s.data.toList), .agg [.lit (.int .i64 kd), .lit (.string t.data.toList)], .lit (.int .u8 k)] ++ gs)).all (· ≤ reachBytes) = true) : s.size + t.size ≤ 9223372036854775000 := by
  have hs := sized_string h (j := 0) (t := 9) rfl rfl
  have h1 := List.all_eq_true.1 h t.data.toList.length (by simp [DataW.weightsEach, DataW.weights, Tryd.underlying29])
  have e1 := Lib.size_eq s
  have e2 := Lib.size_eq t
  have hr : reachBytes = 140737488351232 := rfl
  simp only [decide_eq_true_eq] at h1
  omega

theorem contract (H : Type) (enc : TypeId × Value → H) (W : World) (base : Nat) (args : Array Value) (ds gs : List (DataW H)) (before : List MemPlace)
    (hval : ∀ (j : Nat) t v, Tryd.f5.params[j]? = some t → args[j]? = some v → Value.okWide Tryd.prog W .any base t v)
    (hW : DataW.Whole enc Tryd.prog Tryd.f5.params.toList Rows.precAsksSpec.vars false W args.toList ds gs before)
    (hwt : (DataW.weightsEach Tryd.prog (Tryd.f5.params.toList ++ (OpenSpec.ofChange Rows.precAsksSpec).bare.plain.varTypes Tryd.prog) (ds ++ gs)).all (· ≤ reachBytes) = true) (hL : laidMetH Tryd.prog Rows.precAsksRow.laid W) :
    Calls Tryd.prog 5 args W fun e W' => ∃ v, e = .returned v ∧ Rows.precAsksSpec.post enc Tryd.prog Tryd.f5 false true false false W args v W' := by
  have hW' := hW
  obtain ⟨p, q, hA0, hV, rfl, hfz, hnd⟩ := hW
  have hA : DataW.TrodAll enc Tryd.prog W 0 (fun _ => true) true Tryd.f5.params.toList args.toList ds p := hA0
  rw [Tryd.params5] at hA hval hwt
  obtain ⟨v0, vs0, d0, ds0, p0, q0, hargs, rfl, rfl, h0, r0⟩ := trodAll_cons hA
  obtain ⟨v1, vs1, d1, ds1, p1, q1, rfl, rfl, rfl, h1, r1⟩ := trodAll_cons r0
  obtain ⟨v2, vs2, d2, ds2, p2, q2, rfl, rfl, rfl, h2, r2⟩ := trodAll_cons r1
  obtain ⟨rfl, rfl, rfl⟩ := trodAll_nil r2
  obtain rfl : args = #[v0, v1, v2] := by cases args; simp_all
  obtain ⟨rfl, rfl⟩ := trodVars_none hV
  obtain ⟨a0, rfl, rfl, rfl, w0⟩ := open_string Tryd.underlying9 (hval 0 9 v0 rfl rfl) h0
  obtain ⟨c10, c11, y10, y11, m1, rfl, rfl, rfl, hy10, hy11⟩ := open_agg2 Tryd.underlying29 (by kernel_rfl) (show Tryd.prog.cellsOf 29 = 2 by kernel_rfl) (hval 1 29 v1 rfl rfl) h1
  obtain ⟨a10, e10, rfl, w10⟩ := DataW.trod_int Tryd.underlying3 hy10
  simp only [List.cons.injEq, and_true] at e10
  subst e10
  obtain ⟨a11, e11, rfl, w11⟩ := DataW.trod_string Tryd.underlying9 hy11
  simp only [List.cons.injEq, and_true] at e11
  subst e11
  obtain ⟨a2, rfl, rfl, rfl, w2⟩ := open_int Tryd.underlying5 (hval 2 5 v2 rfl rfl) h2
  refine (precasks_core a0 a11 a10 a2 (sizes hwt) (u8_bounds w2).1 (u8_bounds w2).2 W (tab_of_laid (show laidMetH Tryd.prog Rows.precSidesRow.laid W from hL))).mono fun e W' ⟨he, hb⟩ => ⟨_, he, ?_⟩
  exact law_post laidOut (by kernel_rfl) rfl (show Tryd.f5.resultTypes = #[4] by kernel_rfl) Tryd.underlying4 rfl hW' hb

theorem reads (os : Os) {H : Type} (enc : TypeId × Value → H) : ∃ places, DataW.whole enc Tryd.prog ((World.doorLaid Tryd.prog 33 os).forCall (fun _ _ => 0) ⟨#[], #[.string ByteArray.empty, .agg #[.int .i64 0, .string ByteArray.empty], .int .u8 0], []⟩).memory Tryd.f5.params.toList Rows.precAsksSpec.vars false (#[Value.string ByteArray.empty, Value.agg #[.int .i64 0, .string ByteArray.empty], Value.int .u8 0]).toList 8 = some ([.lit (.string []), .agg [.lit (.int .i64 0), .lit (.string [])], .lit (.int .u8 0)], [], places) :=
  ⟨[], by kernel_rfl⟩

set_option maxRecDepth 100000 in
theorem lifted (os : Os) (started : os.Started) (H : Type) (enc : TypeId × Value → H) (F : Stop.Interp) :
    ReturnsInHanded {} Tryd.checked os 5 .any ((OpenSpec.ofChange Rows.precAsksSpec).preRow enc Tryd.prog Tryd.f5 Rows.precAsksRow.domain false Rows.precAsksRow.laid) (((OpenSpec.ofChange Rows.precAsksSpec).at F).post enc Tryd.prog Tryd.f5 false true false false) := by
  obtain ⟨places, hx⟩ := reads os enc
  refine returnsInHanded_of_row (C := Tryd.checked) (s := (OpenSpec.ofChange Rows.precAsksSpec)) own started (by kernel_rfl) Tryd.func5
    (witness_row_atRef (enc := enc) (C := Tryd.checked) false (World.doorLaid Tryd.prog 33 os) #[.string ByteArray.empty, .agg #[.int .i64 0, .string ByteArray.empty], .int .u8 0] rfl (by kernel_rfl) (by kernel_rfl) (by kernel_rfl)
      (OpenSpec.preRow_of_cond 8 hx (by kernel_rfl) (fun k hk => by cases hk) (by kernel_rfl) (door_met os _))) ?_
  intro W base args ds gs before hval hW _ _ hwt hL _ _
  exact contract H enc W base args ds gs before hval hW hwt hL

theorem said : Rows.PrecAsksSaid :=
  OpenClaim.holds_of_cond 5 Tryd.f5 rfl rfl rfl rfl rfl rfl rfl ⟨rfl, rfl, rfl, rfl, rfl⟩ rfl rfl rfl rfl rfl (by kernel_rfl) Tryd.func5 (by kernel_rfl)
    (of_decide_eq_true (by kernel_rfl)) (by unfold Func.isWrapper; first | (rw [if_pos (by decide +kernel)]; kernel_rfl) | (rw [if_neg (by decide +kernel)]; exact ⟨rfl, rfl⟩))
    (fun os started H enc _ F => by rw [OpenClaim.pre_eq_preRow]; exact lifted os started H enc F)

theorem plain (f : FuncId) (fn : Func) (hf : Tryd.pinned.checked.prog.funcNamed Rows.precAsksRow.func = some f) (hfn : Tryd.pinned.checked.prog.funcs[f]? = some fn) :
    false = Tryd.pinned.checked.prog.looks [] ∧ ∀ (j : Nat) t, fn.params[j]? = some t → Tryd.pinned.checked.prog.wantsStandIn t = false := by
  obtain rfl : f = 5 := Option.some.inj ((show Tryd.prog.funcNamed Rows.precAsksRow.func = some 5 by kernel_rfl).symm.trans hf) |>.symm
  obtain rfl : fn = Tryd.f5 := (Option.some.inj (Tryd.func5.symm.trans hfn)).symm
  refine ⟨by kernel_rfl, fun j t ht => ?_⟩
  have hm : t ∈ Tryd.f5.params := Array.mem_of_getElem? ht
  have hall : (Tryd.f5.params.toList.all fun u => !Tryd.prog.wantsStandIn u) = true := by kernel_rfl
  exact (show Tryd.prog.wantsStandIn t = false by simpa using List.all_eq_true.1 hall t (by simpa using hm))

theorem card : Rows.PrecAsksCardSaid :=
  Claim7.holds_tied_plain_at .later [] _ _ _ _ said (fun _ h => by cases h) (by kernel_rfl) (fun _ h => by cases h) precAsks_row_tie rfl ⟨rfl, rfl⟩ (by kernel_rfl) rfl plain (by kernel_rfl)
end Go.Proofs.YtbjhfkaboncpoaaDoor.precAsks
