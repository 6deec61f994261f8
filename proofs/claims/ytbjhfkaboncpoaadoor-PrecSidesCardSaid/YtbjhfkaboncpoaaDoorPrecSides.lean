/- PrecSides, the card: for every two bytes the law returns true. Its condition: the two listed tables of Go's library hold what their text lays (tied by the card). -/
import Derived.Test.YtbjhfkaboncpoaaDoorC1
namespace Go.Proofs.YtbjhfkaboncpoaaDoor.precSides
open Go.ChangeShapes Go.WideShapes Go.ChangeAt Go.RowKit Go.Sub Go.Joins
open Go.ChangeMaps (open_string shut_string)

theorem u8_bounds {x : Int} (h : (Lit.int .u8 x).wf = true) : 0 ≤ x ∧ x ≤ 255 := by
  simpa [Lit.wf, IntKind.min, IntKind.max, IntKind.signed, IntKind.bits] using h

theorem walk (k j : Int) (hk : (Lit.int .u8 k).wf = true) (hj : (Lit.int .u8 j).wf = true) (w : World) (hT : TabX w) :
    Calls Tryd.prog 3 #[.int .u8 k, .int .u8 j] w fun e w' => e = .returned (.bool true) ∧ Below w.heap.size w w' := by
  obtain ⟨k0, k1⟩ := u8_bounds hk
  obtain ⟨j0, j1⟩ := u8_bounds hj
  obtain ⟨x, hx, hxm⟩ := op_at (k % 24).toNat (by omega)
  obtain ⟨y, hy, hym⟩ := op_at (j % 24).toNat (by omega)
  obtain ⟨lx, sx, ox⟩ := op_level x hxm
  obtain ⟨ly, sy, oy⟩ := op_level y hym
  obtain ⟨b1, b2, b3, b4⟩ := opsX_bound x hxm
  have hbs : ∀ side, besideI x.1 side = if sideI x.1 = side then levelI x.1 else levelI x.1 + 1 := fun side => by unfold besideI; rw [ox]; rfl
  refine sides_core k j k0 k1 j0 j1 x.1 y.1 (sideI x.1) (if sideI x.1 = 1 then 0 else 1) (if sideI x.1 = 2 then 0 else 1) (levelI y.1 == levelI x.1) (fun W B h => h _ _ hx) (fun W B h => h _ _ hy) (by omega) (by omega) rfl ?_ ?_ ?_ ?_ ?_ rfl ?_ w hT
  · rw [hbs]; split <;> omega
  · rw [hbs]; split <;> omega
  · rw [hbs]; split <;> omega
  · rw [hbs]; split <;> omega
  · rw [sx]
    have : x.2.2 = 0 ∨ x.2.2 = 1 ∨ x.2.2 = 2 := by omega
    rcases this with h | h | h <;> simp [h]
  · intro h
    rw [beq_iff_eq, ly, lx] at h
    rw [sy, sx]
    exact same_level x hxm y hym h

theorem contract (H : Type) (enc : TypeId × Value → H) (W : World) (base : Nat) (args : Array Value) (ds gs : List (DataW H)) (before : List MemPlace)
    (hval : ∀ (j : Nat) t v, Tryd.f3.params[j]? = some t → args[j]? = some v → Value.okWide Tryd.prog W .any base t v)
    (hW : DataW.Whole enc Tryd.prog Tryd.f3.params.toList Rows.precSidesSpec.vars false W args.toList ds gs before)
    (hwt : (DataW.weightsEach Tryd.prog (Tryd.f3.params.toList ++ (OpenSpec.ofChange Rows.precSidesSpec).bare.plain.varTypes Tryd.prog) (ds ++ gs)).all (· ≤ reachBytes) = true) (hL : laidMetH Tryd.prog Rows.precSidesRow.laid W) :
    Calls Tryd.prog 3 args W fun e W' => ∃ v, e = .returned v ∧ Rows.precSidesSpec.post enc Tryd.prog Tryd.f3 false true false false W args v W' := by
  have hW' := hW
  obtain ⟨p, q, hA0, hV, rfl, hfz, hnd⟩ := hW
  have hA : DataW.TrodAll enc Tryd.prog W 0 (fun _ => true) true Tryd.f3.params.toList args.toList ds p := hA0
  rw [Tryd.params3] at hA hval hwt
  obtain ⟨v0, vs0, d0, ds0, p0, q0, hargs, rfl, rfl, h0, r0⟩ := trodAll_cons hA
  obtain ⟨v1, vs1, d1, ds1, p1, q1, rfl, rfl, rfl, h1, r1⟩ := trodAll_cons r0
  obtain ⟨rfl, rfl, rfl⟩ := trodAll_nil r1
  obtain rfl : args = #[v0, v1] := by cases args; simp_all
  obtain ⟨rfl, rfl⟩ := trodVars_none hV
  obtain ⟨a0, rfl, rfl, rfl, w0⟩ := open_int Tryd.underlying5 (hval 0 5 v0 rfl rfl) h0
  obtain ⟨a1, rfl, rfl, rfl, w1⟩ := open_int Tryd.underlying5 (hval 1 5 v1 rfl rfl) h1
  refine (walk a0 a1 w0 w1 W (tab_of_laid hL)).mono fun e W' ⟨he, hb⟩ => ⟨_, he, ?_⟩
  exact law_post laidOut (by kernel_rfl) rfl (show Tryd.f3.resultTypes = #[4] by kernel_rfl) Tryd.underlying4 rfl hW' hb

theorem reads (os : Os) {H : Type} (enc : TypeId × Value → H) : ∃ places, DataW.whole enc Tryd.prog ((World.doorLaid Tryd.prog 33 os).forCall (fun _ _ => 0) ⟨#[], #[.int .u8 0, .int .u8 0], []⟩).memory Tryd.f3.params.toList Rows.precSidesSpec.vars false (#[Value.int .u8 0, Value.int .u8 0]).toList 8 = some ([.lit (.int .u8 0), .lit (.int .u8 0)], [], places) :=
  ⟨[], by kernel_rfl⟩

set_option maxRecDepth 100000 in
theorem lifted (os : Os) (started : os.Started) (H : Type) (enc : TypeId × Value → H) (F : Stop.Interp) :
    ReturnsInHanded {} Tryd.checked os 3 .any ((OpenSpec.ofChange Rows.precSidesSpec).preRow enc Tryd.prog Tryd.f3 Rows.precSidesRow.domain false Rows.precSidesRow.laid) (((OpenSpec.ofChange Rows.precSidesSpec).at F).post enc Tryd.prog Tryd.f3 false true false false) := by
  obtain ⟨places, hx⟩ := reads os enc
  refine returnsInHanded_of_row (C := Tryd.checked) (s := (OpenSpec.ofChange Rows.precSidesSpec)) own started (by kernel_rfl) Tryd.func3
    (witness_row_atRef (enc := enc) (C := Tryd.checked) false (World.doorLaid Tryd.prog 33 os) #[.int .u8 0, .int .u8 0] rfl (by kernel_rfl) (by kernel_rfl) (by kernel_rfl)
      (OpenSpec.preRow_of_cond 8 hx (by kernel_rfl) (fun k hk => by cases hk) (by kernel_rfl) (door_met os _))) ?_
  intro W base args ds gs before hval hW _ _ hwt hL _ _
  exact contract H enc W base args ds gs before hval hW hwt hL

theorem said : Rows.PrecSidesSaid :=
  OpenClaim.holds_of_cond 3 Tryd.f3 rfl rfl rfl rfl rfl rfl rfl ⟨rfl, rfl, rfl, rfl, rfl⟩ rfl rfl rfl rfl rfl (by kernel_rfl) Tryd.func3 (by kernel_rfl)
    (of_decide_eq_true (by kernel_rfl)) (by unfold Func.isWrapper; first | (rw [if_pos (by decide +kernel)]; kernel_rfl) | (rw [if_neg (by decide +kernel)]; exact ⟨rfl, rfl⟩))
    (fun os started H enc _ F => by rw [OpenClaim.pre_eq_preRow]; exact lifted os started H enc F)

theorem plain (f : FuncId) (fn : Func) (hf : Tryd.pinned.checked.prog.funcNamed Rows.precSidesRow.func = some f) (hfn : Tryd.pinned.checked.prog.funcs[f]? = some fn) :
    false = Tryd.pinned.checked.prog.looks [] ∧ ∀ (j : Nat) t, fn.params[j]? = some t → Tryd.pinned.checked.prog.wantsStandIn t = false := by
  obtain rfl : f = 3 := Option.some.inj ((show Tryd.prog.funcNamed Rows.precSidesRow.func = some 3 by kernel_rfl).symm.trans hf) |>.symm
  obtain rfl : fn = Tryd.f3 := (Option.some.inj (Tryd.func3.symm.trans hfn)).symm
  refine ⟨by kernel_rfl, fun j t ht => ?_⟩
  have hm : t ∈ Tryd.f3.params := Array.mem_of_getElem? ht
  have hall : (Tryd.f3.params.toList.all fun u => !Tryd.prog.wantsStandIn u) = true := by kernel_rfl
  exact (show Tryd.prog.wantsStandIn t = false by simpa using List.all_eq_true.1 hall t (by simpa using hm))

theorem card : Rows.PrecSidesCardSaid :=
  Claim7.holds_tied_plain_at .later [] _ _ _ _ said (fun _ h => by cases h) (by kernel_rfl) (fun _ h => by cases h) precSides_row_tie rfl ⟨rfl, rfl⟩ (by kernel_rfl) rfl plain (by kernel_rfl)
end Go.Proofs.YtbjhfkaboncpoaaDoor.precSides
