/- The table that the law asks, and the level of calls that knows it. -/
import Derived.Test.YteidbbogbhbckaaGreatDoorMVkn
import Derived.Test.YteidbbogbhbckaaGreatDoorMVc0
import Derived.Test.YteidbbogbhbckaaGreatDoorMVc1
import Derived.Test.YteidbbogbhbckaaGreatDoorMVc2
import Derived.Test.YteidbbogbhbckaaGreatDoorMVc3
set_option linter.unusedVariables false
noncomputable section
namespace Go.Proofs.YteidbbogbhbckaaGreatDoor
open Go.RowKit Go.Ev
def L_fin0 : List Ent := []
theorem o_fin0 : ∀ e ∈ L_fin0, EntOK Tryz.prog h0 e := fun _ h => nomatch h
def L_fin1 : List Ent := e_c0n :: L_fin0
theorem o_fin1 : ∀ e ∈ L_fin1, EntOK Tryz.prog h0 e := consOK k_c0n o_fin0
def L_fin2 : List Ent := e_c0m :: L_fin1
theorem o_fin2 : ∀ e ∈ L_fin2, EntOK Tryz.prog h0 e := consOK k_c0m o_fin1
def L_fin3 : List Ent := e_c0I :: L_fin2
theorem o_fin3 : ∀ e ∈ L_fin3, EntOK Tryz.prog h0 e := consOK k_c0I o_fin2
def L_fin4 : List Ent := e_c0L :: L_fin3
theorem o_fin4 : ∀ e ∈ L_fin4, EntOK Tryz.prog h0 e := consOK k_c0L o_fin3
def L_fin5 : List Ent := e_c1n :: L_fin4
theorem o_fin5 : ∀ e ∈ L_fin5, EntOK Tryz.prog h0 e := consOK k_c1n o_fin4
def L_fin6 : List Ent := e_c1m :: L_fin5
theorem o_fin6 : ∀ e ∈ L_fin6, EntOK Tryz.prog h0 e := consOK k_c1m o_fin5
def L_fin7 : List Ent := e_c1I :: L_fin6
theorem o_fin7 : ∀ e ∈ L_fin7, EntOK Tryz.prog h0 e := consOK k_c1I o_fin6
def L_fin8 : List Ent := e_c1L :: L_fin7
theorem o_fin8 : ∀ e ∈ L_fin8, EntOK Tryz.prog h0 e := consOK k_c1L o_fin7
def L_fin9 : List Ent := e_c2n :: L_fin8
theorem o_fin9 : ∀ e ∈ L_fin9, EntOK Tryz.prog h0 e := consOK k_c2n o_fin8
def L_fin10 : List Ent := e_c2m :: L_fin9
theorem o_fin10 : ∀ e ∈ L_fin10, EntOK Tryz.prog h0 e := consOK k_c2m o_fin9
def L_fin11 : List Ent := e_c2I :: L_fin10
theorem o_fin11 : ∀ e ∈ L_fin11, EntOK Tryz.prog h0 e := consOK k_c2I o_fin10
def L_fin12 : List Ent := e_c2L :: L_fin11
theorem o_fin12 : ∀ e ∈ L_fin12, EntOK Tryz.prog h0 e := consOK k_c2L o_fin11
def L_fin13 : List Ent := e_c3n :: L_fin12
theorem o_fin13 : ∀ e ∈ L_fin13, EntOK Tryz.prog h0 e := consOK k_c3n o_fin12
def L_fin14 : List Ent := e_c3m :: L_fin13
theorem o_fin14 : ∀ e ∈ L_fin14, EntOK Tryz.prog h0 e := consOK k_c3m o_fin13
def L_fin15 : List Ent := e_c3I :: L_fin14
theorem o_fin15 : ∀ e ∈ L_fin15, EntOK Tryz.prog h0 e := consOK k_c3I o_fin14
def L_fin16 : List Ent := e_c3L :: L_fin15
theorem o_fin16 : ∀ e ∈ L_fin16, EntOK Tryz.prog h0 e := consOK k_c3L o_fin15
/-- pure calls: 'known' by its table -/
def PK : PU := wb fun f vs => GT L_kn14 (.call f vs h0)
theorem pkOK : PUOK Tryz.prog h0 PK := wbOK (.of (gtOK o_kn14))
def GT20 : IH := evM (fun ih => tabIH L_fin16 (nlIH PK Tryz.prog nlF 21 5 (tabIH L_fin16 ih))) PK Tryz.prog 5000
theorem gOK20 : IHOK Tryz.prog h0 GT20 :=
  soundM hpo pkOK mix (fun ih h => tabIH_ok hpo o_fin16 (nlIH_ok hpo pkOK mix Tryz.func21 n_body n_hat (nl_codeF nlP n_big) (tabIH_ok hpo o_fin16 h))) 5000
end Go.Proofs.YteidbbogbhbckaaGreatDoor
end
