/- Calls that the law makes, and what they give (c2), each by the kernel. -/
import Derived.Test.YteidbbogbhbckaaGreatDoorEM
set_option linter.unusedVariables false
noncomputable section
namespace Go.Proofs.YteidbbogbhbckaaGreatDoor
open Go.RowKit Go.Ev
def L_c20 : List Ent := []
theorem o_c20 : ∀ e ∈ L_c20, EntOK Tryz.prog h0 e := fun _ h => nomatch h
def e_c2n : Ent := .mk 5 (vl [.s 20592596826902292698311353200745139052244660335811501969321607636101184967148065735992676 37]) (.t (vl [.a 3 (vl [.i 3 29, .s 102 1, .k 3 3 (vl [.i 3 30, .s 103 1, .z 1, .i 3 29, .s 104 1, .k 3 2 (vl [.i 3 5, .s 50 1, .z 1, .i 3 13, .s 103 1, .z 1]), .i 3 29, .s 104 1, .k 3 2 (vl [.i 3 5, .s 49 1, .z 1, .i 3 13, .s 102 1, .k 3 1 (vl [.i 3 13, .s 104 1, .z 1])])])]), .i 3 0, .i 3 0]))
theorem r_c2n : entT (GT L_c20) h0 e_c2n = true := by decide +kernel
theorem k_c2n : EntOK Tryz.prog h0 e_c2n := entT_ok hpo (gtOK o_c20) r_c2n
def L_c21 : List Ent := e_c2n :: L_c20
theorem o_c21 : ∀ e ∈ L_c21, EntOK Tryz.prog h0 e := consOK k_c2n o_c20
def e_c2m : Ent := .mk 5 (vl [.s 152180178097627963450875544247258650373471720596836 21]) (.t (vl [.a 3 (vl [.i 3 29, .s 104 1, .k 3 2 (vl [.i 3 5, .s 49 1, .z 1, .i 3 29, .s 107 1, .k 3 2 (vl [.i 3 5, .s 50 1, .z 1, .i 3 13, .s 104 1, .z 1])])]), .i 3 0, .i 3 0]))
theorem r_c2m : entT (GT L_c21) h0 e_c2m = true := by decide +kernel
theorem k_c2m : EntOK Tryz.prog h0 e_c2m := entT_ok hpo (gtOK o_c21) r_c2m
def L_c22 : List Ent := e_c2m :: L_c21
theorem o_c22 : ∀ e ∈ L_c22, EntOK Tryz.prog h0 e := consOK k_c2m o_c21
def e_c2nW : Ent := .mk 49 (vl [.a 3 (vl [.i 3 29, .s 102 1, .k 3 3 (vl [.i 3 30, .s 103 1, .z 1, .i 3 29, .s 104 1, .k 3 2 (vl [.i 3 5, .s 50 1, .z 1, .i 3 13, .s 103 1, .z 1]), .i 3 29, .s 104 1, .k 3 2 (vl [.i 3 5, .s 49 1, .z 1, .i 3 13, .s 102 1, .k 3 1 (vl [.i 3 13, .s 104 1, .z 1])])])])]) (.a 3 (vl [.i 3 29, .s 102 1, .k 3 3 (vl [.i 3 30, .s 103 1, .z 1, .i 3 29, .s 104 1, .k 3 2 (vl [.i 3 5, .s 50 1, .z 1, .i 3 13, .s 103 1, .z 1]), .i 3 29, .s 104 1, .k 3 2 (vl [.i 3 5, .s 49 1, .z 1, .i 3 13, .s 102 1, .k 3 1 (vl [.i 3 13, .s 104 1, .z 1])])])]))
theorem r_c2nW : entT (GT L_c22) h0 e_c2nW = true := by decide +kernel
theorem k_c2nW : EntOK Tryz.prog h0 e_c2nW := entT_ok hpo (gtOK o_c22) r_c2nW
def L_c23 : List Ent := e_c2nW :: L_c22
theorem o_c23 : ∀ e ∈ L_c23, EntOK Tryz.prog h0 e := consOK k_c2nW o_c22
def e_c2nR : Ent := .mk 50 (vl [.a 3 (vl [.i 3 29, .s 102 1, .k 3 3 (vl [.i 3 30, .s 103 1, .z 1, .i 3 29, .s 104 1, .k 3 2 (vl [.i 3 5, .s 50 1, .z 1, .i 3 13, .s 103 1, .z 1]), .i 3 29, .s 104 1, .k 3 2 (vl [.i 3 5, .s 49 1, .z 1, .i 3 13, .s 102 1, .k 3 1 (vl [.i 3 13, .s 104 1, .z 1])])])])]) (.b true)
theorem r_c2nR : entT (GT L_c23) h0 e_c2nR = true := by decide +kernel
theorem k_c2nR : EntOK Tryz.prog h0 e_c2nR := entT_ok hpo (gtOK o_c23) r_c2nR
def L_c24 : List Ent := e_c2nR :: L_c23
theorem o_c24 : ∀ e ∈ L_c24, EntOK Tryz.prog h0 e := consOK k_c2nR o_c23
def e_c2nA : Ent := .mk 18 (vl [.a 3 (vl [.i 3 29, .s 102 1, .k 3 3 (vl [.i 3 30, .s 103 1, .z 1, .i 3 29, .s 104 1, .k 3 2 (vl [.i 3 5, .s 50 1, .z 1, .i 3 13, .s 103 1, .z 1]), .i 3 29, .s 104 1, .k 3 2 (vl [.i 3 5, .s 49 1, .z 1, .i 3 13, .s 102 1, .k 3 1 (vl [.i 3 13, .s 104 1, .z 1])])])])]) (.a 3 (vl [.i 3 29, .s 12386 2, .k 3 3 (vl [.i 3 30, .s 12642 2, .z 1, .i 3 29, .s 12898 2, .k 3 2 (vl [.i 3 5, .s 50 1, .z 1, .i 3 13, .s 12642 2, .z 1]), .i 3 29, .s 13154 2, .k 3 2 (vl [.i 3 5, .s 49 1, .z 1, .i 3 13, .s 12386 2, .k 3 1 (vl [.i 3 13, .s 13154 2, .z 1])])])]))
theorem r_c2nA : entT (GT L_c24) h0 e_c2nA = true := by decide +kernel
theorem k_c2nA : EntOK Tryz.prog h0 e_c2nA := entT_ok hpo (gtOK o_c24) r_c2nA
def L_c25 : List Ent := e_c2nA :: L_c24
theorem o_c25 : ∀ e ∈ L_c25, EntOK Tryz.prog h0 e := consOK k_c2nA o_c24
def e_c2mW : Ent := .mk 49 (vl [.a 3 (vl [.i 3 29, .s 104 1, .k 3 2 (vl [.i 3 5, .s 49 1, .z 1, .i 3 29, .s 107 1, .k 3 2 (vl [.i 3 5, .s 50 1, .z 1, .i 3 13, .s 104 1, .z 1])])])]) (.a 3 (vl [.i 3 29, .s 104 1, .k 3 2 (vl [.i 3 5, .s 49 1, .z 1, .i 3 29, .s 107 1, .k 3 2 (vl [.i 3 5, .s 50 1, .z 1, .i 3 13, .s 104 1, .z 1])])]))
theorem r_c2mW : entT (GT L_c25) h0 e_c2mW = true := by decide +kernel
theorem k_c2mW : EntOK Tryz.prog h0 e_c2mW := entT_ok hpo (gtOK o_c25) r_c2mW
def L_c26 : List Ent := e_c2mW :: L_c25
theorem o_c26 : ∀ e ∈ L_c26, EntOK Tryz.prog h0 e := consOK k_c2mW o_c25
def e_c2mR : Ent := .mk 50 (vl [.a 3 (vl [.i 3 29, .s 104 1, .k 3 2 (vl [.i 3 5, .s 49 1, .z 1, .i 3 29, .s 107 1, .k 3 2 (vl [.i 3 5, .s 50 1, .z 1, .i 3 13, .s 104 1, .z 1])])])]) (.b true)
theorem r_c2mR : entT (GT L_c26) h0 e_c2mR = true := by decide +kernel
theorem k_c2mR : EntOK Tryz.prog h0 e_c2mR := entT_ok hpo (gtOK o_c26) r_c2mR
def L_c27 : List Ent := e_c2mR :: L_c26
theorem o_c27 : ∀ e ∈ L_c27, EntOK Tryz.prog h0 e := consOK k_c2mR o_c26
def e_c2mA : Ent := .mk 18 (vl [.a 3 (vl [.i 3 29, .s 104 1, .k 3 2 (vl [.i 3 5, .s 49 1, .z 1, .i 3 29, .s 107 1, .k 3 2 (vl [.i 3 5, .s 50 1, .z 1, .i 3 13, .s 104 1, .z 1])])])]) (.a 3 (vl [.i 3 29, .s 12386 2, .k 3 2 (vl [.i 3 5, .s 49 1, .z 1, .i 3 29, .s 12642 2, .k 3 2 (vl [.i 3 5, .s 50 1, .z 1, .i 3 13, .s 12386 2, .z 1])])]))
theorem r_c2mA : entT (GT L_c27) h0 e_c2mA = true := by decide +kernel
theorem k_c2mA : EntOK Tryz.prog h0 e_c2mA := entT_ok hpo (gtOK o_c27) r_c2mA
def L_c28 : List Ent := e_c2mA :: L_c27
theorem o_c28 : ∀ e ∈ L_c28, EntOK Tryz.prog h0 e := consOK k_c2mA o_c27
def e_c2nRs : Ent := .mk 16 (vl [.a 3 (vl [.i 3 29, .s 102 1, .k 3 3 (vl [.i 3 30, .s 103 1, .z 1, .i 3 29, .s 104 1, .k 3 2 (vl [.i 3 5, .s 50 1, .z 1, .i 3 13, .s 103 1, .z 1]), .i 3 29, .s 104 1, .k 3 2 (vl [.i 3 5, .s 49 1, .z 1, .i 3 13, .s 102 1, .k 3 1 (vl [.i 3 13, .s 104 1, .z 1])])])])]) (.t (vl [.k 6 4 (vl [.i 3 1, .i 3 2, .s 102 1, .i 3 1, .j 3 0, .k 1 1 (vl [.i 3 18]), .i 3 3, .i 3 3, .s 103 1, .i 3 0, .j 3 0, .k 1 1 (vl [.i 3 11]), .i 3 7, .i 3 2, .s 104 1, .i 3 0, .j 3 0, .z 1, .i 3 14, .i 3 2, .s 104 1, .i 3 0, .j 3 0, .k 1 1 (vl [.i 3 20])]), .z 1]))
theorem r_c2nRs : entT (GT L_c28) h0 e_c2nRs = true := by decide +kernel
theorem k_c2nRs : EntOK Tryz.prog h0 e_c2nRs := entT_ok hpo (gtOK o_c28) r_c2nRs
def L_c29 : List Ent := e_c2nRs :: L_c28
theorem o_c29 : ∀ e ∈ L_c29, EntOK Tryz.prog h0 e := consOK k_c2nRs o_c28
def e_c2I : Ent := .mk 6 (vl [.a 3 (vl [.i 3 29, .s 102 1, .k 3 3 (vl [.i 3 30, .s 103 1, .z 1, .i 3 29, .s 104 1, .k 3 2 (vl [.i 3 5, .s 50 1, .z 1, .i 3 13, .s 103 1, .z 1]), .i 3 29, .s 104 1, .k 3 2 (vl [.i 3 5, .s 49 1, .z 1, .i 3 13, .s 102 1, .k 3 1 (vl [.i 3 13, .s 104 1, .z 1])])])]), .i 3 1]) (.t (vl [.a 3 (vl [.i 3 29, .s 13154 2, .k 3 2 (vl [.i 3 5, .s 49 1, .z 1, .i 3 29, .s 12898 2, .k 3 2 (vl [.i 3 5, .s 50 1, .z 1, .i 3 13, .s 13154 2, .z 1])])]), .i 5 0]))
theorem r_c2I : entT (GT L_c29) h0 e_c2I = true := by decide +kernel
theorem k_c2I : EntOK Tryz.prog h0 e_c2I := entT_ok hpo (gtOK o_c29) r_c2I
def L_c210 : List Ent := e_c2I :: L_c29
theorem o_c210 : ∀ e ∈ L_c210, EntOK Tryz.prog h0 e := consOK k_c2I o_c29
def e_c2xW : Ent := .mk 49 (vl [.a 3 (vl [.i 3 29, .s 13154 2, .k 3 2 (vl [.i 3 5, .s 49 1, .z 1, .i 3 29, .s 12898 2, .k 3 2 (vl [.i 3 5, .s 50 1, .z 1, .i 3 13, .s 13154 2, .z 1])])])]) (.a 3 (vl [.i 3 29, .s 13154 2, .k 3 2 (vl [.i 3 5, .s 49 1, .z 1, .i 3 29, .s 12898 2, .k 3 2 (vl [.i 3 5, .s 50 1, .z 1, .i 3 13, .s 13154 2, .z 1])])]))
theorem r_c2xW : entT (GT L_c210) h0 e_c2xW = true := by decide +kernel
theorem k_c2xW : EntOK Tryz.prog h0 e_c2xW := entT_ok hpo (gtOK o_c210) r_c2xW
def L_c211 : List Ent := e_c2xW :: L_c210
theorem o_c211 : ∀ e ∈ L_c211, EntOK Tryz.prog h0 e := consOK k_c2xW o_c210
def e_c2xR : Ent := .mk 50 (vl [.a 3 (vl [.i 3 29, .s 13154 2, .k 3 2 (vl [.i 3 5, .s 49 1, .z 1, .i 3 29, .s 12898 2, .k 3 2 (vl [.i 3 5, .s 50 1, .z 1, .i 3 13, .s 13154 2, .z 1])])])]) (.b true)
theorem r_c2xR : entT (GT L_c211) h0 e_c2xR = true := by decide +kernel
theorem k_c2xR : EntOK Tryz.prog h0 e_c2xR := entT_ok hpo (gtOK o_c211) r_c2xR
def L_c212 : List Ent := e_c2xR :: L_c211
theorem o_c212 : ∀ e ∈ L_c212, EntOK Tryz.prog h0 e := consOK k_c2xR o_c211
def e_c2xA : Ent := .mk 18 (vl [.a 3 (vl [.i 3 29, .s 13154 2, .k 3 2 (vl [.i 3 5, .s 49 1, .z 1, .i 3 29, .s 12898 2, .k 3 2 (vl [.i 3 5, .s 50 1, .z 1, .i 3 13, .s 13154 2, .z 1])])])]) (.a 3 (vl [.i 3 29, .s 12386 2, .k 3 2 (vl [.i 3 5, .s 49 1, .z 1, .i 3 29, .s 12642 2, .k 3 2 (vl [.i 3 5, .s 50 1, .z 1, .i 3 13, .s 12386 2, .z 1])])]))
theorem r_c2xA : entT (GT L_c212) h0 e_c2xA = true := by decide +kernel
theorem k_c2xA : EntOK Tryz.prog h0 e_c2xA := entT_ok hpo (gtOK o_c212) r_c2xA
def L_c213 : List Ent := e_c2xA :: L_c212
theorem o_c213 : ∀ e ∈ L_c213, EntOK Tryz.prog h0 e := consOK k_c2xA o_c212
def e_c2L : Ent := .mk 8 (vl [.a 3 (vl [.i 3 29, .s 13154 2, .k 3 2 (vl [.i 3 5, .s 49 1, .z 1, .i 3 29, .s 12898 2, .k 3 2 (vl [.i 3 5, .s 50 1, .z 1, .i 3 13, .s 13154 2, .z 1])])]), .a 3 (vl [.i 3 29, .s 104 1, .k 3 2 (vl [.i 3 5, .s 49 1, .z 1, .i 3 29, .s 107 1, .k 3 2 (vl [.i 3 5, .s 50 1, .z 1, .i 3 13, .s 104 1, .z 1])])])]) (.b true)
theorem r_c2L : entT (GT L_c213) h0 e_c2L = true := by decide +kernel
theorem k_c2L : EntOK Tryz.prog h0 e_c2L := entT_ok hpo (gtOK o_c213) r_c2L
def L_c214 : List Ent := e_c2L :: L_c213
theorem o_c214 : ∀ e ∈ L_c214, EntOK Tryz.prog h0 e := consOK k_c2L o_c213
end Go.Proofs.YteidbbogbhbckaaGreatDoor
end
