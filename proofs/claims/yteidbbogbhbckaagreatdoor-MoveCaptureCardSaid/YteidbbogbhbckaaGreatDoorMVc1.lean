/- Calls that the law makes, and what they give (c1), each by the kernel. -/
import Derived.Test.YteidbbogbhbckaaGreatDoorEM
set_option linter.unusedVariables false
noncomputable section
namespace Go.Proofs.YteidbbogbhbckaaGreatDoor
open Go.RowKit Go.Ev
def L_c10 : List Ent := []
theorem o_c10 : ∀ e ∈ L_c10, EntOK Tryz.prog h0 e := fun _ h => nomatch h
def e_c1n : Ent := .mk 5 (vl [.s 5279653720375754054820166926368064853742232609585565222062122700826013052106521964116862308 38]) (.t (vl [.a 3 (vl [.i 3 29, .s 102 1, .k 3 3 (vl [.i 3 30, .s 103 1, .z 1, .i 3 26, .s 0 0, .k 3 3 (vl [.i 3 5, .s 50 1, .z 1, .i 3 4, .s 120 1, .z 1, .i 3 13, .s 103 1, .z 1]), .i 3 26, .s 0 0, .k 3 3 (vl [.i 3 5, .s 49 1, .z 1, .i 3 4, .s 120 1, .z 1, .i 3 13, .s 102 1, .k 3 1 (vl [.i 3 4, .s 120 1, .z 1])])])]), .i 3 0, .i 3 0]))
theorem r_c1n : entT (GT L_c10) h0 e_c1n = true := by decide +kernel
theorem k_c1n : EntOK Tryz.prog h0 e_c1n := entT_ok hpo (gtOK o_c10) r_c1n
def L_c11 : List Ent := e_c1n :: L_c10
theorem o_c11 : ∀ e ∈ L_c11, EntOK Tryz.prog h0 e := consOK k_c1n o_c10
def e_c1m : Ent := .mk 5 (vl [.s 36344808172962953593027379223522802082394363280826417 22]) (.t (vl [.a 3 (vl [.i 3 26, .s 0 0, .k 3 3 (vl [.i 3 5, .s 49 1, .z 1, .i 3 4, .s 97 1, .z 1, .i 3 26, .s 0 0, .k 3 3 (vl [.i 3 5, .s 50 1, .z 1, .i 3 4, .s 98 1, .z 1, .i 3 4, .s 97 1, .z 1])])]), .i 3 0, .i 3 0]))
theorem r_c1m : entT (GT L_c11) h0 e_c1m = true := by decide +kernel
theorem k_c1m : EntOK Tryz.prog h0 e_c1m := entT_ok hpo (gtOK o_c11) r_c1m
def L_c12 : List Ent := e_c1m :: L_c11
theorem o_c12 : ∀ e ∈ L_c12, EntOK Tryz.prog h0 e := consOK k_c1m o_c11
def e_c1nW : Ent := .mk 49 (vl [.a 3 (vl [.i 3 29, .s 102 1, .k 3 3 (vl [.i 3 30, .s 103 1, .z 1, .i 3 26, .s 0 0, .k 3 3 (vl [.i 3 5, .s 50 1, .z 1, .i 3 4, .s 120 1, .z 1, .i 3 13, .s 103 1, .z 1]), .i 3 26, .s 0 0, .k 3 3 (vl [.i 3 5, .s 49 1, .z 1, .i 3 4, .s 120 1, .z 1, .i 3 13, .s 102 1, .k 3 1 (vl [.i 3 4, .s 120 1, .z 1])])])])]) (.a 3 (vl [.i 3 29, .s 102 1, .k 3 3 (vl [.i 3 30, .s 103 1, .z 1, .i 3 26, .s 0 0, .k 3 3 (vl [.i 3 5, .s 50 1, .z 1, .i 3 4, .s 120 1, .z 1, .i 3 13, .s 103 1, .z 1]), .i 3 26, .s 0 0, .k 3 3 (vl [.i 3 5, .s 49 1, .z 1, .i 3 4, .s 120 1, .z 1, .i 3 13, .s 102 1, .k 3 1 (vl [.i 3 4, .s 120 1, .z 1])])])]))
theorem r_c1nW : entT (GT L_c12) h0 e_c1nW = true := by decide +kernel
theorem k_c1nW : EntOK Tryz.prog h0 e_c1nW := entT_ok hpo (gtOK o_c12) r_c1nW
def L_c13 : List Ent := e_c1nW :: L_c12
theorem o_c13 : ∀ e ∈ L_c13, EntOK Tryz.prog h0 e := consOK k_c1nW o_c12
def e_c1nR : Ent := .mk 50 (vl [.a 3 (vl [.i 3 29, .s 102 1, .k 3 3 (vl [.i 3 30, .s 103 1, .z 1, .i 3 26, .s 0 0, .k 3 3 (vl [.i 3 5, .s 50 1, .z 1, .i 3 4, .s 120 1, .z 1, .i 3 13, .s 103 1, .z 1]), .i 3 26, .s 0 0, .k 3 3 (vl [.i 3 5, .s 49 1, .z 1, .i 3 4, .s 120 1, .z 1, .i 3 13, .s 102 1, .k 3 1 (vl [.i 3 4, .s 120 1, .z 1])])])])]) (.b true)
theorem r_c1nR : entT (GT L_c13) h0 e_c1nR = true := by decide +kernel
theorem k_c1nR : EntOK Tryz.prog h0 e_c1nR := entT_ok hpo (gtOK o_c13) r_c1nR
def L_c14 : List Ent := e_c1nR :: L_c13
theorem o_c14 : ∀ e ∈ L_c14, EntOK Tryz.prog h0 e := consOK k_c1nR o_c13
def e_c1nA : Ent := .mk 18 (vl [.a 3 (vl [.i 3 29, .s 102 1, .k 3 3 (vl [.i 3 30, .s 103 1, .z 1, .i 3 26, .s 0 0, .k 3 3 (vl [.i 3 5, .s 50 1, .z 1, .i 3 4, .s 120 1, .z 1, .i 3 13, .s 103 1, .z 1]), .i 3 26, .s 0 0, .k 3 3 (vl [.i 3 5, .s 49 1, .z 1, .i 3 4, .s 120 1, .z 1, .i 3 13, .s 102 1, .k 3 1 (vl [.i 3 4, .s 120 1, .z 1])])])])]) (.a 3 (vl [.i 3 29, .s 12386 2, .k 3 3 (vl [.i 3 30, .s 12642 2, .z 1, .i 3 26, .s 0 0, .k 3 3 (vl [.i 3 5, .s 50 1, .z 1, .i 3 4, .s 12898 2, .z 1, .i 3 13, .s 12642 2, .z 1]), .i 3 26, .s 0 0, .k 3 3 (vl [.i 3 5, .s 49 1, .z 1, .i 3 4, .s 13154 2, .z 1, .i 3 13, .s 12386 2, .k 3 1 (vl [.i 3 4, .s 13154 2, .z 1])])])]))
theorem r_c1nA : entT (GT L_c14) h0 e_c1nA = true := by decide +kernel
theorem k_c1nA : EntOK Tryz.prog h0 e_c1nA := entT_ok hpo (gtOK o_c14) r_c1nA
def L_c15 : List Ent := e_c1nA :: L_c14
theorem o_c15 : ∀ e ∈ L_c15, EntOK Tryz.prog h0 e := consOK k_c1nA o_c14
def e_c1mW : Ent := .mk 49 (vl [.a 3 (vl [.i 3 26, .s 0 0, .k 3 3 (vl [.i 3 5, .s 49 1, .z 1, .i 3 4, .s 97 1, .z 1, .i 3 26, .s 0 0, .k 3 3 (vl [.i 3 5, .s 50 1, .z 1, .i 3 4, .s 98 1, .z 1, .i 3 4, .s 97 1, .z 1])])])]) (.a 3 (vl [.i 3 26, .s 0 0, .k 3 3 (vl [.i 3 5, .s 49 1, .z 1, .i 3 4, .s 97 1, .z 1, .i 3 26, .s 0 0, .k 3 3 (vl [.i 3 5, .s 50 1, .z 1, .i 3 4, .s 98 1, .z 1, .i 3 4, .s 97 1, .z 1])])]))
theorem r_c1mW : entT (GT L_c15) h0 e_c1mW = true := by decide +kernel
theorem k_c1mW : EntOK Tryz.prog h0 e_c1mW := entT_ok hpo (gtOK o_c15) r_c1mW
def L_c16 : List Ent := e_c1mW :: L_c15
theorem o_c16 : ∀ e ∈ L_c16, EntOK Tryz.prog h0 e := consOK k_c1mW o_c15
def e_c1mR : Ent := .mk 50 (vl [.a 3 (vl [.i 3 26, .s 0 0, .k 3 3 (vl [.i 3 5, .s 49 1, .z 1, .i 3 4, .s 97 1, .z 1, .i 3 26, .s 0 0, .k 3 3 (vl [.i 3 5, .s 50 1, .z 1, .i 3 4, .s 98 1, .z 1, .i 3 4, .s 97 1, .z 1])])])]) (.b true)
theorem r_c1mR : entT (GT L_c16) h0 e_c1mR = true := by decide +kernel
theorem k_c1mR : EntOK Tryz.prog h0 e_c1mR := entT_ok hpo (gtOK o_c16) r_c1mR
def L_c17 : List Ent := e_c1mR :: L_c16
theorem o_c17 : ∀ e ∈ L_c17, EntOK Tryz.prog h0 e := consOK k_c1mR o_c16
def e_c1mA : Ent := .mk 18 (vl [.a 3 (vl [.i 3 26, .s 0 0, .k 3 3 (vl [.i 3 5, .s 49 1, .z 1, .i 3 4, .s 97 1, .z 1, .i 3 26, .s 0 0, .k 3 3 (vl [.i 3 5, .s 50 1, .z 1, .i 3 4, .s 98 1, .z 1, .i 3 4, .s 97 1, .z 1])])])]) (.a 3 (vl [.i 3 26, .s 0 0, .k 3 3 (vl [.i 3 5, .s 49 1, .z 1, .i 3 4, .s 12386 2, .z 1, .i 3 26, .s 0 0, .k 3 3 (vl [.i 3 5, .s 50 1, .z 1, .i 3 4, .s 12642 2, .z 1, .i 3 4, .s 12386 2, .z 1])])]))
theorem r_c1mA : entT (GT L_c17) h0 e_c1mA = true := by decide +kernel
theorem k_c1mA : EntOK Tryz.prog h0 e_c1mA := entT_ok hpo (gtOK o_c17) r_c1mA
def L_c18 : List Ent := e_c1mA :: L_c17
theorem o_c18 : ∀ e ∈ L_c18, EntOK Tryz.prog h0 e := consOK k_c1mA o_c17
def e_c1nRs : Ent := .mk 16 (vl [.a 3 (vl [.i 3 29, .s 102 1, .k 3 3 (vl [.i 3 30, .s 103 1, .z 1, .i 3 26, .s 0 0, .k 3 3 (vl [.i 3 5, .s 50 1, .z 1, .i 3 4, .s 120 1, .z 1, .i 3 13, .s 103 1, .z 1]), .i 3 26, .s 0 0, .k 3 3 (vl [.i 3 5, .s 49 1, .z 1, .i 3 4, .s 120 1, .z 1, .i 3 13, .s 102 1, .k 3 1 (vl [.i 3 4, .s 120 1, .z 1])])])])]) (.t (vl [.k 6 4 (vl [.i 3 1, .i 3 2, .s 102 1, .i 3 1, .j 3 0, .k 1 1 (vl [.i 3 16]), .i 3 3, .i 3 3, .s 103 1, .i 3 0, .j 3 0, .k 1 1 (vl [.i 3 10]), .i 3 8, .i 3 1, .s 120 1, .i 3 0, .j 3 0, .z 1, .i 3 14, .i 3 1, .s 120 1, .i 3 0, .j 3 0, .k 1 1 (vl [.i 3 18])]), .z 1]))
theorem r_c1nRs : entT (GT L_c18) h0 e_c1nRs = true := by decide +kernel
theorem k_c1nRs : EntOK Tryz.prog h0 e_c1nRs := entT_ok hpo (gtOK o_c18) r_c1nRs
def L_c19 : List Ent := e_c1nRs :: L_c18
theorem o_c19 : ∀ e ∈ L_c19, EntOK Tryz.prog h0 e := consOK k_c1nRs o_c18
def e_c1I : Ent := .mk 6 (vl [.a 3 (vl [.i 3 29, .s 102 1, .k 3 3 (vl [.i 3 30, .s 103 1, .z 1, .i 3 26, .s 0 0, .k 3 3 (vl [.i 3 5, .s 50 1, .z 1, .i 3 4, .s 120 1, .z 1, .i 3 13, .s 103 1, .z 1]), .i 3 26, .s 0 0, .k 3 3 (vl [.i 3 5, .s 49 1, .z 1, .i 3 4, .s 120 1, .z 1, .i 3 13, .s 102 1, .k 3 1 (vl [.i 3 4, .s 120 1, .z 1])])])]), .i 3 1]) (.t (vl [.a 3 (vl [.i 3 26, .s 0 0, .k 3 3 (vl [.i 3 5, .s 49 1, .z 1, .i 3 4, .s 13154 2, .z 1, .i 3 26, .s 0 0, .k 3 3 (vl [.i 3 5, .s 50 1, .z 1, .i 3 4, .s 12898 2, .z 1, .i 3 4, .s 13154 2, .z 1])])]), .i 5 0]))
theorem r_c1I : entT (GT L_c19) h0 e_c1I = true := by decide +kernel
theorem k_c1I : EntOK Tryz.prog h0 e_c1I := entT_ok hpo (gtOK o_c19) r_c1I
def L_c110 : List Ent := e_c1I :: L_c19
theorem o_c110 : ∀ e ∈ L_c110, EntOK Tryz.prog h0 e := consOK k_c1I o_c19
def e_c1xW : Ent := .mk 49 (vl [.a 3 (vl [.i 3 26, .s 0 0, .k 3 3 (vl [.i 3 5, .s 49 1, .z 1, .i 3 4, .s 13154 2, .z 1, .i 3 26, .s 0 0, .k 3 3 (vl [.i 3 5, .s 50 1, .z 1, .i 3 4, .s 12898 2, .z 1, .i 3 4, .s 13154 2, .z 1])])])]) (.a 3 (vl [.i 3 26, .s 0 0, .k 3 3 (vl [.i 3 5, .s 49 1, .z 1, .i 3 4, .s 13154 2, .z 1, .i 3 26, .s 0 0, .k 3 3 (vl [.i 3 5, .s 50 1, .z 1, .i 3 4, .s 12898 2, .z 1, .i 3 4, .s 13154 2, .z 1])])]))
theorem r_c1xW : entT (GT L_c110) h0 e_c1xW = true := by decide +kernel
theorem k_c1xW : EntOK Tryz.prog h0 e_c1xW := entT_ok hpo (gtOK o_c110) r_c1xW
def L_c111 : List Ent := e_c1xW :: L_c110
theorem o_c111 : ∀ e ∈ L_c111, EntOK Tryz.prog h0 e := consOK k_c1xW o_c110
def e_c1xR : Ent := .mk 50 (vl [.a 3 (vl [.i 3 26, .s 0 0, .k 3 3 (vl [.i 3 5, .s 49 1, .z 1, .i 3 4, .s 13154 2, .z 1, .i 3 26, .s 0 0, .k 3 3 (vl [.i 3 5, .s 50 1, .z 1, .i 3 4, .s 12898 2, .z 1, .i 3 4, .s 13154 2, .z 1])])])]) (.b true)
theorem r_c1xR : entT (GT L_c111) h0 e_c1xR = true := by decide +kernel
theorem k_c1xR : EntOK Tryz.prog h0 e_c1xR := entT_ok hpo (gtOK o_c111) r_c1xR
def L_c112 : List Ent := e_c1xR :: L_c111
theorem o_c112 : ∀ e ∈ L_c112, EntOK Tryz.prog h0 e := consOK k_c1xR o_c111
def e_c1xA : Ent := .mk 18 (vl [.a 3 (vl [.i 3 26, .s 0 0, .k 3 3 (vl [.i 3 5, .s 49 1, .z 1, .i 3 4, .s 13154 2, .z 1, .i 3 26, .s 0 0, .k 3 3 (vl [.i 3 5, .s 50 1, .z 1, .i 3 4, .s 12898 2, .z 1, .i 3 4, .s 13154 2, .z 1])])])]) (.a 3 (vl [.i 3 26, .s 0 0, .k 3 3 (vl [.i 3 5, .s 49 1, .z 1, .i 3 4, .s 12386 2, .z 1, .i 3 26, .s 0 0, .k 3 3 (vl [.i 3 5, .s 50 1, .z 1, .i 3 4, .s 12642 2, .z 1, .i 3 4, .s 12386 2, .z 1])])]))
theorem r_c1xA : entT (GT L_c112) h0 e_c1xA = true := by decide +kernel
theorem k_c1xA : EntOK Tryz.prog h0 e_c1xA := entT_ok hpo (gtOK o_c112) r_c1xA
def L_c113 : List Ent := e_c1xA :: L_c112
theorem o_c113 : ∀ e ∈ L_c113, EntOK Tryz.prog h0 e := consOK k_c1xA o_c112
def e_c1L : Ent := .mk 8 (vl [.a 3 (vl [.i 3 26, .s 0 0, .k 3 3 (vl [.i 3 5, .s 49 1, .z 1, .i 3 4, .s 13154 2, .z 1, .i 3 26, .s 0 0, .k 3 3 (vl [.i 3 5, .s 50 1, .z 1, .i 3 4, .s 12898 2, .z 1, .i 3 4, .s 13154 2, .z 1])])]), .a 3 (vl [.i 3 26, .s 0 0, .k 3 3 (vl [.i 3 5, .s 49 1, .z 1, .i 3 4, .s 97 1, .z 1, .i 3 26, .s 0 0, .k 3 3 (vl [.i 3 5, .s 50 1, .z 1, .i 3 4, .s 98 1, .z 1, .i 3 4, .s 97 1, .z 1])])])]) (.b true)
theorem r_c1L : entT (GT L_c113) h0 e_c1L = true := by decide +kernel
theorem k_c1L : EntOK Tryz.prog h0 e_c1L := entT_ok hpo (gtOK o_c113) r_c1L
def L_c114 : List Ent := e_c1L :: L_c113
theorem o_c114 : ∀ e ∈ L_c114, EntOK Tryz.prog h0 e := consOK k_c1L o_c113
end Go.Proofs.YteidbbogbhbckaaGreatDoor
end
