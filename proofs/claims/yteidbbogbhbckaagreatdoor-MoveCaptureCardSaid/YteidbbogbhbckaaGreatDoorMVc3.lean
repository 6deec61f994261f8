/- Calls that the law makes, and what they give (c3), each by the kernel. -/
import Derived.Test.YteidbbogbhbckaaGreatDoorEM
set_option linter.unusedVariables false
noncomputable section
namespace Go.Proofs.YteidbbogbhbckaaGreatDoor
open Go.RowKit Go.Ev
def L_c30 : List Ent := []
theorem o_c30 : ∀ e ∈ L_c30, EntOK Tryz.prog h0 e := fun _ h => nomatch h
def e_c3n : Ent := .mk 5 (vl [.s 46193306353589024270532788325312981578539602732262422323897251465916533776433 32]) (.t (vl [.a 3 (vl [.i 3 26, .s 0 0, .k 3 3 (vl [.i 3 5, .s 49 1, .z 1, .i 3 4, .s 121 1, .z 1, .i 3 29, .s 102 1, .k 3 2 (vl [.i 3 4, .s 121 1, .z 1, .i 3 26, .s 0 0, .k 3 3 (vl [.i 3 5, .s 50 1, .z 1, .i 3 4, .s 121 1, .z 1, .i 3 13, .s 102 1, .z 1])])])]), .i 3 0, .i 3 0]))
theorem r_c3n : entT (GT L_c30) h0 e_c3n = true := by decide +kernel
theorem k_c3n : EntOK Tryz.prog h0 e_c3n := entT_ok hpo (gtOK o_c30) r_c3n
def L_c31 : List Ent := e_c3n :: L_c30
theorem o_c31 : ∀ e ∈ L_c31, EntOK Tryz.prog h0 e := consOK k_c3n o_c30
def e_c3m : Ent := .mk 5 (vl [.s 36344808172962953593027379223522802082394363280826417 22]) (.t (vl [.a 3 (vl [.i 3 26, .s 0 0, .k 3 3 (vl [.i 3 5, .s 49 1, .z 1, .i 3 4, .s 97 1, .z 1, .i 3 26, .s 0 0, .k 3 3 (vl [.i 3 5, .s 50 1, .z 1, .i 3 4, .s 98 1, .z 1, .i 3 4, .s 97 1, .z 1])])]), .i 3 0, .i 3 0]))
theorem r_c3m : entT (GT L_c31) h0 e_c3m = true := by decide +kernel
theorem k_c3m : EntOK Tryz.prog h0 e_c3m := entT_ok hpo (gtOK o_c31) r_c3m
def L_c32 : List Ent := e_c3m :: L_c31
theorem o_c32 : ∀ e ∈ L_c32, EntOK Tryz.prog h0 e := consOK k_c3m o_c31
def e_c3nW : Ent := .mk 49 (vl [.a 3 (vl [.i 3 26, .s 0 0, .k 3 3 (vl [.i 3 5, .s 49 1, .z 1, .i 3 4, .s 121 1, .z 1, .i 3 29, .s 102 1, .k 3 2 (vl [.i 3 4, .s 121 1, .z 1, .i 3 26, .s 0 0, .k 3 3 (vl [.i 3 5, .s 50 1, .z 1, .i 3 4, .s 121 1, .z 1, .i 3 13, .s 102 1, .z 1])])])])]) (.a 3 (vl [.i 3 26, .s 0 0, .k 3 3 (vl [.i 3 5, .s 49 1, .z 1, .i 3 4, .s 121 1, .z 1, .i 3 29, .s 102 1, .k 3 2 (vl [.i 3 4, .s 121 1, .z 1, .i 3 26, .s 0 0, .k 3 3 (vl [.i 3 5, .s 50 1, .z 1, .i 3 4, .s 121 1, .z 1, .i 3 13, .s 102 1, .z 1])])])]))
theorem r_c3nW : entT (GT L_c32) h0 e_c3nW = true := by decide +kernel
theorem k_c3nW : EntOK Tryz.prog h0 e_c3nW := entT_ok hpo (gtOK o_c32) r_c3nW
def L_c33 : List Ent := e_c3nW :: L_c32
theorem o_c33 : ∀ e ∈ L_c33, EntOK Tryz.prog h0 e := consOK k_c3nW o_c32
def e_c3nR : Ent := .mk 50 (vl [.a 3 (vl [.i 3 26, .s 0 0, .k 3 3 (vl [.i 3 5, .s 49 1, .z 1, .i 3 4, .s 121 1, .z 1, .i 3 29, .s 102 1, .k 3 2 (vl [.i 3 4, .s 121 1, .z 1, .i 3 26, .s 0 0, .k 3 3 (vl [.i 3 5, .s 50 1, .z 1, .i 3 4, .s 121 1, .z 1, .i 3 13, .s 102 1, .z 1])])])])]) (.b true)
theorem r_c3nR : entT (GT L_c33) h0 e_c3nR = true := by decide +kernel
theorem k_c3nR : EntOK Tryz.prog h0 e_c3nR := entT_ok hpo (gtOK o_c33) r_c3nR
def L_c34 : List Ent := e_c3nR :: L_c33
theorem o_c34 : ∀ e ∈ L_c34, EntOK Tryz.prog h0 e := consOK k_c3nR o_c33
def e_c3nA : Ent := .mk 18 (vl [.a 3 (vl [.i 3 26, .s 0 0, .k 3 3 (vl [.i 3 5, .s 49 1, .z 1, .i 3 4, .s 121 1, .z 1, .i 3 29, .s 102 1, .k 3 2 (vl [.i 3 4, .s 121 1, .z 1, .i 3 26, .s 0 0, .k 3 3 (vl [.i 3 5, .s 50 1, .z 1, .i 3 4, .s 121 1, .z 1, .i 3 13, .s 102 1, .z 1])])])])]) (.a 3 (vl [.i 3 26, .s 0 0, .k 3 3 (vl [.i 3 5, .s 49 1, .z 1, .i 3 4, .s 12386 2, .z 1, .i 3 29, .s 12642 2, .k 3 2 (vl [.i 3 4, .s 12386 2, .z 1, .i 3 26, .s 0 0, .k 3 3 (vl [.i 3 5, .s 50 1, .z 1, .i 3 4, .s 12898 2, .z 1, .i 3 13, .s 12642 2, .z 1])])])]))
theorem r_c3nA : entT (GT L_c34) h0 e_c3nA = true := by decide +kernel
theorem k_c3nA : EntOK Tryz.prog h0 e_c3nA := entT_ok hpo (gtOK o_c34) r_c3nA
def L_c35 : List Ent := e_c3nA :: L_c34
theorem o_c35 : ∀ e ∈ L_c35, EntOK Tryz.prog h0 e := consOK k_c3nA o_c34
def e_c3mW : Ent := .mk 49 (vl [.a 3 (vl [.i 3 26, .s 0 0, .k 3 3 (vl [.i 3 5, .s 49 1, .z 1, .i 3 4, .s 97 1, .z 1, .i 3 26, .s 0 0, .k 3 3 (vl [.i 3 5, .s 50 1, .z 1, .i 3 4, .s 98 1, .z 1, .i 3 4, .s 97 1, .z 1])])])]) (.a 3 (vl [.i 3 26, .s 0 0, .k 3 3 (vl [.i 3 5, .s 49 1, .z 1, .i 3 4, .s 97 1, .z 1, .i 3 26, .s 0 0, .k 3 3 (vl [.i 3 5, .s 50 1, .z 1, .i 3 4, .s 98 1, .z 1, .i 3 4, .s 97 1, .z 1])])]))
theorem r_c3mW : entT (GT L_c35) h0 e_c3mW = true := by decide +kernel
theorem k_c3mW : EntOK Tryz.prog h0 e_c3mW := entT_ok hpo (gtOK o_c35) r_c3mW
def L_c36 : List Ent := e_c3mW :: L_c35
theorem o_c36 : ∀ e ∈ L_c36, EntOK Tryz.prog h0 e := consOK k_c3mW o_c35
def e_c3mR : Ent := .mk 50 (vl [.a 3 (vl [.i 3 26, .s 0 0, .k 3 3 (vl [.i 3 5, .s 49 1, .z 1, .i 3 4, .s 97 1, .z 1, .i 3 26, .s 0 0, .k 3 3 (vl [.i 3 5, .s 50 1, .z 1, .i 3 4, .s 98 1, .z 1, .i 3 4, .s 97 1, .z 1])])])]) (.b true)
theorem r_c3mR : entT (GT L_c36) h0 e_c3mR = true := by decide +kernel
theorem k_c3mR : EntOK Tryz.prog h0 e_c3mR := entT_ok hpo (gtOK o_c36) r_c3mR
def L_c37 : List Ent := e_c3mR :: L_c36
theorem o_c37 : ∀ e ∈ L_c37, EntOK Tryz.prog h0 e := consOK k_c3mR o_c36
def e_c3mA : Ent := .mk 18 (vl [.a 3 (vl [.i 3 26, .s 0 0, .k 3 3 (vl [.i 3 5, .s 49 1, .z 1, .i 3 4, .s 97 1, .z 1, .i 3 26, .s 0 0, .k 3 3 (vl [.i 3 5, .s 50 1, .z 1, .i 3 4, .s 98 1, .z 1, .i 3 4, .s 97 1, .z 1])])])]) (.a 3 (vl [.i 3 26, .s 0 0, .k 3 3 (vl [.i 3 5, .s 49 1, .z 1, .i 3 4, .s 12386 2, .z 1, .i 3 26, .s 0 0, .k 3 3 (vl [.i 3 5, .s 50 1, .z 1, .i 3 4, .s 12642 2, .z 1, .i 3 4, .s 12386 2, .z 1])])]))
theorem r_c3mA : entT (GT L_c37) h0 e_c3mA = true := by decide +kernel
theorem k_c3mA : EntOK Tryz.prog h0 e_c3mA := entT_ok hpo (gtOK o_c37) r_c3mA
def L_c38 : List Ent := e_c3mA :: L_c37
theorem o_c38 : ∀ e ∈ L_c38, EntOK Tryz.prog h0 e := consOK k_c3mA o_c37
def e_c3nRs : Ent := .mk 16 (vl [.a 3 (vl [.i 3 26, .s 0 0, .k 3 3 (vl [.i 3 5, .s 49 1, .z 1, .i 3 4, .s 121 1, .z 1, .i 3 29, .s 102 1, .k 3 2 (vl [.i 3 4, .s 121 1, .z 1, .i 3 26, .s 0 0, .k 3 3 (vl [.i 3 5, .s 50 1, .z 1, .i 3 4, .s 121 1, .z 1, .i 3 13, .s 102 1, .z 1])])])])]) (.t (vl [.k 6 3 (vl [.i 3 2, .i 3 1, .s 121 1, .i 3 0, .j 3 0, .k 1 1 (vl [.i 3 7]), .i 3 5, .i 3 2, .s 102 1, .i 3 0, .j 3 0, .k 1 1 (vl [.i 3 13]), .i 3 11, .i 3 1, .s 121 1, .i 3 0, .i 3 0, .z 1]), .z 1]))
theorem r_c3nRs : entT (GT L_c38) h0 e_c3nRs = true := by decide +kernel
theorem k_c3nRs : EntOK Tryz.prog h0 e_c3nRs := entT_ok hpo (gtOK o_c38) r_c3nRs
def L_c39 : List Ent := e_c3nRs :: L_c38
theorem o_c39 : ∀ e ∈ L_c39, EntOK Tryz.prog h0 e := consOK k_c3nRs o_c38
def e_c3I : Ent := .mk 6 (vl [.a 3 (vl [.i 3 26, .s 0 0, .k 3 3 (vl [.i 3 5, .s 49 1, .z 1, .i 3 4, .s 121 1, .z 1, .i 3 29, .s 102 1, .k 3 2 (vl [.i 3 4, .s 121 1, .z 1, .i 3 26, .s 0 0, .k 3 3 (vl [.i 3 5, .s 50 1, .z 1, .i 3 4, .s 121 1, .z 1, .i 3 13, .s 102 1, .z 1])])])]), .i 3 5]) (.t (vl [.a 3 (vl [.i 3 26, .s 0 0, .k 3 3 (vl [.i 3 5, .s 49 1, .z 1, .i 3 4, .s 12386 2, .z 1, .i 3 26, .s 0 0, .k 3 3 (vl [.i 3 5, .s 50 1, .z 1, .i 3 4, .s 12898 2, .z 1, .i 3 4, .s 12386 2, .z 1])])]), .i 5 0]))
theorem r_c3I : entT (GT L_c39) h0 e_c3I = true := by decide +kernel
theorem k_c3I : EntOK Tryz.prog h0 e_c3I := entT_ok hpo (gtOK o_c39) r_c3I
def L_c310 : List Ent := e_c3I :: L_c39
theorem o_c310 : ∀ e ∈ L_c310, EntOK Tryz.prog h0 e := consOK k_c3I o_c39
def e_c3xW : Ent := .mk 49 (vl [.a 3 (vl [.i 3 26, .s 0 0, .k 3 3 (vl [.i 3 5, .s 49 1, .z 1, .i 3 4, .s 12386 2, .z 1, .i 3 26, .s 0 0, .k 3 3 (vl [.i 3 5, .s 50 1, .z 1, .i 3 4, .s 12898 2, .z 1, .i 3 4, .s 12386 2, .z 1])])])]) (.a 3 (vl [.i 3 26, .s 0 0, .k 3 3 (vl [.i 3 5, .s 49 1, .z 1, .i 3 4, .s 12386 2, .z 1, .i 3 26, .s 0 0, .k 3 3 (vl [.i 3 5, .s 50 1, .z 1, .i 3 4, .s 12898 2, .z 1, .i 3 4, .s 12386 2, .z 1])])]))
theorem r_c3xW : entT (GT L_c310) h0 e_c3xW = true := by decide +kernel
theorem k_c3xW : EntOK Tryz.prog h0 e_c3xW := entT_ok hpo (gtOK o_c310) r_c3xW
def L_c311 : List Ent := e_c3xW :: L_c310
theorem o_c311 : ∀ e ∈ L_c311, EntOK Tryz.prog h0 e := consOK k_c3xW o_c310
def e_c3xR : Ent := .mk 50 (vl [.a 3 (vl [.i 3 26, .s 0 0, .k 3 3 (vl [.i 3 5, .s 49 1, .z 1, .i 3 4, .s 12386 2, .z 1, .i 3 26, .s 0 0, .k 3 3 (vl [.i 3 5, .s 50 1, .z 1, .i 3 4, .s 12898 2, .z 1, .i 3 4, .s 12386 2, .z 1])])])]) (.b true)
theorem r_c3xR : entT (GT L_c311) h0 e_c3xR = true := by decide +kernel
theorem k_c3xR : EntOK Tryz.prog h0 e_c3xR := entT_ok hpo (gtOK o_c311) r_c3xR
def L_c312 : List Ent := e_c3xR :: L_c311
theorem o_c312 : ∀ e ∈ L_c312, EntOK Tryz.prog h0 e := consOK k_c3xR o_c311
def e_c3xA : Ent := .mk 18 (vl [.a 3 (vl [.i 3 26, .s 0 0, .k 3 3 (vl [.i 3 5, .s 49 1, .z 1, .i 3 4, .s 12386 2, .z 1, .i 3 26, .s 0 0, .k 3 3 (vl [.i 3 5, .s 50 1, .z 1, .i 3 4, .s 12898 2, .z 1, .i 3 4, .s 12386 2, .z 1])])])]) (.a 3 (vl [.i 3 26, .s 0 0, .k 3 3 (vl [.i 3 5, .s 49 1, .z 1, .i 3 4, .s 12386 2, .z 1, .i 3 26, .s 0 0, .k 3 3 (vl [.i 3 5, .s 50 1, .z 1, .i 3 4, .s 12642 2, .z 1, .i 3 4, .s 12386 2, .z 1])])]))
theorem r_c3xA : entT (GT L_c312) h0 e_c3xA = true := by decide +kernel
theorem k_c3xA : EntOK Tryz.prog h0 e_c3xA := entT_ok hpo (gtOK o_c312) r_c3xA
def L_c313 : List Ent := e_c3xA :: L_c312
theorem o_c313 : ∀ e ∈ L_c313, EntOK Tryz.prog h0 e := consOK k_c3xA o_c312
def e_c3L : Ent := .mk 8 (vl [.a 3 (vl [.i 3 26, .s 0 0, .k 3 3 (vl [.i 3 5, .s 49 1, .z 1, .i 3 4, .s 12386 2, .z 1, .i 3 26, .s 0 0, .k 3 3 (vl [.i 3 5, .s 50 1, .z 1, .i 3 4, .s 12898 2, .z 1, .i 3 4, .s 12386 2, .z 1])])]), .a 3 (vl [.i 3 26, .s 0 0, .k 3 3 (vl [.i 3 5, .s 49 1, .z 1, .i 3 4, .s 97 1, .z 1, .i 3 26, .s 0 0, .k 3 3 (vl [.i 3 5, .s 50 1, .z 1, .i 3 4, .s 98 1, .z 1, .i 3 4, .s 97 1, .z 1])])])]) (.b true)
theorem r_c3L : entT (GT L_c313) h0 e_c3L = true := by decide +kernel
theorem k_c3L : EntOK Tryz.prog h0 e_c3L := entT_ok hpo (gtOK o_c313) r_c3L
def L_c314 : List Ent := e_c3L :: L_c313
theorem o_c314 : ∀ e ∈ L_c314, EntOK Tryz.prog h0 e := consOK k_c3L o_c313
end Go.Proofs.YteidbbogbhbckaaGreatDoor
end
