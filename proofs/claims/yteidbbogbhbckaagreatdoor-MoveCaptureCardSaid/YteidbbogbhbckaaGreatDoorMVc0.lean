/- Calls that the law makes, and what they give (c0), each by the kernel. -/
import Derived.Test.YteidbbogbhbckaaGreatDoorEM
set_option linter.unusedVariables false
noncomputable section
namespace Go.Proofs.YteidbbogbhbckaaGreatDoor
open Go.RowKit Go.Ev
def L_c00 : List Ent := []
theorem o_c00 : ∀ e ∈ L_c00, EntOK Tryz.prog h0 e := fun _ h => nomatch h
def e_c0n : Ent := .mk 5 (vl [.s 233394408589896996550602698658966088461415110773079109961799380157410444765042758280548 36]) (.t (vl [.a 3 (vl [.i 3 29, .s 102 1, .k 3 2 (vl [.i 3 26, .s 0 0, .k 3 3 (vl [.i 3 1, .s 0 0, .z 1, .i 3 4, .s 120 1, .z 1, .i 3 4, .s 120 1, .z 1]), .i 3 26, .s 0 0, .k 3 3 (vl [.i 3 5, .s 49 1, .z 1, .i 3 4, .s 120 1, .z 1, .i 3 24, .s 44 1, .k 3 2 (vl [.i 3 13, .s 102 1, .z 1, .i 3 4, .s 120 1, .z 1])])])]), .i 3 0, .i 3 0]))
theorem r_c0n : entT (GT L_c00) h0 e_c0n = true := by decide +kernel
theorem k_c0n : EntOK Tryz.prog h0 e_c0n := entT_ok hpo (gtOK o_c00) r_c0n
def L_c01 : List Ent := e_c0n :: L_c00
theorem o_c01 : ∀ e ∈ L_c01, EntOK Tryz.prog h0 e := consOK k_c0n o_c00
def e_c0m : Ent := .mk 5 (vl [.s 10230153532090547735451820084777275683398064750356357606509423697969 28]) (.t (vl [.a 3 (vl [.i 3 26, .s 0 0, .k 3 3 (vl [.i 3 5, .s 49 1, .z 1, .i 3 4, .s 97 1, .z 1, .i 3 24, .s 44 1, .k 3 2 (vl [.i 3 12, .s 0 0, .k 3 1 (vl [.i 3 26, .s 0 0, .k 3 3 (vl [.i 3 1, .s 0 0, .z 1, .i 3 4, .s 98 1, .z 1, .i 3 4, .s 98 1, .z 1])]), .i 3 4, .s 97 1, .z 1])])]), .i 3 0, .i 3 0]))
theorem r_c0m : entT (GT L_c01) h0 e_c0m = true := by decide +kernel
theorem k_c0m : EntOK Tryz.prog h0 e_c0m := entT_ok hpo (gtOK o_c01) r_c0m
def L_c02 : List Ent := e_c0m :: L_c01
theorem o_c02 : ∀ e ∈ L_c02, EntOK Tryz.prog h0 e := consOK k_c0m o_c01
def e_c0nW : Ent := .mk 49 (vl [.a 3 (vl [.i 3 29, .s 102 1, .k 3 2 (vl [.i 3 26, .s 0 0, .k 3 3 (vl [.i 3 1, .s 0 0, .z 1, .i 3 4, .s 120 1, .z 1, .i 3 4, .s 120 1, .z 1]), .i 3 26, .s 0 0, .k 3 3 (vl [.i 3 5, .s 49 1, .z 1, .i 3 4, .s 120 1, .z 1, .i 3 24, .s 44 1, .k 3 2 (vl [.i 3 13, .s 102 1, .z 1, .i 3 4, .s 120 1, .z 1])])])])]) (.a 3 (vl [.i 3 29, .s 102 1, .k 3 2 (vl [.i 3 26, .s 0 0, .k 3 3 (vl [.i 3 1, .s 0 0, .z 1, .i 3 4, .s 120 1, .z 1, .i 3 4, .s 120 1, .z 1]), .i 3 26, .s 0 0, .k 3 3 (vl [.i 3 5, .s 49 1, .z 1, .i 3 4, .s 120 1, .z 1, .i 3 24, .s 44 1, .k 3 2 (vl [.i 3 13, .s 102 1, .z 1, .i 3 4, .s 120 1, .z 1])])])]))
theorem r_c0nW : entT (GT L_c02) h0 e_c0nW = true := by decide +kernel
theorem k_c0nW : EntOK Tryz.prog h0 e_c0nW := entT_ok hpo (gtOK o_c02) r_c0nW
def L_c03 : List Ent := e_c0nW :: L_c02
theorem o_c03 : ∀ e ∈ L_c03, EntOK Tryz.prog h0 e := consOK k_c0nW o_c02
def e_c0nR : Ent := .mk 50 (vl [.a 3 (vl [.i 3 29, .s 102 1, .k 3 2 (vl [.i 3 26, .s 0 0, .k 3 3 (vl [.i 3 1, .s 0 0, .z 1, .i 3 4, .s 120 1, .z 1, .i 3 4, .s 120 1, .z 1]), .i 3 26, .s 0 0, .k 3 3 (vl [.i 3 5, .s 49 1, .z 1, .i 3 4, .s 120 1, .z 1, .i 3 24, .s 44 1, .k 3 2 (vl [.i 3 13, .s 102 1, .z 1, .i 3 4, .s 120 1, .z 1])])])])]) (.b true)
theorem r_c0nR : entT (GT L_c03) h0 e_c0nR = true := by decide +kernel
theorem k_c0nR : EntOK Tryz.prog h0 e_c0nR := entT_ok hpo (gtOK o_c03) r_c0nR
def L_c04 : List Ent := e_c0nR :: L_c03
theorem o_c04 : ∀ e ∈ L_c04, EntOK Tryz.prog h0 e := consOK k_c0nR o_c03
def e_c0nA : Ent := .mk 18 (vl [.a 3 (vl [.i 3 29, .s 102 1, .k 3 2 (vl [.i 3 26, .s 0 0, .k 3 3 (vl [.i 3 1, .s 0 0, .z 1, .i 3 4, .s 120 1, .z 1, .i 3 4, .s 120 1, .z 1]), .i 3 26, .s 0 0, .k 3 3 (vl [.i 3 5, .s 49 1, .z 1, .i 3 4, .s 120 1, .z 1, .i 3 24, .s 44 1, .k 3 2 (vl [.i 3 13, .s 102 1, .z 1, .i 3 4, .s 120 1, .z 1])])])])]) (.a 3 (vl [.i 3 29, .s 12386 2, .k 3 2 (vl [.i 3 26, .s 0 0, .k 3 3 (vl [.i 3 1, .s 0 0, .z 1, .i 3 4, .s 12642 2, .z 1, .i 3 4, .s 12642 2, .z 1]), .i 3 26, .s 0 0, .k 3 3 (vl [.i 3 5, .s 49 1, .z 1, .i 3 4, .s 12898 2, .z 1, .i 3 24, .s 44 1, .k 3 2 (vl [.i 3 13, .s 12386 2, .z 1, .i 3 4, .s 12898 2, .z 1])])])]))
theorem r_c0nA : entT (GT L_c04) h0 e_c0nA = true := by decide +kernel
theorem k_c0nA : EntOK Tryz.prog h0 e_c0nA := entT_ok hpo (gtOK o_c04) r_c0nA
def L_c05 : List Ent := e_c0nA :: L_c04
theorem o_c05 : ∀ e ∈ L_c05, EntOK Tryz.prog h0 e := consOK k_c0nA o_c04
def e_c0mW : Ent := .mk 49 (vl [.a 3 (vl [.i 3 26, .s 0 0, .k 3 3 (vl [.i 3 5, .s 49 1, .z 1, .i 3 4, .s 97 1, .z 1, .i 3 24, .s 44 1, .k 3 2 (vl [.i 3 12, .s 0 0, .k 3 1 (vl [.i 3 26, .s 0 0, .k 3 3 (vl [.i 3 1, .s 0 0, .z 1, .i 3 4, .s 98 1, .z 1, .i 3 4, .s 98 1, .z 1])]), .i 3 4, .s 97 1, .z 1])])])]) (.a 3 (vl [.i 3 26, .s 0 0, .k 3 3 (vl [.i 3 5, .s 49 1, .z 1, .i 3 4, .s 97 1, .z 1, .i 3 24, .s 44 1, .k 3 2 (vl [.i 3 12, .s 0 0, .k 3 1 (vl [.i 3 26, .s 0 0, .k 3 3 (vl [.i 3 1, .s 0 0, .z 1, .i 3 4, .s 98 1, .z 1, .i 3 4, .s 98 1, .z 1])]), .i 3 4, .s 97 1, .z 1])])]))
theorem r_c0mW : entT (GT L_c05) h0 e_c0mW = true := by decide +kernel
theorem k_c0mW : EntOK Tryz.prog h0 e_c0mW := entT_ok hpo (gtOK o_c05) r_c0mW
def L_c06 : List Ent := e_c0mW :: L_c05
theorem o_c06 : ∀ e ∈ L_c06, EntOK Tryz.prog h0 e := consOK k_c0mW o_c05
def e_c0mR : Ent := .mk 50 (vl [.a 3 (vl [.i 3 26, .s 0 0, .k 3 3 (vl [.i 3 5, .s 49 1, .z 1, .i 3 4, .s 97 1, .z 1, .i 3 24, .s 44 1, .k 3 2 (vl [.i 3 12, .s 0 0, .k 3 1 (vl [.i 3 26, .s 0 0, .k 3 3 (vl [.i 3 1, .s 0 0, .z 1, .i 3 4, .s 98 1, .z 1, .i 3 4, .s 98 1, .z 1])]), .i 3 4, .s 97 1, .z 1])])])]) (.b true)
theorem r_c0mR : entT (GT L_c06) h0 e_c0mR = true := by decide +kernel
theorem k_c0mR : EntOK Tryz.prog h0 e_c0mR := entT_ok hpo (gtOK o_c06) r_c0mR
def L_c07 : List Ent := e_c0mR :: L_c06
theorem o_c07 : ∀ e ∈ L_c07, EntOK Tryz.prog h0 e := consOK k_c0mR o_c06
def e_c0mA : Ent := .mk 18 (vl [.a 3 (vl [.i 3 26, .s 0 0, .k 3 3 (vl [.i 3 5, .s 49 1, .z 1, .i 3 4, .s 97 1, .z 1, .i 3 24, .s 44 1, .k 3 2 (vl [.i 3 12, .s 0 0, .k 3 1 (vl [.i 3 26, .s 0 0, .k 3 3 (vl [.i 3 1, .s 0 0, .z 1, .i 3 4, .s 98 1, .z 1, .i 3 4, .s 98 1, .z 1])]), .i 3 4, .s 97 1, .z 1])])])]) (.a 3 (vl [.i 3 26, .s 0 0, .k 3 3 (vl [.i 3 5, .s 49 1, .z 1, .i 3 4, .s 12386 2, .z 1, .i 3 24, .s 44 1, .k 3 2 (vl [.i 3 26, .s 0 0, .k 3 3 (vl [.i 3 1, .s 0 0, .z 1, .i 3 4, .s 12642 2, .z 1, .i 3 4, .s 12642 2, .z 1]), .i 3 4, .s 12386 2, .z 1])])]))
theorem r_c0mA : entT (GT L_c07) h0 e_c0mA = true := by decide +kernel
theorem k_c0mA : EntOK Tryz.prog h0 e_c0mA := entT_ok hpo (gtOK o_c07) r_c0mA
def L_c08 : List Ent := e_c0mA :: L_c07
theorem o_c08 : ∀ e ∈ L_c08, EntOK Tryz.prog h0 e := consOK k_c0mA o_c07
def e_c0nRs : Ent := .mk 16 (vl [.a 3 (vl [.i 3 29, .s 102 1, .k 3 2 (vl [.i 3 26, .s 0 0, .k 3 3 (vl [.i 3 1, .s 0 0, .z 1, .i 3 4, .s 120 1, .z 1, .i 3 4, .s 120 1, .z 1]), .i 3 26, .s 0 0, .k 3 3 (vl [.i 3 5, .s 49 1, .z 1, .i 3 4, .s 120 1, .z 1, .i 3 24, .s 44 1, .k 3 2 (vl [.i 3 13, .s 102 1, .z 1, .i 3 4, .s 120 1, .z 1])])])])]) (.t (vl [.k 6 3 (vl [.i 3 1, .i 3 2, .s 102 1, .i 3 0, .j 3 0, .k 1 1 (vl [.i 3 13]), .i 3 5, .i 3 1, .s 120 1, .i 3 0, .j 3 0, .k 1 1 (vl [.i 3 7]), .i 3 11, .i 3 1, .s 120 1, .i 3 0, .j 3 0, .k 1 1 (vl [.i 3 15])]), .z 1]))
theorem r_c0nRs : entT (GT L_c08) h0 e_c0nRs = true := by decide +kernel
theorem k_c0nRs : EntOK Tryz.prog h0 e_c0nRs := entT_ok hpo (gtOK o_c08) r_c0nRs
def L_c09 : List Ent := e_c0nRs :: L_c08
theorem o_c09 : ∀ e ∈ L_c09, EntOK Tryz.prog h0 e := consOK k_c0nRs o_c08
def e_c0I : Ent := .mk 6 (vl [.a 3 (vl [.i 3 29, .s 102 1, .k 3 2 (vl [.i 3 26, .s 0 0, .k 3 3 (vl [.i 3 1, .s 0 0, .z 1, .i 3 4, .s 120 1, .z 1, .i 3 4, .s 120 1, .z 1]), .i 3 26, .s 0 0, .k 3 3 (vl [.i 3 5, .s 49 1, .z 1, .i 3 4, .s 120 1, .z 1, .i 3 24, .s 44 1, .k 3 2 (vl [.i 3 13, .s 102 1, .z 1, .i 3 4, .s 120 1, .z 1])])])]), .i 3 1]) (.t (vl [.a 3 (vl [.i 3 26, .s 0 0, .k 3 3 (vl [.i 3 5, .s 49 1, .z 1, .i 3 4, .s 12898 2, .z 1, .i 3 24, .s 44 1, .k 3 2 (vl [.i 3 26, .s 0 0, .k 3 3 (vl [.i 3 1, .s 0 0, .z 1, .i 3 4, .s 12642 2, .z 1, .i 3 4, .s 12642 2, .z 1]), .i 3 4, .s 12898 2, .z 1])])]), .i 5 0]))
theorem r_c0I : entT (GT L_c09) h0 e_c0I = true := by decide +kernel
theorem k_c0I : EntOK Tryz.prog h0 e_c0I := entT_ok hpo (gtOK o_c09) r_c0I
def L_c010 : List Ent := e_c0I :: L_c09
theorem o_c010 : ∀ e ∈ L_c010, EntOK Tryz.prog h0 e := consOK k_c0I o_c09
def e_c0xW : Ent := .mk 49 (vl [.a 3 (vl [.i 3 26, .s 0 0, .k 3 3 (vl [.i 3 5, .s 49 1, .z 1, .i 3 4, .s 12898 2, .z 1, .i 3 24, .s 44 1, .k 3 2 (vl [.i 3 26, .s 0 0, .k 3 3 (vl [.i 3 1, .s 0 0, .z 1, .i 3 4, .s 12642 2, .z 1, .i 3 4, .s 12642 2, .z 1]), .i 3 4, .s 12898 2, .z 1])])])]) (.a 3 (vl [.i 3 26, .s 0 0, .k 3 3 (vl [.i 3 5, .s 49 1, .z 1, .i 3 4, .s 12898 2, .z 1, .i 3 24, .s 44 1, .k 3 2 (vl [.i 3 12, .s 0 0, .k 3 1 (vl [.i 3 26, .s 0 0, .k 3 3 (vl [.i 3 1, .s 0 0, .z 1, .i 3 4, .s 12642 2, .z 1, .i 3 4, .s 12642 2, .z 1])]), .i 3 4, .s 12898 2, .z 1])])]))
theorem r_c0xW : entT (GT L_c010) h0 e_c0xW = true := by decide +kernel
theorem k_c0xW : EntOK Tryz.prog h0 e_c0xW := entT_ok hpo (gtOK o_c010) r_c0xW
def L_c011 : List Ent := e_c0xW :: L_c010
theorem o_c011 : ∀ e ∈ L_c011, EntOK Tryz.prog h0 e := consOK k_c0xW o_c010
def e_c0xR : Ent := .mk 50 (vl [.a 3 (vl [.i 3 26, .s 0 0, .k 3 3 (vl [.i 3 5, .s 49 1, .z 1, .i 3 4, .s 12898 2, .z 1, .i 3 24, .s 44 1, .k 3 2 (vl [.i 3 12, .s 0 0, .k 3 1 (vl [.i 3 26, .s 0 0, .k 3 3 (vl [.i 3 1, .s 0 0, .z 1, .i 3 4, .s 12642 2, .z 1, .i 3 4, .s 12642 2, .z 1])]), .i 3 4, .s 12898 2, .z 1])])])]) (.b true)
theorem r_c0xR : entT (GT L_c011) h0 e_c0xR = true := by decide +kernel
theorem k_c0xR : EntOK Tryz.prog h0 e_c0xR := entT_ok hpo (gtOK o_c011) r_c0xR
def L_c012 : List Ent := e_c0xR :: L_c011
theorem o_c012 : ∀ e ∈ L_c012, EntOK Tryz.prog h0 e := consOK k_c0xR o_c011
def e_c0xA : Ent := .mk 18 (vl [.a 3 (vl [.i 3 26, .s 0 0, .k 3 3 (vl [.i 3 5, .s 49 1, .z 1, .i 3 4, .s 12898 2, .z 1, .i 3 24, .s 44 1, .k 3 2 (vl [.i 3 26, .s 0 0, .k 3 3 (vl [.i 3 1, .s 0 0, .z 1, .i 3 4, .s 12642 2, .z 1, .i 3 4, .s 12642 2, .z 1]), .i 3 4, .s 12898 2, .z 1])])])]) (.a 3 (vl [.i 3 26, .s 0 0, .k 3 3 (vl [.i 3 5, .s 49 1, .z 1, .i 3 4, .s 12386 2, .z 1, .i 3 24, .s 44 1, .k 3 2 (vl [.i 3 26, .s 0 0, .k 3 3 (vl [.i 3 1, .s 0 0, .z 1, .i 3 4, .s 12642 2, .z 1, .i 3 4, .s 12642 2, .z 1]), .i 3 4, .s 12386 2, .z 1])])]))
theorem r_c0xA : entT (GT L_c012) h0 e_c0xA = true := by decide +kernel
theorem k_c0xA : EntOK Tryz.prog h0 e_c0xA := entT_ok hpo (gtOK o_c012) r_c0xA
def L_c013 : List Ent := e_c0xA :: L_c012
theorem o_c013 : ∀ e ∈ L_c013, EntOK Tryz.prog h0 e := consOK k_c0xA o_c012
def e_c0L : Ent := .mk 8 (vl [.a 3 (vl [.i 3 26, .s 0 0, .k 3 3 (vl [.i 3 5, .s 49 1, .z 1, .i 3 4, .s 12898 2, .z 1, .i 3 24, .s 44 1, .k 3 2 (vl [.i 3 26, .s 0 0, .k 3 3 (vl [.i 3 1, .s 0 0, .z 1, .i 3 4, .s 12642 2, .z 1, .i 3 4, .s 12642 2, .z 1]), .i 3 4, .s 12898 2, .z 1])])]), .a 3 (vl [.i 3 26, .s 0 0, .k 3 3 (vl [.i 3 5, .s 49 1, .z 1, .i 3 4, .s 97 1, .z 1, .i 3 24, .s 44 1, .k 3 2 (vl [.i 3 12, .s 0 0, .k 3 1 (vl [.i 3 26, .s 0 0, .k 3 3 (vl [.i 3 1, .s 0 0, .z 1, .i 3 4, .s 98 1, .z 1, .i 3 4, .s 98 1, .z 1])]), .i 3 4, .s 97 1, .z 1])])])]) (.b true)
theorem r_c0L : entT (GT L_c013) h0 e_c0L = true := by decide +kernel
theorem k_c0L : EntOK Tryz.prog h0 e_c0L := entT_ok hpo (gtOK o_c013) r_c0L
def L_c014 : List Ent := e_c0L :: L_c013
theorem o_c014 : ∀ e ∈ L_c014, EntOK Tryz.prog h0 e := consOK k_c0L o_c013
end Go.Proofs.YteidbbogbhbckaaGreatDoor
end
