/- Calls that the law makes, and what they give (kn), each by the kernel. -/
import Derived.Test.YteidbbogbhbckaaGreatDoorEM
set_option linter.unusedVariables false
noncomputable section
namespace Go.Proofs.YteidbbogbhbckaaGreatDoor
open Go.RowKit Go.Ev
def L_kn0 : List Ent := []
theorem o_kn0 : ∀ e ∈ L_kn0, EntOK Tryz.prog h0 e := fun _ h => nomatch h
def e_knn : Ent := .mk 5 (vl [.s 60202208604566489706178519190807967523627793278308 21]) (.t (vl [.a 3 (vl [.i 3 29, .s 102 1, .k 3 3 (vl [.i 3 30, .s 103 1, .z 1, .i 3 24, .s 124 1, .k 3 2 (vl [.i 3 13, .s 103 1, .z 1, .i 3 13, .s 103 1, .z 1]), .i 3 13, .s 102 1, .k 3 1 (vl [.i 3 5, .s 49 1, .z 1])])]), .i 3 0, .i 3 0]))
theorem r_knn : entT (GT L_kn0) h0 e_knn = true := by decide +kernel
theorem k_knn : EntOK Tryz.prog h0 e_knn := entT_ok hpo (gtOK o_kn0) r_knn
def L_kn1 : List Ent := e_knn :: L_kn0
theorem o_kn1 : ∀ e ∈ L_kn1, EntOK Tryz.prog h0 e := consOK k_knn o_kn0
def e_knm : Ent := .mk 5 (vl [.s 210998403121 5]) (.t (vl [.a 3 (vl [.i 3 24, .s 124 1, .k 3 2 (vl [.i 3 5, .s 49 1, .z 1, .i 3 5, .s 49 1, .z 1])]), .i 3 0, .i 3 0]))
theorem r_knm : entT (GT L_kn1) h0 e_knm = true := by decide +kernel
theorem k_knm : EntOK Tryz.prog h0 e_knm := entT_ok hpo (gtOK o_kn1) r_knm
def L_kn2 : List Ent := e_knm :: L_kn1
theorem o_kn2 : ∀ e ∈ L_kn2, EntOK Tryz.prog h0 e := consOK k_knm o_kn1
def e_knnW : Ent := .mk 49 (vl [.a 3 (vl [.i 3 29, .s 102 1, .k 3 3 (vl [.i 3 30, .s 103 1, .z 1, .i 3 24, .s 124 1, .k 3 2 (vl [.i 3 13, .s 103 1, .z 1, .i 3 13, .s 103 1, .z 1]), .i 3 13, .s 102 1, .k 3 1 (vl [.i 3 5, .s 49 1, .z 1])])])]) (.a 3 (vl [.i 3 29, .s 102 1, .k 3 3 (vl [.i 3 30, .s 103 1, .z 1, .i 3 24, .s 124 1, .k 3 2 (vl [.i 3 13, .s 103 1, .z 1, .i 3 13, .s 103 1, .z 1]), .i 3 13, .s 102 1, .k 3 1 (vl [.i 3 5, .s 49 1, .z 1])])]))
theorem r_knnW : entT (GT L_kn2) h0 e_knnW = true := by decide +kernel
theorem k_knnW : EntOK Tryz.prog h0 e_knnW := entT_ok hpo (gtOK o_kn2) r_knnW
def L_kn3 : List Ent := e_knnW :: L_kn2
theorem o_kn3 : ∀ e ∈ L_kn3, EntOK Tryz.prog h0 e := consOK k_knnW o_kn2
def e_knnR : Ent := .mk 50 (vl [.a 3 (vl [.i 3 29, .s 102 1, .k 3 3 (vl [.i 3 30, .s 103 1, .z 1, .i 3 24, .s 124 1, .k 3 2 (vl [.i 3 13, .s 103 1, .z 1, .i 3 13, .s 103 1, .z 1]), .i 3 13, .s 102 1, .k 3 1 (vl [.i 3 5, .s 49 1, .z 1])])])]) (.b true)
theorem r_knnR : entT (GT L_kn3) h0 e_knnR = true := by decide +kernel
theorem k_knnR : EntOK Tryz.prog h0 e_knnR := entT_ok hpo (gtOK o_kn3) r_knnR
def L_kn4 : List Ent := e_knnR :: L_kn3
theorem o_kn4 : ∀ e ∈ L_kn4, EntOK Tryz.prog h0 e := consOK k_knnR o_kn3
def e_knnA : Ent := .mk 18 (vl [.a 3 (vl [.i 3 29, .s 102 1, .k 3 3 (vl [.i 3 30, .s 103 1, .z 1, .i 3 24, .s 124 1, .k 3 2 (vl [.i 3 13, .s 103 1, .z 1, .i 3 13, .s 103 1, .z 1]), .i 3 13, .s 102 1, .k 3 1 (vl [.i 3 5, .s 49 1, .z 1])])])]) (.a 3 (vl [.i 3 29, .s 12386 2, .k 3 3 (vl [.i 3 30, .s 12642 2, .z 1, .i 3 24, .s 124 1, .k 3 2 (vl [.i 3 13, .s 12642 2, .z 1, .i 3 13, .s 12642 2, .z 1]), .i 3 13, .s 12386 2, .k 3 1 (vl [.i 3 5, .s 49 1, .z 1])])]))
theorem r_knnA : entT (GT L_kn4) h0 e_knnA = true := by decide +kernel
theorem k_knnA : EntOK Tryz.prog h0 e_knnA := entT_ok hpo (gtOK o_kn4) r_knnA
def L_kn5 : List Ent := e_knnA :: L_kn4
theorem o_kn5 : ∀ e ∈ L_kn5, EntOK Tryz.prog h0 e := consOK k_knnA o_kn4
def e_knmW : Ent := .mk 49 (vl [.a 3 (vl [.i 3 24, .s 124 1, .k 3 2 (vl [.i 3 5, .s 49 1, .z 1, .i 3 5, .s 49 1, .z 1])])]) (.a 3 (vl [.i 3 24, .s 124 1, .k 3 2 (vl [.i 3 5, .s 49 1, .z 1, .i 3 5, .s 49 1, .z 1])]))
theorem r_knmW : entT (GT L_kn5) h0 e_knmW = true := by decide +kernel
theorem k_knmW : EntOK Tryz.prog h0 e_knmW := entT_ok hpo (gtOK o_kn5) r_knmW
def L_kn6 : List Ent := e_knmW :: L_kn5
theorem o_kn6 : ∀ e ∈ L_kn6, EntOK Tryz.prog h0 e := consOK k_knmW o_kn5
def e_knmR : Ent := .mk 50 (vl [.a 3 (vl [.i 3 24, .s 124 1, .k 3 2 (vl [.i 3 5, .s 49 1, .z 1, .i 3 5, .s 49 1, .z 1])])]) (.b true)
theorem r_knmR : entT (GT L_kn6) h0 e_knmR = true := by decide +kernel
theorem k_knmR : EntOK Tryz.prog h0 e_knmR := entT_ok hpo (gtOK o_kn6) r_knmR
def L_kn7 : List Ent := e_knmR :: L_kn6
theorem o_kn7 : ∀ e ∈ L_kn7, EntOK Tryz.prog h0 e := consOK k_knmR o_kn6
def e_knmA : Ent := .mk 18 (vl [.a 3 (vl [.i 3 24, .s 124 1, .k 3 2 (vl [.i 3 5, .s 49 1, .z 1, .i 3 5, .s 49 1, .z 1])])]) (.a 3 (vl [.i 3 24, .s 124 1, .k 3 2 (vl [.i 3 5, .s 49 1, .z 1, .i 3 5, .s 49 1, .z 1])]))
theorem r_knmA : entT (GT L_kn7) h0 e_knmA = true := by decide +kernel
theorem k_knmA : EntOK Tryz.prog h0 e_knmA := entT_ok hpo (gtOK o_kn7) r_knmA
def L_kn8 : List Ent := e_knmA :: L_kn7
theorem o_kn8 : ∀ e ∈ L_kn8, EntOK Tryz.prog h0 e := consOK k_knmA o_kn7
def e_knnRs : Ent := .mk 16 (vl [.a 3 (vl [.i 3 29, .s 102 1, .k 3 3 (vl [.i 3 30, .s 103 1, .z 1, .i 3 24, .s 124 1, .k 3 2 (vl [.i 3 13, .s 103 1, .z 1, .i 3 13, .s 103 1, .z 1]), .i 3 13, .s 102 1, .k 3 1 (vl [.i 3 5, .s 49 1, .z 1])])])]) (.t (vl [.k 6 2 (vl [.i 3 1, .i 3 2, .s 102 1, .i 3 1, .j 3 0, .k 1 1 (vl [.i 3 10]), .i 3 3, .i 3 3, .s 103 1, .i 3 0, .j 3 0, .k 1 2 (vl [.i 3 6, .i 3 8])]), .z 1]))
theorem r_knnRs : entT (GT L_kn8) h0 e_knnRs = true := by decide +kernel
theorem k_knnRs : EntOK Tryz.prog h0 e_knnRs := entT_ok hpo (gtOK o_kn8) r_knnRs
def L_kn9 : List Ent := e_knnRs :: L_kn8
theorem o_kn9 : ∀ e ∈ L_kn9, EntOK Tryz.prog h0 e := consOK k_knnRs o_kn8
def e_knI : Ent := .mk 6 (vl [.a 3 (vl [.i 3 29, .s 102 1, .k 3 3 (vl [.i 3 30, .s 103 1, .z 1, .i 3 24, .s 124 1, .k 3 2 (vl [.i 3 13, .s 103 1, .z 1, .i 3 13, .s 103 1, .z 1]), .i 3 13, .s 102 1, .k 3 1 (vl [.i 3 5, .s 49 1, .z 1])])]), .i 3 1]) (.t (vl [.a 3 (vl [.i 3 24, .s 124 1, .k 3 2 (vl [.i 3 5, .s 49 1, .z 1, .i 3 5, .s 49 1, .z 1])]), .i 5 0]))
theorem r_knI : entT (GT L_kn9) h0 e_knI = true := by decide +kernel
theorem k_knI : EntOK Tryz.prog h0 e_knI := entT_ok hpo (gtOK o_kn9) r_knI
def L_kn10 : List Ent := e_knI :: L_kn9
theorem o_kn10 : ∀ e ∈ L_kn10, EntOK Tryz.prog h0 e := consOK k_knI o_kn9
def e_knI0 : Ent := .mk 6 (vl [.a 3 (vl [.i 3 29, .s 102 1, .k 3 3 (vl [.i 3 30, .s 103 1, .z 1, .i 3 24, .s 124 1, .k 3 2 (vl [.i 3 13, .s 103 1, .z 1, .i 3 13, .s 103 1, .z 1]), .i 3 13, .s 102 1, .k 3 1 (vl [.i 3 5, .s 49 1, .z 1])])]), .i 3 0]) (.t (vl [.a 3 (vl [.i 3 0, .s 0 0, .z 1]), .i 5 30]))
theorem r_knI0 : entT (GT L_kn10) h0 e_knI0 = true := by decide +kernel
theorem k_knI0 : EntOK Tryz.prog h0 e_knI0 := entT_ok hpo (gtOK o_kn10) r_knI0
def L_kn11 : List Ent := e_knI0 :: L_kn10
theorem o_kn11 : ∀ e ∈ L_kn11, EntOK Tryz.prog h0 e := consOK k_knI0 o_kn10
def e_knL1 : Ent := .mk 8 (vl [.a 3 (vl [.i 3 29, .s 102 1, .k 3 3 (vl [.i 3 30, .s 103 1, .z 1, .i 3 24, .s 124 1, .k 3 2 (vl [.i 3 13, .s 103 1, .z 1, .i 3 13, .s 103 1, .z 1]), .i 3 13, .s 102 1, .k 3 1 (vl [.i 3 5, .s 49 1, .z 1])])]), .a 3 (vl [.i 3 29, .s 102 1, .k 3 3 (vl [.i 3 30, .s 103 1, .z 1, .i 3 24, .s 124 1, .k 3 2 (vl [.i 3 13, .s 103 1, .z 1, .i 3 13, .s 103 1, .z 1]), .i 3 13, .s 102 1, .k 3 1 (vl [.i 3 5, .s 49 1, .z 1])])])]) (.b true)
theorem r_knL1 : entT (GT L_kn11) h0 e_knL1 = true := by decide +kernel
theorem k_knL1 : EntOK Tryz.prog h0 e_knL1 := entT_ok hpo (gtOK o_kn11) r_knL1
def L_kn12 : List Ent := e_knL1 :: L_kn11
theorem o_kn12 : ∀ e ∈ L_kn12, EntOK Tryz.prog h0 e := consOK k_knL1 o_kn11
def e_knL2 : Ent := .mk 8 (vl [.a 3 (vl [.i 3 29, .s 102 1, .k 3 3 (vl [.i 3 30, .s 103 1, .z 1, .i 3 24, .s 124 1, .k 3 2 (vl [.i 3 13, .s 103 1, .z 1, .i 3 13, .s 103 1, .z 1]), .i 3 13, .s 102 1, .k 3 1 (vl [.i 3 5, .s 49 1, .z 1])])]), .a 3 (vl [.i 3 24, .s 124 1, .k 3 2 (vl [.i 3 5, .s 49 1, .z 1, .i 3 5, .s 49 1, .z 1])])]) (.b false)
theorem r_knL2 : entT (GT L_kn12) h0 e_knL2 = true := by decide +kernel
theorem k_knL2 : EntOK Tryz.prog h0 e_knL2 := entT_ok hpo (gtOK o_kn12) r_knL2
def L_kn13 : List Ent := e_knL2 :: L_kn12
theorem o_kn13 : ∀ e ∈ L_kn13, EntOK Tryz.prog h0 e := consOK k_knL2 o_kn12
def e_knK : Ent := .mk 7 .nil (.b true)
theorem r_knK : entT (GT L_kn13) h0 e_knK = true := by decide +kernel
theorem k_knK : EntOK Tryz.prog h0 e_knK := entT_ok hpo (gtOK o_kn13) r_knK
def L_kn14 : List Ent := e_knK :: L_kn13
theorem o_kn14 : ∀ e ∈ L_kn14, EntOK Tryz.prog h0 e := consOK k_knK o_kn13
end Go.Proofs.YteidbbogbhbckaaGreatDoor
end
