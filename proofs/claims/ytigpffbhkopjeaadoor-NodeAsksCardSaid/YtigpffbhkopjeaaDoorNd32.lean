/- A tree as a text: the document's answer. Its condition: how the tree and the tables of signs lie in memory; kinds that are ints; a weight of at most 10^9. -/
import Derived.Test.YtigpffbhkopjeaaDoorNd18
namespace Go.Proofs.YtigpffbhkopjeaaDoor
open Go.RowKit Go.Sub Go.Sort
attribute [local go_sem] Oper.semAt_some

theorem list_cat (a b : List UInt8) : (⟨a.toArray⟩ : ByteArray) ++ ⟨b.toArray⟩ = ⟨(a ++ b).toArray⟩ := by
  apply ByteArray.ext
  rw [ByteArray.data_append]
  simp
theorem list_size (a : List UInt8) : (⟨a.toArray⟩ : ByteArray).size = a.length := by
  show a.toArray.size = _; simp
set_option maxRecDepth 100000 in
set_option maxHeartbeats 4000000 in
theorem rshow_calls : ∀ (n : NodeT) (u : Value) (w : World) (S : Nat → Prop), KidsAt w S u n.kids → WideN n → weightN n ≤ 1000000000 → Tabs w →
    Calls Tryd.prog 42 #[nodeV n u] w fun e w' => e = .returned (.string ⟨(showN quoteL n).toArray⟩) ∧ Below w.heap.size w w' := by
  refine NodeT.ind fun n ih => ?_
  intro u w S hu hw hn hT
  obtain ⟨pu, cu, rfl, lu⟩ := hu.shape
  have IH := Lib.hid ih
  have hal1 := (Below.refl w.heap.size w).alloc (Nat.le_refl _) (.cells #[.int .i64 n.kind, .string n.text, .slice pu n.kids.length cu] 25)
  have hbn := nbox_new w 25 n.kind n.text (.slice pu n.kids.length cu)
  have HU0 := Lib.hid hu
  have HT0 := Lib.hid hT
  have HT := Lib.hid (hT.stays hal1)
  have HB := Lib.hid hal1
  have HBN := Lib.hid hbn
  have HW := Lib.hid hw
  obtain ⟨c0, c1, c2⟩ := hbn.cells
  unfold nodeV
  clear ih hu hw hT hal1 hbn
  go_enter Tryd.func42, Tryd.ntmps42
  go_wp2
  generalize w.alloc (.cells #[.int .i64 n.kind, .string n.text, .slice pu n.kids.length cu] 25) = W1 at *
  have hItoa := fun (w' : World) (h : Below W1.heap.size W1 w') => itoa_calls n.kind HW.out.top w' (HT.out.stays h)
  have hQuote := fun (w' : World) (h : Below W1.heap.size W1 w') => quote_calls n.text w' (HT.out.stays h) (by have := weightN_eq n; omega)
  have hcell := fun (w' : World) (h : Below W1.heap.size W1 w') => (HBN.out.stays h).cells
  have s1 := itoaB_le n.kind HW.out.top
  have s2 := quoteB_le n.text
  have s3 : n.text.size ≤ 1000000000 := by have := weightN_eq n; omega
  have hhead : (⟨#[40]⟩ : ByteArray) ++ itoaB n.kind ++ (⟨#[32]⟩ : ByteArray) ++ quoteB n.text = ⟨(headL n 0).toArray⟩ := by
    have e : (⟨#[40]⟩ : ByteArray) = ⟨[40].toArray⟩ := rfl
    have e2 : (⟨#[32]⟩ : ByteArray) = ⟨[32].toArray⟩ := rfl
    have e3 : quoteB n.text = ⟨(quoteL n.text).toArray⟩ := by unfold quoteL; simp
    have e4 : itoaB n.kind = ⟨(Lib.itoa n.kind).toArray⟩ := rfl
    rw [e, e2, e3, e4, list_cat, list_cat, list_cat]
    unfold headL; simp [showL]
  have HH := Lib.hid hhead
  generalize hib : itoaB n.kind = ib at *
  generalize hqb : quoteB n.text = qb at *
  have x1 : (9223372036854775807 < (⟨#[40]⟩ : ByteArray).size + ib.size) = False := by rw [eq_iff_iff, iff_false]; show ¬ (9223372036854775807 < 1 + ib.size); omega
  have x1' : (9223372036854775807 < 1 + ib.size) = False := by rw [eq_iff_iff, iff_false]; omega
  have x2 : (9223372036854775807 < ((⟨#[40]⟩ : ByteArray) ++ ib).size + (⟨#[32]⟩ : ByteArray).size) = False := by rw [eq_iff_iff, iff_false, cat_size]; show ¬ (9223372036854775807 < 1 + ib.size + 1); omega
  have x2' : (9223372036854775807 < ((⟨#[40]⟩ : ByteArray) ++ ib).size + 1) = False := by rw [eq_iff_iff, iff_false, cat_size]; show ¬ (9223372036854775807 < 1 + ib.size + 1); omega
  have x3 : (9223372036854775807 < ((⟨#[40]⟩ : ByteArray) ++ ib ++ (⟨#[32]⟩ : ByteArray)).size + qb.size) = False := by rw [eq_iff_iff, iff_false, cat_size, cat_size]; show ¬ (9223372036854775807 < 1 + ib.size + 1 + qb.size); omega
  have HI := Lib.hid hItoa
  have HQ := Lib.hid hQuote
  have HC := Lib.hid hcell
  clear hItoa hQuote hcell hhead hib hqb
  rename_i K hK
  have HK := Lib.hid hK
  clear hK
  obtain ⟨S0, hS0⟩ : ∃ S0, S0 = ((⟨#[40]⟩ : ByteArray) ++ ib ++ (⟨#[32]⟩ : ByteArray) ++ qb) := ⟨_, rfl⟩
  have HS0 := Lib.hid (hS0.trans HH.out)
  have hend : ∀ w4 : World, Below W1.heap.size W1 w4 → K ({ tmps := #[.agg #[.int .i64 n.kind, .string n.text, .slice pu n.kids.length cu], .pointer (some ⟨w.heap.size, 0, none⟩), .string ⟨#[]⟩, .string S0, undef, .pointer (some ⟨w.heap.size, 0, none⟩), .int .i64 n.kind, .string ib, .string (⟨#[40]⟩ ++ ib), .string (⟨#[40]⟩ ++ ib ++ ⟨#[32]⟩), .pointer (some ⟨w.heap.size, 1, none⟩), .string n.text, .string qb, .string S0, undef, undef, undef, undef, undef, undef, undef, undef, undef, undef, undef, undef, undef, undef, undef, undef, undef], defers := [] }) w4 := by
    intro w4 hb4
    refine HK.out _ _ ?_
    have Hb4 := Lib.hid hb4
    clear hb4 c0 c1 c2 HI HQ HC s1 s2 x1 x1' x2 x2' x3 HK HH hS0
    go_wp2
    go_loopw [3, 4] (fun s i wr => ∃ j : Nat, j ≤ n.kids.length ∧ i = .int .i64 j ∧ s = .string ⟨(headL n j).toArray⟩ ∧ Hid (Below W1.heap.size W1 wr)) (fun _ i _ => n.kids.length - (intOf i).toNat)
    case atStart => exact ⟨0, Nat.zero_le _, rfl, by rw [HS0.out], Hb4⟩
    case round =>
      obtain ⟨j, hj, rfl, rfl, HR⟩ := hrel
      have hle := headL_le n (j + 1) HW.out
      have hle0 := headL_le n j HW.out
      obtain ⟨d0, d1, d2⟩ := (HBN.out.stays HR.out).cells
      by_cases hlt : j < n.kids.length
      · have hx := List.getElem?_eq_getElem hlt
        have hwr := HB.out.trans (HR.out.mono HB.out.size)
        obtain ⟨b, o, ux, rfl, -, a1, ax⟩ := (HU0.out.stays hwr).kid hx
        obtain ⟨px, cx, rfl, lx⟩ := ax.shape
        obtain ⟨e0, e1, e2⟩ := a1
        have hmem := List.getElem_mem hlt
        have hwx := HW.out.kid hmem
        have hnx : weightN n.kids[j] ≤ 1000000000 := by
          have h1 := weightL_append (n.kids.take (j + 1)) (n.kids.drop (j + 1))
          rw [List.take_append_drop] at h1
          have h2 : weightL (n.kids.take (j + 1)) = weightL (n.kids.take j) + weightN n.kids[j] := by
            rw [List.take_add_one, hx]
            show weightL (n.kids.take j ++ [n.kids[j]]) = _
            rw [weightL_append]; simp [weightL]
          have := weightN_eq n; omega
        have hcall := IH.out (n.kids[j]) hmem _ wr S ax hwx hnx (HT0.out.stays hwr)
        have hsucc := headL_succ hx
        generalize n.kids[j] = x at *
        unfold nodeV at hcall
        have Hc := Lib.hid hcall
        have HSu := Lib.hid hsucc
        rw [hsucc, List.length_append] at hle
        clear hx hcall ax hsucc hmem hwx hnx hwr
        have z1 := list_size (headL n j)
        have z2 := list_size (showN quoteL x)
        have HLC := Lib.hid (list_cat (headL n j) (showN quoteL x))
        generalize hsx : (⟨(showN quoteL x).toArray⟩ : ByteArray) = sx at *
        generalize hhx : (⟨(headL n j).toArray⟩ : ByteArray) = hx at *
        have z3 : hx.size + sx.size ≤ 9223372036854775807 := by omega
        clear hsx hhx hle hle0
        go_wp2_with (go_at_call 42; (with_reducible refine (Hc.out).mono ?_); rintro e w2 ⟨rfl, hb2⟩; have Hb2 := Lib.hid (HR.out.trans (hb2.mono HR.out.size)); clear hb2)
        go_roundw
        case rel => exact ⟨j + 1, by omega, by go_num, by rw [HLC.out, HSu.out], Hb2⟩
        case measure => simp [intOf]; omega
      · obtain rfl : j = n.kids.length := by omega
        have z1 := list_size (headL n n.kids.length)
        have HLC := Lib.hid ((list_cat (headL n n.kids.length) [41]).trans (by rw [headL_end]))
        generalize hhx : (⟨(headL n n.kids.length).toArray⟩ : ByteArray) = hx at *
        have z4 : hx.size + 1 ≤ 9223372036854775807 := by omega
        clear hhx hle hle0
        go_wp2
        go_ret
        refine ⟨?_, HB.out.trans (HR.out.mono HB.out.size)⟩
        have := HLC.out
        show Ending.returned (.string (hx ++ ⟨#[41]⟩)) = _
        rw [← this]
  have hd := (Below.refl W1.heap.size W1).drew
  have Hd := Lib.hid hd
  clear hd
  have HE := Lib.hid hend
  clear hend
  go_region_with (first
    | (go_at_call 27; (with_reducible refine (HI.out _ Hd.out).mono ?_); rintro e w2 ⟨rfl, hb2⟩; have Hb2 := Lib.hid (Hd.out.trans hb2); clear hb2; obtain ⟨d0, d1, d2⟩ := HC.out w2 Hb2.out)
    | (go_at_call 28; (with_reducible refine (HQ.out w2 Hb2.out).mono ?_); rintro e w3 ⟨rfl, hb3⟩; have Hb3 := Lib.hid (Hb2.out.trans (hb3.mono Hb2.out.size)); clear hb3))
  all_goals
    have h := HE.out _ Hb3.out
    rw [hS0] at h
    exact h
end Go.Proofs.YtigpffbhkopjeaaDoor
