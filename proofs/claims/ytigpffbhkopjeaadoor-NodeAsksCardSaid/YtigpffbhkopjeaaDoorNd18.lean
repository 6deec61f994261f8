/- A tree as a text: the code. Its condition: how the tree lies in memory, and the tables that Go's library reads; at most 10^8 nodes and bytes. -/
import Derived.Test.YtigpffbhkopjeaaDoorNd17
import Derived.Lib.AppendIntMem
import Derived.Lib.ItoaLen
import Derived.Lib.QuoteLoop
import Derived.RegionTactic
import Derived.RegionCalls
namespace Go.Proofs.YtigpffbhkopjeaaDoor
open Go.RowKit Go.Sub Go.Sort

theorem tabSlice_stays {g : Nat} {k : IntKind} {t : List Nat} {w w' : World} (h : Lib.TabSlice g k t w) (hb : Below w.heap.size w w') : Lib.TabSlice g k t w' := by
  obtain ⟨R, o, c, h1, h2⟩ := h
  exact ⟨R, o, c, (hb.cell (p := ⟨g, 0, none⟩) (World.block_lt_of_cell? _ _ h1)).trans h1, fun j hj => (hb.cell (p := ⟨R, o + j, none⟩) (World.block_lt_of_cell? _ _ (h2 j hj))).trans (h2 j hj)⟩
theorem Tabs.stays {w w' : World} (h : Tabs w) (hb : Below w.heap.size w w') : Tabs w' := by
  obtain ⟨⟨h1, h2, h3, h4, h5⟩, ⟨h6, h7⟩, h8⟩ := h
  refine ⟨⟨tabSlice_stays h1 hb, tabSlice_stays h2 hb, tabSlice_stays h3 hb, tabSlice_stays h4 hb, h5⟩, ⟨fun c hc => ?_, fun i hi => ⟨?_, ?_⟩⟩, Lib.tabBelow_of_tabIs h8 w' hb⟩
  · exact (hb.cell (p := ⟨_, c, none⟩) (World.block_lt_of_cell? _ _ (h6 c hc))).trans (h6 c hc)
  · exact (hb.cell (p := ⟨_, 2 * i, none⟩) (World.block_lt_of_cell? _ _ (h7 i hi).1)).trans (h7 i hi).1
  · exact (hb.cell (p := ⟨_, 2 * i + 1, none⟩) (World.block_lt_of_cell? _ _ (h7 i hi).2)).trans (h7 i hi).2
theorem isBuilder_old {B b : Nat} {bs : List Value} {w w' : World} (h : Lib.IsBuilder 50 5 B b bs w) (hb : Below w.heap.size w w') : Lib.IsBuilder 50 5 B b bs w' := by
  rcases h with h | h
  · exact .inl (builder_old h hb)
  · exact .inr (builder_old h hb)
theorem cat_size (a b : ByteArray) : (a ++ b).size = a.size + b.size := ByteArray.size_append
theorem cat_list (a b : ByteArray) : (a ++ b).data.toList = a.data.toList ++ b.data.toList := by rw [ByteArray.data_append, Array.toList_append]
def quoteB (s : ByteArray) : ByteArray := strOfNums (Lib.quoteZ Lib.goPrintTabs s)
def quoteL (s : ByteArray) : List UInt8 := (quoteB s).data.toList
def itoaB (k : Int) : ByteArray := ⟨(Lib.itoa k).toArray⟩
def inI64 (k : Int) : Prop := -9223372036854775808 ≤ k ∧ k ≤ 9223372036854775807
theorem quoteB_le (s : ByteArray) : (quoteB s).size ≤ 10 * s.size + 2 := by
  unfold quoteB; rw [strOfNums_size]; exact Lib.quoteZ_length_le _ _
theorem itoaB_le (k : Int) (h : inI64 k) : (itoaB k).size ≤ 21 := Lib.itoa_length_le k h.1 h.2
theorem itoa_calls (k : Int) (hk : inI64 k) (w : World) (hT : Tabs w) :
    Calls Tryd.prog 27 #[.int .i64 k] w fun e w' => e = .returned (.string (itoaB k)) ∧ Below w.heap.size w w' := by
  refine (Tryd.strconv_Itoa k hk.1 hk.2 w hT.2.2).mono ?_
  rintro e w' ⟨rfl, n, os, rfl⟩
  exact ⟨rfl, Lib.below_grow _ w (Nat.le_refl _) n os⟩
theorem quote_calls (s : ByteArray) (w : World) (hT : Tabs w) (hs : s.size ≤ 1000000000) :
    Calls Tryd.prog 28 #[.string s] w fun e w' => e = .returned (.string (quoteB s)) ∧ Below w.heap.size w w' :=
  Tryd.strconv_Quote Lib.goPrintTabs s w (by omega) hT.1 hT.2.1
/-- all kinds are ints -/
def WideN (n : NodeT) : Prop := ∀ (p : List Int) m, atN n p = some m → inI64 m.kind
theorem WideN.top {n : NodeT} (h : WideN n) : inI64 n.kind := h [] n (atN_nil n)
theorem WideN.kid {n x : NodeT} (h : WideN n) (hx : x ∈ n.kids) : WideN x := by
  intro p m hm
  obtain ⟨i, hi, rfl⟩ := List.getElem_of_mem hx
  refine h ((i : Int) :: p) m ?_
  rw [atN_cons, if_pos (by omega), Int.toNat_natCast, List.getElem?_eq_getElem hi]
  exact hm
theorem show_len : ∀ n : NodeT, WideN n → (showN quoteL n).length ≤ 26 * weightN n := by
  refine NodeT.ind fun n ih hw => ?_
  rw [showN_eq, weightN_eq]
  have h1 := itoaB_le n.kind hw.top
  have h2 := quoteB_le n.text
  have hk : ∀ l : List NodeT, (∀ x ∈ l, (showN quoteL x).length ≤ 26 * weightN x) → (showL quoteL l).length ≤ 26 * weightL l := by
    intro l
    induction l with
    | nil => intro _; simp [showL]
    | cons x r ihr =>
      intro h
      have := h x (by simp)
      have := ihr fun y hy => h y (by simp [hy])
      simp only [showL, weightL, List.length_append]; omega
  have h3 := hk n.kids fun x hx => ih x hx (hw.kid hx)
  have e1 : (itoaB n.kind).size = (Lib.itoa n.kind).length := rfl
  have e2 : (quoteB n.text).size = (quoteL n.text).length := rfl
  simp only [List.length_cons, List.length_append, List.length_nil]
  omega
theorem take_snocN {l : List NodeT} {j : Nat} {x : NodeT} (hx : l[j]? = some x) : showL quoteL (l.take (j + 1)) = showL quoteL (l.take j) ++ showN quoteL x := by
  rw [List.take_add_one, hx]
  show showL quoteL (l.take j ++ [x]) = _
  rw [showL_append]; simp [showL]
theorem showL_take_le (l : List NodeT) (j : Nat) : (showL quoteL (l.take j)).length ≤ (showL quoteL l).length := by
  have := showL_append quoteL (l.take j) (l.drop j)
  rw [List.take_append_drop] at this
  rw [this, List.length_append]; omega
/-- the text so far -/
def headL (n : NodeT) (j : Nat) : List UInt8 := 40 :: (Lib.itoa n.kind ++ 32 :: (quoteL n.text ++ showL quoteL (n.kids.take j)))
theorem headL_le (n : NodeT) (j : Nat) (hw : WideN n) : (headL n j).length + 1 ≤ 26 * weightN n := by
  have h1 := show_len n hw
  have h2 := showL_take_le n.kids j
  rw [showN_eq] at h1
  unfold headL
  simp only [List.length_cons, List.length_append, List.length_nil] at h1 ⊢
  omega
theorem headL_succ {n : NodeT} {j : Nat} {x : NodeT} (hx : n.kids[j]? = some x) : headL n (j + 1) = headL n j ++ showN quoteL x := by
  unfold headL; rw [take_snocN hx]; simp
theorem headL_end (n : NodeT) : headL n n.kids.length ++ [41] = showN quoteL n := by
  unfold headL; rw [List.take_length, showN_eq]; simp
theorem byteCells_app (a b : List UInt8) : Lib.byteCells a ++ Lib.byteCells b = Lib.byteCells (a ++ b) := by unfold Lib.byteCells; rw [List.map_append]
theorem byteCells_len (a : List UInt8) : (Lib.byteCells a).length = a.length := by unfold Lib.byteCells; rw [List.length_map]
set_option maxRecDepth 100000 in
set_option maxHeartbeats 4000000 in
theorem nshow_calls : ∀ (n : NodeT) (u : Value) (w : World) (S : Nat → Prop), KidsAt w S u n.kids → WideN n → weightN n ≤ 1000000000 → Tabs w →
    Calls Tryd.prog 10 #[nodeV n u] w fun e w' => e = .returned (.string ⟨(showN quoteL n).toArray⟩) ∧ Below w.heap.size w w' := by
  refine NodeT.ind fun n ih => ?_
  intro u w S hu hw hn hT
  obtain ⟨pu, cu, rfl, lu⟩ := hu.shape
  have IH := Lib.hid ih
  have hal1 := (Below.refl w.heap.size w).alloc (Nat.le_refl _) (.cells #[.int .i64 n.kind, .string n.text, .slice pu n.kids.length cu] 25)
  have hal2 := hal1.alloc (by simp) (.cells #[.pointer none, .slice none 0 0] 50)
  have hbn := (nbox_new w 25 n.kind n.text (.slice pu n.kids.length cu)).stays ((Below.refl _ _).alloc (Nat.le_refl _) (.cells #[.pointer none, .slice none 0 0] 50))
  have hbb := Lib.fresh_isBuilder 50 5 (w.alloc (.cells #[.int .i64 n.kind, .string n.text, .slice pu n.kids.length cu] 25))
  have hz : ((w.alloc (.cells #[.int .i64 n.kind, .string n.text, .slice pu n.kids.length cu] 25)).alloc (.cells #[.pointer none, .slice none 0 0] 50)).heap.size = w.heap.size + 2 := by simp
  rw [World.size_alloc] at hbb
  have HU0 := Lib.hid hu
  have HT0 := Lib.hid hT
  have HT := Lib.hid (hT.stays hal2)
  have HB := Lib.hid hal2
  have HBN := Lib.hid hbn
  have HBB := Lib.hid hbb
  have HW := Lib.hid hw
  have HZ := Lib.hid hz
  obtain ⟨c0, c1, c2⟩ := hbn.cells
  unfold nodeV
  clear ih hu hw hT hal1 hal2 hbn hbb hz
  go_enter Tryd.func10, Tryd.ntmps10
  go_wp2
  generalize (w.alloc (.cells #[.int .i64 n.kind, .string n.text, .slice pu n.kids.length cu] 25)).alloc (.cells #[.pointer none, .slice none 0 0] 50) = W1 at *
  have hItoa := fun (w' : World) (h : Below W1.heap.size W1 w') => itoa_calls n.kind HW.out.top w' (HT.out.stays h)
  have hQuote := fun (w' : World) (h : Below W1.heap.size W1 w') => quote_calls n.text w' (HT.out.stays h) (by have := weightN_eq n; omega)
  have hcell := fun (w' : World) (h : Below W1.heap.size W1 w') => (HBN.out.stays h).cells
  have s1 := itoaB_le n.kind HW.out.top
  have s2 := quoteB_le n.text
  have s3 : n.text.size ≤ 1000000000 := by have := weightN_eq n; omega
  generalize hib : itoaB n.kind = ib at *
  generalize hqb : quoteB n.text = qb at *
  have hws := fun (w' : World) (h : Below W1.heap.size W1 w') => writeString_calls (w.heap.size + 1) (w.heap.size + 1) [] ((⟨#[40]⟩ : ByteArray) ++ ib ++ (⟨#[32]⟩ : ByteArray) ++ qb) w' (isBuilder_old HBB.out h) (by simp only [cat_size, List.length_nil]; show 0 + (1 + ib.size + 1 + qb.size) ≤ _; omega) (by have := h.size; have := HZ.out; omega)
  have HI := Lib.hid hItoa
  have HQ := Lib.hid hQuote
  have HC := Lib.hid hcell
  have HWS := Lib.hid hws
  have HIB := Lib.hid hib
  have HQB := Lib.hid hqb
  clear hItoa hQuote hcell hws hib hqb
  rename_i K hK
  have HK := Lib.hid hK
  clear hK
  have hend : ∀ (z6 z7 z8 z9 z10 z11 z12 z13 z14 z15 : Value) (w4 : World), Lib.BuilderAt 50 5 (w.heap.size + 1) (w.heap.size + 1) (.pointer (some ⟨w.heap.size + 1, 0, none⟩)) (Lib.byteCells (headL n 0)) w4 → Below (w.heap.size + 1) W1 w4 →
      K { tmps := #[.agg #[.int .i64 n.kind, .string n.text, .slice pu n.kids.length cu], .pointer (some ⟨w.heap.size, 0, none⟩), .string ⟨#[]⟩, .pointer (some ⟨w.heap.size + 1, 0, none⟩), undef, undef, z6, z7, z8, z9, z10, z11, z12, z13, z14, z15, undef, undef, undef, undef, undef, undef, undef, undef, undef, undef, undef, undef, undef], defers := [] } w4 := by
    intro z6 z7 z8 z9 z10 z11 z12 z13 z14 z15 w4 hb hb4
    refine HK.out _ _ ?_
    have HBW := Lib.hid (fun (wr : World) (h : Below (w.heap.size + 1) W1 wr) => HB.out.trans (h.mono (Nat.le_succ _)))
    have hk0 : w4.cell? ⟨w.heap.size, 2, none⟩ = some (.slice pu n.kids.length cu) := (hb4.cell (p := ⟨w.heap.size, 2, none⟩) (Nat.lt_succ_self _)).trans c2
    have Hb := Lib.hid hb
    have Hb4 := Lib.hid hb4
    clear hb hb4 c0 c1 c2 HI HQ HC HWS s1 s2 s3
    go_wp2
    go_loopw [19] (fun i wr => ∃ j : Nat, j ≤ n.kids.length ∧ i = .int .i64 j ∧ Hid (Lib.BuilderAt 50 5 (w.heap.size + 1) (w.heap.size + 1) (.pointer (some ⟨w.heap.size + 1, 0, none⟩)) (Lib.byteCells (headL n j)) wr) ∧ Hid (Below (w.heap.size + 1) W1 wr)) (fun i _ => n.kids.length - (intOf i).toNat)
    case atStart => exact ⟨0, Nat.zero_le _, rfl, Hb, Hb4⟩
    case round =>
      obtain ⟨j, hj, rfl, HBU, HR⟩ := hrel
      have hle := headL_le n (j + 1) HW.out
      have hle0 := headL_le n j HW.out
      have hsz := HR.out.size
      have hzz := HZ.out
      by_cases hlt : j < n.kids.length
      · have hx := List.getElem?_eq_getElem hlt
        have hwr := HBW.out _ HR.out
        obtain ⟨b, o, ux, rfl, -, a1, ax⟩ := (HU0.out.stays hwr).kid hx
        obtain ⟨px, cx, rfl, lx⟩ := ax.shape
        obtain ⟨d0, d1, d2⟩ := a1
        have hmem := List.getElem_mem hlt
        have hwx := HW.out.kid hmem
        have hnx : weightN n.kids[j] ≤ 1000000000 := by
          have h1 := weightL_append (n.kids.take (j + 1)) (n.kids.drop (j + 1))
          rw [List.take_append_drop] at h1
          have h2 : weightL (n.kids.take (j + 1)) = weightL (n.kids.take j) + weightN n.kids[j] := by
            rw [List.take_add_one, hx]
            show weightL (n.kids.take j ++ [n.kids[j]]) = _
            rw [weightL_append]; simp [weightL]
          have := weightN_eq n; omega
        have hcall := fun w2 (hb : Below wr.heap.size wr w2) => IH.out (n.kids[j]) hmem _ w2 S (ax.stays hb) hwx hnx ((HT0.out.stays hwr).stays hb)
        have hsucc := headL_succ hx
        generalize n.kids[j] = x at *
        have hal := (Below.refl wr.heap.size wr).alloc (Nat.le_refl _) (.cells #[.int .i64 x.kind, .string x.text, .slice px x.kids.length cx] 25)
        have hc2 := hcall _ hal
        unfold nodeV at hc2
        have Hc := Lib.hid hc2
        have Hal := Lib.hid hal
        have HSu := Lib.hid hsucc
        rw [hsucc, List.length_append] at hle
        have hws := fun w2 (h2 : Below wr.heap.size wr w2) => writeString_calls (w.heap.size + 1) (w.heap.size + 1) (Lib.byteCells (headL n j)) ⟨(showN quoteL x).toArray⟩ w2 (.inr (builder_old HBU.out h2)) (by rw [byteCells_len]; show _ + (showN quoteL x).toArray.size ≤ _; simp only [List.size_toArray]; omega) (by have := h2.size; omega)
        have Hws := Lib.hid hws
        clear hx hcall hc2 hal hws ax hsucc hmem hwx hnx hwr
        generalize hsx : (⟨(showN quoteL x).toArray⟩ : ByteArray) = sx at *
        have HSX := Lib.hid hsx
        clear hsx hle hle0
        go_wp2_with (first
          | (go_at_call 10; (with_reducible refine (Hc.out).mono ?_); rintro e w2 ⟨rfl, hb2⟩; have Hb2 := Lib.hid (Hal.out.trans (hb2.mono (by simp))); clear hb2)
          | (go_at_call 26; (with_reducible refine (Hws.out w2 Hb2.out).mono ?_); rintro e w3 ⟨rfl, hb3, hB3⟩; have Hb3 := Lib.hid hb3; have HB3 := Lib.hid hB3; clear hb3 hB3))
        go_roundw
        case rel =>
          refine ⟨j + 1, by omega, by go_num, ?_, Lib.hid ?_⟩
          · have h := Hb3.out
            rw [← HSX.out, Lib.strCells_toArray, byteCells_app, ← HSu.out] at h
            exact Lib.hid h
          · exact (HR.out.trans (Hb2.out.mono (by omega))).trans HB3.out
        case measure => simp [intOf]; omega
      · obtain rfl : j = n.kids.length := by omega
        have hwb := writeByte_calls (w.heap.size + 1) (w.heap.size + 1) (Lib.byteCells (headL n n.kids.length)) 41 wr (.inr HBU.out) (by rw [byteCells_len]; omega) (by omega)
        rw [show ((41 : Nat) : Int) = 41 from rfl] at hwb
        have Hwb := Lib.hid hwb
        clear hle hle0 hwb
        have hstr := fun (w2 : World) (h : Lib.BuilderAt 50 5 (w.heap.size + 1) (w.heap.size + 1) (.pointer (some ⟨w.heap.size + 1, 0, none⟩)) (Lib.byteCells (showN quoteL n)) w2) (hb : w.heap.size + 1 ≤ w2.heap.size) => Tryd.Builder_String_any (w.heap.size + 1) (w.heap.size + 1) (showN quoteL n) w2 (.inr h) hb
        have Hstr := Lib.hid hstr
        have Hend := Lib.hid (headL_end n)
        clear hstr
        go_wp2_with (first
          | (go_at_call 29; (with_reducible refine (Hwb.out).mono ?_); rintro e w2 ⟨rfl, hb2, hB2⟩; replace hb2 : Lib.BuilderAt 50 5 (w.heap.size + 1) (w.heap.size + 1) (.pointer (some ⟨w.heap.size + 1, 0, none⟩)) (Lib.byteCells (showN quoteL n)) w2 := (by rw [← Hend.out, ← byteCells_app]; exact hb2); have Hb2 := Lib.hid hb2; have HB2 := Lib.hid hB2; clear hb2 hB2)
          | (go_at_call 30; (with_reducible refine (Hstr.out _ Hb2.out (by have := HB2.out.size; omega)).mono ?_); rintro e w3 ⟨rfl, hB3⟩))
        go_ret
        exact ⟨rfl, HBW.out _ ((HR.out.trans HB2.out).trans hB3)⟩
  have hd := (Below.refl W1.heap.size W1).drew
  have Hd := Lib.hid hd
  clear hd
  go_region_with (first
    | (go_at_call 27; (with_reducible refine (HI.out _ Hd.out).mono ?_); rintro e w2 ⟨rfl, hb2⟩; have Hb2 := Lib.hid (Hd.out.trans hb2); clear hb2; obtain ⟨d0, d1, d2⟩ := HC.out w2 Hb2.out)
    | (go_at_call 28; (with_reducible refine (HQ.out w2 Hb2.out).mono ?_); rintro e w3 ⟨rfl, hb3⟩; have Hb3 := Lib.hid (Hb2.out.trans (hb3.mono Hb2.out.size)); clear hb3)
    | (go_at_call 26; (with_reducible refine (HWS.out w3 Hb3.out).mono ?_); rintro e w4 ⟨rfl, hb, hb4⟩))
  all_goals
    refine hend _ _ _ _ _ _ _ _ _ _ w4 ?_ ((Hb3.out.mono (by have := HZ.out; omega)).trans hb4)
    have e : [] ++ Lib.strCells ((⟨#[40]⟩ : ByteArray) ++ ib ++ (⟨#[32]⟩ : ByteArray) ++ qb) = Lib.byteCells (headL n 0) := by
      rw [List.nil_append]
      unfold Lib.strCells Lib.byteCells headL
      rw [cat_list, cat_list, cat_list, ← HIB.out, ← HQB.out]
      simp [showL, itoaB, quoteL]
    rw [e] at hb
    exact hb
end Go.Proofs.YtigpffbhkopjeaaDoor
