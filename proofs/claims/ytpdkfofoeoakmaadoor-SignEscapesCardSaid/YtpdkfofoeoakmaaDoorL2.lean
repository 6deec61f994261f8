/- The law SignEscapes, walked. The table of blanks being laid. -/
import Derived.Test.YtpdkfofoeoakmaaDoorL2a
import Derived.Handy
import Derived.Test.YtpdkfofoeoakmaaDoorL7
import Derived.Outline
import Derived.Deep.DeepCutAuto
import Derived.Deep.QuietTactic
import Derived.BigQuiet
import Derived.Lib.VarintBits
import Derived.Lib.EndianBits
import Derived.WalkSmall
namespace Go.Proofs.YtpdkfofoeoakmaaDoor
open Go.RowKit Go.Sub

theorem esc_one {S : ByteArray} (h : EscText S) (w : World) : Calls Tryd.prog 20 #[.string S] w fun e w' => e = .returned (.int .i64 6) ∧ w' = w :=
  (escape_calls S w (by rw [h.size]; decide)).mono fun e w' k => ⟨k.1.trans (by rw [h.one]; rfl), k.2⟩
theorem esc_two {S : ByteArray} (h : EscText S) (w : World) : Calls Tryd.prog 20 #[.string (S ++ ⟨#[48]⟩)] w fun e w' => e = .returned (.int .i64 6) ∧ w' = w :=
  (escape_calls _ w (by rw [ByteArray.size_append, h.size]; decide)).mono fun e w' k => ⟨k.1.trans (by rw [h.two]; rfl), k.2⟩
theorem esc_part {S : ByteArray} (h : EscText S) (w : World) : Calls Tryd.prog 20 #[.string (S.extract 0 5)] w fun e w' => e = .returned (.int .i64 0) ∧ w' = w :=
  (escape_calls _ w (ext_lt _ _ _ (by rw [h.size]; decide))).mono fun e w' k => ⟨k.1.trans (by rw [h.three]; rfl), k.2⟩
theorem esc_four' {S : ByteArray} {B : UInt8} {i : Nat} {x : Bool} (h : EscText S) (h2 : 2 ≤ i) (h5 : i ≤ 5) (hx : isHex B = x) (w : World) : Calls Tryd.prog 20 #[.string (S.extract 0 i ++ ⟨#[B]⟩ ++ S.extract (i + 1) 6)] w fun e w' => e = .returned (.int .i64 (if x then 6 else 0)) ∧ w' = w :=
  (escape_calls _ w (by
    have h1 := ext_lt S 0 i (n := 7) (by rw [h.size]; decide)
    have h3 := ext_lt S (i + 1) 6 (n := 7) (by rw [h.size]; decide)
    rw [ByteArray.size_append, ByteArray.size_append]
    have h4 : (⟨#[B]⟩ : ByteArray).size = 1 := rfl
    omega)).mono fun e w' k => ⟨k.1.trans (by rw [h.four i B h2 h5, hx]; cases x <;> rfl), k.2⟩

set_option maxRecDepth 100000 in
set_option maxHeartbeats 4000000 in
theorem escapes_core (n at' b : Int) (g : Bool) (hn : 0 ≤ n ∧ n ≤ 65535) (hat : 0 ≤ at' ∧ at' ≤ 255) (hb : 0 ≤ b ∧ b ≤ 255) (w : World) (hT : TabX w) :
    Calls Tryd.prog 5 #[.int .u16 n, .int .u8 at', .int .u8 b, .bool g] w fun e w' => e = .returned (.bool true) ∧ Below w.heap.size w w' := by
  obtain ⟨n0, n1⟩ := hn
  obtain ⟨a0, a1⟩ := hat
  obtain ⟨b0, b1⟩ := hb
  obtain ⟨B, rfl⟩ : ∃ B : UInt8, b = (B.toNat : Int) := ⟨UInt8.ofNat b.toNat, by rw [UInt8.toNat_ofNat_of_lt' (by show b.toNat < 256; omega)]; omega⟩
  obtain ⟨i, hi⟩ : ∃ i : Nat, 2 + at' % 4 = (i : Int) := ⟨(2 + at' % 4).toNat, by omega⟩
  have i2 : 2 ≤ i := by omega
  have i5 : i ≤ 5 := by omega
  have m2 := and15 (n / 256) (by omega) (by omega)
  have m1 := and15 (n / 16) (by omega) (by omega)
  have m0 := and15 n (by omega) (by omega)
  obtain ⟨q3, h3⟩ : ∃ q : Nat, n / 4096 = (q : Int) := ⟨(n / 4096).toNat, by omega⟩
  obtain ⟨q2, h2⟩ : ∃ q : Nat, n / 256 % 16 = (q : Int) := ⟨(n / 256 % 16).toNat, by omega⟩
  obtain ⟨q1, h1⟩ : ∃ q : Nat, n / 16 % 16 = (q : Int) := ⟨(n / 16 % 16).toNat, by omega⟩
  obtain ⟨q0, h0⟩ : ∃ q : Nat, n % 16 = (q : Int) := ⟨(n % 16).toNat, by omega⟩
  have p3 : q3 ≤ 15 := by omega
  have p2 : q2 ≤ 15 := by omega
  have p1 : q1 ≤ 15 := by omega
  have p0 : q0 ≤ 15 := by omega
  rw [h2] at m2
  rw [h1] at m1
  rw [h0] at m0
  have w3 : IntKind.u16.wrap ((q3 : Int) + 1) = (q3 : Int) + 1 := by exact wraps_u16 _ (by omega) (by omega)
  have w2 : IntKind.u16.wrap ((q2 : Int) + 1) = (q2 : Int) + 1 := by exact wraps_u16 _ (by omega) (by omega)
  have w1 : IntKind.u16.wrap ((q1 : Int) + 1) = (q1 : Int) + 1 := by exact wraps_u16 _ (by omega) (by omega)
  have w0 : IntKind.u16.wrap ((q0 : Int) + 1) = (q0 : Int) + 1 := by exact wraps_u16 _ (by omega) (by omega)
  have hxB := hex_nat B
  clear h0 h1 h2
  cases g
  · go_enter Tryd.func5, Tryd.ntmps5
    have HxB := Lib.hid hxB
    clear hxB
    go_wp2
    go_quiet (fail)
    generalize hS : (({ data := #[92, 117] } : ByteArray) ++ ({ data := #[48, 49, 50, 51, 52, 53, 54, 55, 56, 57, 97, 98, 99, 100, 101, 102] } : ByteArray).extract q3 (q3 + 1) ++ ({ data := #[48, 49, 50, 51, 52, 53, 54, 55, 56, 57, 97, 98, 99, 100, 101, 102] } : ByteArray).extract q2 (q2 + 1) ++ ({ data := #[48, 49, 50, 51, 52, 53, 54, 55, 56, 57, 97, 98, 99, 100, 101, 102] } : ByteArray).extract q1 (q1 + 1) ++ ({ data := #[48, 49, 50, 51, 52, 53, 54, 55, 56, 57, 97, 98, 99, 100, 101, 102] } : ByteArray).extract q0 (q0 + 1)) = S
    have hT' : EscText S := by
      refine escText S _ _ _ _ ?_ (hex_low q3 p3) (hex_low q2 p2) (hex_low q1 p1) (hex_low q0 p0)
      rw [← hS]
      simp only [ByteArray.data_append, Array.toList_append]
      rw [ext_one _ q3 (by show q3 < 16; omega), ext_one _ q2 (by show q2 < 16; omega), ext_one _ q1 (by show q1 < 16; omega), ext_one _ q0 (by show q0 < 16; omega)]
      rfl
    clear hS
    have hSs := hT'.size 
    have s1 : (i : Int) ≤ 6 := by omega 
    have s0' : (0 : Int) ≤ (i : Int) + 1 := by omega 
    have s2' : (i : Int) + 1 ≤ 6 := by omega 
    have s3' : IntKind.i64.wrap ((i : Int) + 1) = (i : Int) + 1 := IntWalk.i64_in _ (by omega) 
    have Hc := Lib.hid hT' 
    have hB : Below w.heap.size w w := Below.refl _ _ 
    clear hT' m2 m1 m0 w3 w2 w1 w0 h3 p3 p2 p1 p0 
    go_upto_region 6 with (fail) 
    go_cut [10, 11, 12] (fun s10 s11 s12 wx => s10 = .string S ∧ s11 = .int .i64 (i : Int) ∧ s12 = .bool (isHex B) ∧ wx = w.drewN _) 
    case first => 
      go_wp2 
      all_goals 
        go_meet 
        refine ⟨rfl, rfl, congrArg Value.bool ?_, rfl⟩ 
        rw [HxB.out, Bool.eq_iff_iff] 
        simp only [Bool.or_eq_true, decide_eq_true_eq, Bool.false_eq_true, true_iff, false_iff] 
        omega 
    case rest => 
      obtain ⟨rfl, rfl, rfl, rfl⟩ := hcut 
      have hconv := conv_one B 
      have HT := Lib.hid (fun W (h : Below w.heap.size w W) => hT.below h) 
      clear hT 
      cases hx : isHex B 
      all_goals 
        have hp := esc_four' Hc.out i2 i5 hx 
        have Hp := Lib.hid hp 
        clear hx hp 
        go_wp2 
        refine wp_region_any (by kernel_rfl) ?_ 
        try (change wpAny _ _ _ _ _ _ _ (World.drew _)) 
        refine wpAny_ready (rs := [0]) (by kernel_rfl) (by simp) ?_ 
        refine AllReady.cons rfl (fun K hK => ?_) AllReady.nil 
        go_simp 
        go_wp2_with (first 
          | (go_at_call 22; refine (known_calls _ (HT.out _ (by repeat (first | with_reducible exact hB | with_reducible refine below_drewN ?_ _ | with_reducible refine below_drew ?_)))).mono ?_; rintro e w' ⟨rfl, hb⟩; have hB3 : Below w.heap.size w w' := Below.trans (by repeat (first | with_reducible exact hB | with_reducible refine below_drewN ?_ _ | with_reducible refine below_drew ?_)) (hb.mono (by simp)); clear hb) 
          | (go_at_call 20; with_reducible refine (esc_one Hc.out _).mono ?_; rintro e w' ⟨rfl, rfl⟩) 
          | (go_at_call 20; with_reducible refine (esc_two Hc.out _).mono ?_; rintro e w' ⟨rfl, rfl⟩) 
          | (go_at_call 20; with_reducible refine (esc_part Hc.out _).mono ?_; rintro e w' ⟨rfl, rfl⟩) 
          | (go_at_call 20; with_reducible refine (Hp.out _).mono ?_; rintro e w' ⟨rfl, rfl⟩)) 
        (try (refine hK _ _ ?_; clear hK K)) 
        refine wpAny_take (i := 1) (v := ?_) rfl (by kernel_rfl) (by kernel_rfl) (by kernel_rfl) (fun _ _ _ h => h) (Or.inl ⟨by rfl, by intro w; go_simp; try (first | with_reducible rfl | rw [if_neg (by omega)] | rw [if_pos (by omega)])⟩) ?_ 
        go_simp 
        refine wpAny_take (i := 2) (v := ?_) rfl (by kernel_rfl) (by kernel_rfl) (by kernel_rfl) (fun _ _ _ h => h) (Or.inl ⟨by rfl, by intro w; go_simp; try (first | with_reducible rfl | rw [if_neg (by omega)] | rw [if_pos (by omega)])⟩) ?_ 
        go_simp 
        refine wpAny_ready (rs := [3]) (by kernel_rfl) (by simp) ?_ 
        refine AllReady.cons rfl (fun K hK => ?_) AllReady.nil 
        go_simp 
        go_wp2_with (first 
          | (go_at_call 22; refine (known_calls _ (HT.out _ (by repeat (first | with_reducible exact hB | with_reducible refine below_drewN ?_ _ | with_reducible refine below_drew ?_)))).mono ?_; rintro e w' ⟨rfl, hb⟩; have hB3 : Below w.heap.size w w' := Below.trans (by repeat (first | with_reducible exact hB | with_reducible refine below_drewN ?_ _ | with_reducible refine below_drew ?_)) (hb.mono (by simp)); clear hb) 
          | (go_at_call 20; with_reducible refine (esc_one Hc.out _).mono ?_; rintro e w' ⟨rfl, rfl⟩) 
          | (go_at_call 20; with_reducible refine (esc_two Hc.out _).mono ?_; rintro e w' ⟨rfl, rfl⟩) 
          | (go_at_call 20; with_reducible refine (esc_part Hc.out _).mono ?_; rintro e w' ⟨rfl, rfl⟩) 
          | (go_at_call 20; with_reducible refine (Hp.out _).mono ?_; rintro e w' ⟨rfl, rfl⟩)) 
        (try (refine hK _ _ ?_; clear hK K)) 
        refine wpAny_take (i := 4) (v := ?_) rfl (by kernel_rfl) (by kernel_rfl) (by kernel_rfl) (fun _ _ _ h => h) (Or.inl ⟨by rfl, by intro w; go_simp; try (first | with_reducible rfl | rw [if_neg (by omega)] | rw [if_pos (by omega)])⟩) ?_ 
        go_simp 
        refine wpAny_take (i := 5) (v := ?_) rfl (by kernel_rfl) (by kernel_rfl) (by kernel_rfl) (fun _ _ _ h => h) (Or.inl ⟨by rfl, by intro w; go_simp; try (first | with_reducible rfl | rw [if_neg (by omega)] | rw [if_pos (by omega)])⟩) ?_ 
        go_simp 
        refine wpAny_take (i := 6) (v := ?_) rfl (by kernel_rfl) (by kernel_rfl) (by kernel_rfl) (fun _ _ _ h => h) (Or.inl ⟨by rfl, by intro w; go_simp; try (first | with_reducible rfl | rw [if_neg (by omega)] | rw [if_pos (by omega)])⟩) ?_ 
        go_simp 
        refine wpAny_take (i := 7) (v := ?_) rfl (by kernel_rfl) (by kernel_rfl) (by kernel_rfl) (fun _ _ _ h => h) (Or.inl ⟨by rfl, by intro w; go_simp; try (first | with_reducible rfl | rw [if_neg (by omega)] | rw [if_pos (by omega)])⟩) ?_ 
        go_simp 
        refine wpAny_take (i := 8) (v := ?_) rfl (by kernel_rfl) (by kernel_rfl) (by kernel_rfl) (fun _ _ _ h => h) (Or.inl ⟨by rfl, by intro w; go_simp; try (first | with_reducible rfl | rw [if_neg (by omega)] | rw [if_pos (by omega)])⟩) ?_ 
        go_simp 
        refine wpAny_ready (rs := [9]) (by kernel_rfl) (by simp) ?_ 
        refine AllReady.cons rfl (fun K hK => ?_) AllReady.nil 
        go_simp 
        go_wp2_with (first 
          | (go_at_call 22; refine (known_calls _ (HT.out _ (by repeat (first | with_reducible exact hB | with_reducible refine below_drewN ?_ _ | with_reducible refine below_drew ?_)))).mono ?_; rintro e w' ⟨rfl, hb⟩; have hB3 : Below w.heap.size w w' := Below.trans (by repeat (first | with_reducible exact hB | with_reducible refine below_drewN ?_ _ | with_reducible refine below_drew ?_)) (hb.mono (by simp)); clear hb) 
          | (go_at_call 20; with_reducible refine (esc_one Hc.out _).mono ?_; rintro e w' ⟨rfl, rfl⟩) 
          | (go_at_call 20; with_reducible refine (esc_two Hc.out _).mono ?_; rintro e w' ⟨rfl, rfl⟩) 
          | (go_at_call 20; with_reducible refine (esc_part Hc.out _).mono ?_; rintro e w' ⟨rfl, rfl⟩) 
          | (go_at_call 20; with_reducible refine (Hp.out _).mono ?_; rintro e w' ⟨rfl, rfl⟩)) 
        (try (refine hK _ _ ?_; clear hK K)) 
        refine wpAny_take (i := 10) (v := ?_) rfl (by kernel_rfl) (by kernel_rfl) (by kernel_rfl) (fun _ _ _ h => h) (Or.inl ⟨by rfl, by intro w; go_simp; try (first | with_reducible rfl | rw [if_neg (by omega)] | rw [if_pos (by omega)])⟩) ?_ 
        go_simp 
        refine wpAny_take (i := 11) (v := ?_) rfl (by kernel_rfl) (by kernel_rfl) (by kernel_rfl) (fun _ _ _ h => h) (Or.inl ⟨by rfl, by intro w; go_simp; try (first | with_reducible rfl | rw [if_neg (by omega)] | rw [if_pos (by omega)])⟩) ?_ 
        go_simp 
        refine wpAny_take (i := 12) (v := ?_) rfl (by kernel_rfl) (by kernel_rfl) (by kernel_rfl) (fun _ _ _ h => h) (Or.inl ⟨by rfl, by intro w; go_simp; try (first | with_reducible rfl | rw [if_neg (by omega)] | rw [if_pos (by omega)])⟩) ?_ 
        go_simp 
        refine wpAny_take (i := 13) (v := ?_) rfl (by kernel_rfl) (by kernel_rfl) (by kernel_rfl) (fun _ _ _ h => h) (Or.inl ⟨by rfl, by intro w; go_simp; try (first | with_reducible rfl | rw [if_neg (by omega)] | rw [if_pos (by omega)])⟩) ?_ 
        go_simp 
        refine wpAny_take (i := 14) (v := ?_) rfl (by kernel_rfl) (by kernel_rfl) (by kernel_rfl) (fun _ _ _ h => h) (Or.inl ⟨by rfl, by intro w; go_simp; try (first | with_reducible rfl | rw [if_neg (by omega)] | rw [if_pos (by omega)])⟩) ?_ 
        go_simp 
        refine wpAny_ready (rs := [15]) (by kernel_rfl) (by simp) ?_ 
        refine AllReady.cons rfl (fun K hK => ?_) AllReady.nil 
        go_simp 
        go_wp2_with (first 
          | (go_at_call 22; refine (known_calls _ (HT.out _ (by repeat (first | with_reducible exact hB | with_reducible refine below_drewN ?_ _ | with_reducible refine below_drew ?_)))).mono ?_; rintro e w' ⟨rfl, hb⟩; have hB3 : Below w.heap.size w w' := Below.trans (by repeat (first | with_reducible exact hB | with_reducible refine below_drewN ?_ _ | with_reducible refine below_drew ?_)) (hb.mono (by simp)); clear hb) 
          | (go_at_call 20; with_reducible refine (esc_one Hc.out _).mono ?_; rintro e w' ⟨rfl, rfl⟩) 
          | (go_at_call 20; with_reducible refine (esc_two Hc.out _).mono ?_; rintro e w' ⟨rfl, rfl⟩) 
          | (go_at_call 20; with_reducible refine (esc_part Hc.out _).mono ?_; rintro e w' ⟨rfl, rfl⟩) 
          | (go_at_call 20; with_reducible refine (Hp.out _).mono ?_; rintro e w' ⟨rfl, rfl⟩)) 
        (try (refine hK _ _ ?_; clear hK K)) 
        refine wpAny_take (i := 16) (v := ?_) rfl (by kernel_rfl) (by kernel_rfl) (by kernel_rfl) (fun _ _ _ h => h) (Or.inl ⟨by rfl, by intro w; go_simp; try (first | with_reducible rfl | rw [if_neg (by omega)] | rw [if_pos (by omega)])⟩) ?_ 
        go_simp 
        refine wpAny_take (i := 17) (v := ?_) rfl (by kernel_rfl) (by kernel_rfl) (by kernel_rfl) (fun _ _ _ h => h) (Or.inl ⟨by rfl, by intro w; go_simp; try (first | with_reducible rfl | rw [if_neg (by omega)] | rw [if_pos (by omega)])⟩) ?_ 
        go_simp 
        refine wpAny_take (i := 18) (v := ?_) rfl (by kernel_rfl) (by kernel_rfl) (by kernel_rfl) (fun _ _ _ h => h) (Or.inl ⟨by rfl, by intro w; go_simp; try (first | with_reducible rfl | rw [if_neg (by omega)] | rw [if_pos (by omega)])⟩) ?_ 
        go_simp 
        refine wpAny_take (i := 19) (v := ?_) rfl (by kernel_rfl) (by kernel_rfl) (by kernel_rfl) (fun _ _ _ h => h) (Or.inl ⟨by rfl, by intro w; go_simp; try (first | with_reducible rfl | rw [if_neg (by omega)] | rw [if_pos (by omega)])⟩) ?_ 
        go_simp 
        refine wpAny_take (i := 20) (v := ?_) rfl (by kernel_rfl) (by kernel_rfl) (by kernel_rfl) (fun _ _ _ h => h) (Or.inl ⟨by rfl, by intro w; go_simp; try (first | with_reducible rfl | rw [if_neg (by omega)] | rw [if_pos (by omega)])⟩) ?_ 
        go_simp 
        refine wpAny_take (i := 21) (v := ?_) rfl (by kernel_rfl) (by kernel_rfl) (by kernel_rfl) (fun _ _ _ h => h) (Or.inl ⟨by rfl, by intro w; go_simp; try (first | with_reducible rfl | rw [if_neg (by omega)] | rw [if_pos (by omega)])⟩) ?_ 
        go_simp 
        refine wpAny_take (i := 22) (v := ?_) rfl (by kernel_rfl) (by kernel_rfl) (by kernel_rfl) (fun _ _ _ h => h) (Or.inl ⟨by rfl, by intro w; go_simp; try (first | with_reducible rfl | rw [if_neg (by omega)] | rw [if_pos (by omega)])⟩) ?_ 
        go_simp 
        refine wpAny_take (i := 26) (v := ?_) rfl (by kernel_rfl) (by kernel_rfl) (by kernel_rfl) (fun _ _ _ h => h) (Or.inl ⟨by rfl, by intro w; go_simp; try (first | with_reducible rfl | rw [if_neg (by omega)] | rw [if_pos (by omega)])⟩) ?_ 
        go_simp 
        refine wpAny_take (i := 27) (v := ?_) rfl (by kernel_rfl) (by kernel_rfl) (by kernel_rfl) (fun _ _ _ h => h) (Or.inl ⟨by rfl, by intro w; go_simp; try (first | with_reducible rfl | rw [if_neg (by omega)] | rw [if_pos (by omega)])⟩) ?_ 
        go_simp 
        refine wpAny_take (i := 28) (v := ?_) rfl (by kernel_rfl) (by kernel_rfl) (by kernel_rfl) (fun _ _ _ h => h) (Or.inl ⟨by rfl, by intro w; go_simp; try (first | with_reducible rfl | rw [if_neg (by omega)] | rw [if_pos (by omega)])⟩) ?_ 
        go_simp 
        refine wpAny_take (i := 29) (v := ?_) rfl (by kernel_rfl) (by kernel_rfl) (by kernel_rfl) (fun _ _ _ h => h) (Or.inl ⟨by rfl, by intro w; go_simp; try (first | with_reducible rfl | rw [if_neg (by omega)] | rw [if_pos (by omega)])⟩) ?_ 
        go_simp 
        refine wpAny_take (i := 33) (v := ?_) rfl (by kernel_rfl) (by kernel_rfl) (by kernel_rfl) (fun _ _ _ h => h) (Or.inl ⟨by rfl, by intro w; go_simp; try (first | with_reducible rfl | rw [if_neg (by omega)] | rw [if_pos (by omega)])⟩) ?_ 
        go_simp 
        refine wpAny_ready (rs := [23]) (by kernel_rfl) (by simp) ?_ 
        refine AllReady.cons rfl (fun K hK => ?_) AllReady.nil 
        go_simp 
        go_wp2_with (first 
          | (go_at_call 22; refine (known_calls _ (HT.out _ (by repeat (first | with_reducible exact hB | with_reducible refine below_drewN ?_ _ | with_reducible refine below_drew ?_)))).mono ?_; rintro e w' ⟨rfl, hb⟩; have hB3 : Below w.heap.size w w' := Below.trans (by repeat (first | with_reducible exact hB | with_reducible refine below_drewN ?_ _ | with_reducible refine below_drew ?_)) (hb.mono (by simp)); clear hb) 
          | (go_at_call 20; with_reducible refine (esc_one Hc.out _).mono ?_; rintro e w' ⟨rfl, rfl⟩) 
          | (go_at_call 20; with_reducible refine (esc_two Hc.out _).mono ?_; rintro e w' ⟨rfl, rfl⟩) 
          | (go_at_call 20; with_reducible refine (esc_part Hc.out _).mono ?_; rintro e w' ⟨rfl, rfl⟩) 
          | (go_at_call 20; with_reducible refine (Hp.out _).mono ?_; rintro e w' ⟨rfl, rfl⟩)) 
        (try (refine hK _ _ ?_; clear hK K)) 
        refine wpAny_ready (rs := [24]) (by kernel_rfl) (by simp) ?_ 
        refine AllReady.cons rfl (fun K hK => ?_) AllReady.nil 
        go_simp 
        go_wp2_with (first 
          | (go_at_call 22; refine (known_calls _ (HT.out _ (by repeat (first | with_reducible exact hB | with_reducible refine below_drewN ?_ _ | with_reducible refine below_drew ?_)))).mono ?_; rintro e w' ⟨rfl, hb⟩; have hB3 : Below w.heap.size w w' := Below.trans (by repeat (first | with_reducible exact hB | with_reducible refine below_drewN ?_ _ | with_reducible refine below_drew ?_)) (hb.mono (by simp)); clear hb) 
          | (go_at_call 20; with_reducible refine (esc_one Hc.out _).mono ?_; rintro e w' ⟨rfl, rfl⟩) 
          | (go_at_call 20; with_reducible refine (esc_two Hc.out _).mono ?_; rintro e w' ⟨rfl, rfl⟩) 
          | (go_at_call 20; with_reducible refine (esc_part Hc.out _).mono ?_; rintro e w' ⟨rfl, rfl⟩) 
          | (go_at_call 20; with_reducible refine (Hp.out _).mono ?_; rintro e w' ⟨rfl, rfl⟩)) 
        (try (refine hK _ _ ?_; clear hK K)) 
        refine wpAny_take (i := 25) (v := ?_) rfl (by kernel_rfl) (by kernel_rfl) (by kernel_rfl) (fun _ _ _ h => h) (Or.inl ⟨by rfl, by intro w; go_simp; try (first | with_reducible rfl | rw [if_neg (by omega)] | rw [if_pos (by omega)])⟩) ?_ 
        go_simp 
        refine wpAny_take (i := 30) (v := ?_) rfl (by kernel_rfl) (by kernel_rfl) (by kernel_rfl) (fun _ _ _ h => h) (Or.inl ⟨by rfl, by intro w; go_simp; try (first | with_reducible rfl | rw [if_neg (by omega)] | rw [if_pos (by omega)])⟩) ?_ 
        go_simp 
        refine wpAny_ready (rs := [31]) (by kernel_rfl) (by simp) ?_ 
        refine AllReady.cons rfl (fun K hK => ?_) AllReady.nil 
        go_simp 
        go_wp2_with (first 
          | (go_at_call 22; refine (known_calls _ (HT.out _ (by repeat (first | with_reducible exact hB | with_reducible refine below_drewN ?_ _ | with_reducible refine below_drew ?_)))).mono ?_; rintro e w' ⟨rfl, hb⟩; have hB3 : Below w.heap.size w w' := Below.trans (by repeat (first | with_reducible exact hB | with_reducible refine below_drewN ?_ _ | with_reducible refine below_drew ?_)) (hb.mono (by simp)); clear hb) 
          | (go_at_call 20; with_reducible refine (esc_one Hc.out _).mono ?_; rintro e w' ⟨rfl, rfl⟩) 
          | (go_at_call 20; with_reducible refine (esc_two Hc.out _).mono ?_; rintro e w' ⟨rfl, rfl⟩) 
          | (go_at_call 20; with_reducible refine (esc_part Hc.out _).mono ?_; rintro e w' ⟨rfl, rfl⟩) 
          | (go_at_call 20; with_reducible refine (Hp.out _).mono ?_; rintro e w' ⟨rfl, rfl⟩)) 
        (try (refine hK _ _ ?_; clear hK K)) 
        refine wpAny_take (i := 32) (v := ?_) rfl (by kernel_rfl) (by kernel_rfl) (by kernel_rfl) (fun _ _ _ h => h) (Or.inl ⟨by rfl, by intro w; go_simp; try (first | with_reducible rfl | rw [if_neg (by omega)] | rw [if_pos (by omega)])⟩) ?_ 
        go_simp 
        refine wpAny_take (i := 34) (v := ?_) rfl (by kernel_rfl) (by kernel_rfl) (by kernel_rfl) (fun _ _ _ h => h) (Or.inl ⟨by rfl, by intro w; go_simp; try (first | with_reducible rfl | rw [if_neg (by omega)] | rw [if_pos (by omega)])⟩) ?_ 
        go_simp 
        refine wpAny_take (i := 35) (v := ?_) rfl (by kernel_rfl) (by kernel_rfl) (by kernel_rfl) (fun _ _ _ h => h) (Or.inl ⟨by rfl, by intro w; go_simp; try (first | with_reducible rfl | rw [if_neg (by omega)] | rw [if_pos (by omega)])⟩) ?_ 
        go_simp 
        refine wpAny_take (i := 36) (v := ?_) rfl (by kernel_rfl) (by kernel_rfl) (by kernel_rfl) (fun _ _ _ h => h) (Or.inl ⟨by rfl, by intro w; go_simp; try (first | with_reducible rfl | rw [if_neg (by omega)] | rw [if_pos (by omega)])⟩) ?_ 
        go_simp 
        refine wpAny_done (by kernel_rfl) ?_ _ 
        go_wp2 
        go_ret 
        exact ⟨rfl, hB3.alloc (Nat.le_trans hB3.size (Nat.le_refl _)) _⟩
  · go_enter Tryd.func5, Tryd.ntmps5
    have HxB := Lib.hid hxB
    clear hxB
    go_wp2
    go_quiet (fail)
    generalize hS : (({ data := #[92, 117] } : ByteArray) ++ ({ data := #[48, 49, 50, 51, 52, 53, 54, 55, 56, 57, 65, 66, 67, 68, 69, 70] } : ByteArray).extract q3 (q3 + 1) ++ ({ data := #[48, 49, 50, 51, 52, 53, 54, 55, 56, 57, 65, 66, 67, 68, 69, 70] } : ByteArray).extract q2 (q2 + 1) ++ ({ data := #[48, 49, 50, 51, 52, 53, 54, 55, 56, 57, 65, 66, 67, 68, 69, 70] } : ByteArray).extract q1 (q1 + 1) ++ ({ data := #[48, 49, 50, 51, 52, 53, 54, 55, 56, 57, 65, 66, 67, 68, 69, 70] } : ByteArray).extract q0 (q0 + 1)) = S
    have hT' : EscText S := by
      refine escText S _ _ _ _ ?_ (hex_up q3 p3) (hex_up q2 p2) (hex_up q1 p1) (hex_up q0 p0)
      rw [← hS]
      simp only [ByteArray.data_append, Array.toList_append]
      rw [ext_one _ q3 (by show q3 < 16; omega), ext_one _ q2 (by show q2 < 16; omega), ext_one _ q1 (by show q1 < 16; omega), ext_one _ q0 (by show q0 < 16; omega)]
      rfl
    clear hS
    have hSs := hT'.size 
    have s1 : (i : Int) ≤ 6 := by omega 
    have s0' : (0 : Int) ≤ (i : Int) + 1 := by omega 
    have s2' : (i : Int) + 1 ≤ 6 := by omega 
    have s3' : IntKind.i64.wrap ((i : Int) + 1) = (i : Int) + 1 := IntWalk.i64_in _ (by omega) 
    have Hc := Lib.hid hT' 
    have hB : Below w.heap.size w w := Below.refl _ _ 
    clear hT' m2 m1 m0 w3 w2 w1 w0 h3 p3 p2 p1 p0 
    go_upto_region 6 with (fail) 
    go_cut [10, 11, 12] (fun s10 s11 s12 wx => s10 = .string S ∧ s11 = .int .i64 (i : Int) ∧ s12 = .bool (isHex B) ∧ wx = w.drewN _) 
    case first => 
      go_wp2 
      all_goals 
        go_meet 
        refine ⟨rfl, rfl, congrArg Value.bool ?_, rfl⟩ 
        rw [HxB.out, Bool.eq_iff_iff] 
        simp only [Bool.or_eq_true, decide_eq_true_eq, Bool.false_eq_true, true_iff, false_iff] 
        omega 
    case rest => 
      obtain ⟨rfl, rfl, rfl, rfl⟩ := hcut 
      have hconv := conv_one B 
      have HT := Lib.hid (fun W (h : Below w.heap.size w W) => hT.below h) 
      clear hT 
      cases hx : isHex B 
      all_goals 
        have hp := esc_four' Hc.out i2 i5 hx 
        have Hp := Lib.hid hp 
        clear hx hp 
        go_wp2 
        refine wp_region_any (by kernel_rfl) ?_ 
        try (change wpAny _ _ _ _ _ _ _ (World.drew _)) 
        refine wpAny_ready (rs := [0]) (by kernel_rfl) (by simp) ?_ 
        refine AllReady.cons rfl (fun K hK => ?_) AllReady.nil 
        go_simp 
        go_wp2_with (first 
          | (go_at_call 22; refine (known_calls _ (HT.out _ (by repeat (first | with_reducible exact hB | with_reducible refine below_drewN ?_ _ | with_reducible refine below_drew ?_)))).mono ?_; rintro e w' ⟨rfl, hb⟩; have hB3 : Below w.heap.size w w' := Below.trans (by repeat (first | with_reducible exact hB | with_reducible refine below_drewN ?_ _ | with_reducible refine below_drew ?_)) (hb.mono (by simp)); clear hb) 
          | (go_at_call 20; with_reducible refine (esc_one Hc.out _).mono ?_; rintro e w' ⟨rfl, rfl⟩) 
          | (go_at_call 20; with_reducible refine (esc_two Hc.out _).mono ?_; rintro e w' ⟨rfl, rfl⟩) 
          | (go_at_call 20; with_reducible refine (esc_part Hc.out _).mono ?_; rintro e w' ⟨rfl, rfl⟩) 
          | (go_at_call 20; with_reducible refine (Hp.out _).mono ?_; rintro e w' ⟨rfl, rfl⟩)) 
        (try (refine hK _ _ ?_; clear hK K)) 
        refine wpAny_take (i := 1) (v := ?_) rfl (by kernel_rfl) (by kernel_rfl) (by kernel_rfl) (fun _ _ _ h => h) (Or.inl ⟨by rfl, by intro w; go_simp; try (first | with_reducible rfl | rw [if_neg (by omega)] | rw [if_pos (by omega)])⟩) ?_ 
        go_simp 
        refine wpAny_take (i := 2) (v := ?_) rfl (by kernel_rfl) (by kernel_rfl) (by kernel_rfl) (fun _ _ _ h => h) (Or.inl ⟨by rfl, by intro w; go_simp; try (first | with_reducible rfl | rw [if_neg (by omega)] | rw [if_pos (by omega)])⟩) ?_ 
        go_simp 
        refine wpAny_ready (rs := [3]) (by kernel_rfl) (by simp) ?_ 
        refine AllReady.cons rfl (fun K hK => ?_) AllReady.nil 
        go_simp 
        go_wp2_with (first 
          | (go_at_call 22; refine (known_calls _ (HT.out _ (by repeat (first | with_reducible exact hB | with_reducible refine below_drewN ?_ _ | with_reducible refine below_drew ?_)))).mono ?_; rintro e w' ⟨rfl, hb⟩; have hB3 : Below w.heap.size w w' := Below.trans (by repeat (first | with_reducible exact hB | with_reducible refine below_drewN ?_ _ | with_reducible refine below_drew ?_)) (hb.mono (by simp)); clear hb) 
          | (go_at_call 20; with_reducible refine (esc_one Hc.out _).mono ?_; rintro e w' ⟨rfl, rfl⟩) 
          | (go_at_call 20; with_reducible refine (esc_two Hc.out _).mono ?_; rintro e w' ⟨rfl, rfl⟩) 
          | (go_at_call 20; with_reducible refine (esc_part Hc.out _).mono ?_; rintro e w' ⟨rfl, rfl⟩) 
          | (go_at_call 20; with_reducible refine (Hp.out _).mono ?_; rintro e w' ⟨rfl, rfl⟩)) 
        (try (refine hK _ _ ?_; clear hK K)) 
        refine wpAny_take (i := 4) (v := ?_) rfl (by kernel_rfl) (by kernel_rfl) (by kernel_rfl) (fun _ _ _ h => h) (Or.inl ⟨by rfl, by intro w; go_simp; try (first | with_reducible rfl | rw [if_neg (by omega)] | rw [if_pos (by omega)])⟩) ?_ 
        go_simp 
        refine wpAny_take (i := 5) (v := ?_) rfl (by kernel_rfl) (by kernel_rfl) (by kernel_rfl) (fun _ _ _ h => h) (Or.inl ⟨by rfl, by intro w; go_simp; try (first | with_reducible rfl | rw [if_neg (by omega)] | rw [if_pos (by omega)])⟩) ?_ 
        go_simp 
        refine wpAny_take (i := 6) (v := ?_) rfl (by kernel_rfl) (by kernel_rfl) (by kernel_rfl) (fun _ _ _ h => h) (Or.inl ⟨by rfl, by intro w; go_simp; try (first | with_reducible rfl | rw [if_neg (by omega)] | rw [if_pos (by omega)])⟩) ?_ 
        go_simp 
        refine wpAny_take (i := 7) (v := ?_) rfl (by kernel_rfl) (by kernel_rfl) (by kernel_rfl) (fun _ _ _ h => h) (Or.inl ⟨by rfl, by intro w; go_simp; try (first | with_reducible rfl | rw [if_neg (by omega)] | rw [if_pos (by omega)])⟩) ?_ 
        go_simp 
        refine wpAny_take (i := 8) (v := ?_) rfl (by kernel_rfl) (by kernel_rfl) (by kernel_rfl) (fun _ _ _ h => h) (Or.inl ⟨by rfl, by intro w; go_simp; try (first | with_reducible rfl | rw [if_neg (by omega)] | rw [if_pos (by omega)])⟩) ?_ 
        go_simp 
        refine wpAny_ready (rs := [9]) (by kernel_rfl) (by simp) ?_ 
        refine AllReady.cons rfl (fun K hK => ?_) AllReady.nil 
        go_simp 
        go_wp2_with (first 
          | (go_at_call 22; refine (known_calls _ (HT.out _ (by repeat (first | with_reducible exact hB | with_reducible refine below_drewN ?_ _ | with_reducible refine below_drew ?_)))).mono ?_; rintro e w' ⟨rfl, hb⟩; have hB3 : Below w.heap.size w w' := Below.trans (by repeat (first | with_reducible exact hB | with_reducible refine below_drewN ?_ _ | with_reducible refine below_drew ?_)) (hb.mono (by simp)); clear hb) 
          | (go_at_call 20; with_reducible refine (esc_one Hc.out _).mono ?_; rintro e w' ⟨rfl, rfl⟩) 
          | (go_at_call 20; with_reducible refine (esc_two Hc.out _).mono ?_; rintro e w' ⟨rfl, rfl⟩) 
          | (go_at_call 20; with_reducible refine (esc_part Hc.out _).mono ?_; rintro e w' ⟨rfl, rfl⟩) 
          | (go_at_call 20; with_reducible refine (Hp.out _).mono ?_; rintro e w' ⟨rfl, rfl⟩)) 
        (try (refine hK _ _ ?_; clear hK K)) 
        refine wpAny_take (i := 10) (v := ?_) rfl (by kernel_rfl) (by kernel_rfl) (by kernel_rfl) (fun _ _ _ h => h) (Or.inl ⟨by rfl, by intro w; go_simp; try (first | with_reducible rfl | rw [if_neg (by omega)] | rw [if_pos (by omega)])⟩) ?_ 
        go_simp 
        refine wpAny_take (i := 11) (v := ?_) rfl (by kernel_rfl) (by kernel_rfl) (by kernel_rfl) (fun _ _ _ h => h) (Or.inl ⟨by rfl, by intro w; go_simp; try (first | with_reducible rfl | rw [if_neg (by omega)] | rw [if_pos (by omega)])⟩) ?_ 
        go_simp 
        refine wpAny_take (i := 12) (v := ?_) rfl (by kernel_rfl) (by kernel_rfl) (by kernel_rfl) (fun _ _ _ h => h) (Or.inl ⟨by rfl, by intro w; go_simp; try (first | with_reducible rfl | rw [if_neg (by omega)] | rw [if_pos (by omega)])⟩) ?_ 
        go_simp 
        refine wpAny_take (i := 13) (v := ?_) rfl (by kernel_rfl) (by kernel_rfl) (by kernel_rfl) (fun _ _ _ h => h) (Or.inl ⟨by rfl, by intro w; go_simp; try (first | with_reducible rfl | rw [if_neg (by omega)] | rw [if_pos (by omega)])⟩) ?_ 
        go_simp 
        refine wpAny_take (i := 14) (v := ?_) rfl (by kernel_rfl) (by kernel_rfl) (by kernel_rfl) (fun _ _ _ h => h) (Or.inl ⟨by rfl, by intro w; go_simp; try (first | with_reducible rfl | rw [if_neg (by omega)] | rw [if_pos (by omega)])⟩) ?_ 
        go_simp 
        refine wpAny_ready (rs := [15]) (by kernel_rfl) (by simp) ?_ 
        refine AllReady.cons rfl (fun K hK => ?_) AllReady.nil 
        go_simp 
        go_wp2_with (first 
          | (go_at_call 22; refine (known_calls _ (HT.out _ (by repeat (first | with_reducible exact hB | with_reducible refine below_drewN ?_ _ | with_reducible refine below_drew ?_)))).mono ?_; rintro e w' ⟨rfl, hb⟩; have hB3 : Below w.heap.size w w' := Below.trans (by repeat (first | with_reducible exact hB | with_reducible refine below_drewN ?_ _ | with_reducible refine below_drew ?_)) (hb.mono (by simp)); clear hb) 
          | (go_at_call 20; with_reducible refine (esc_one Hc.out _).mono ?_; rintro e w' ⟨rfl, rfl⟩) 
          | (go_at_call 20; with_reducible refine (esc_two Hc.out _).mono ?_; rintro e w' ⟨rfl, rfl⟩) 
          | (go_at_call 20; with_reducible refine (esc_part Hc.out _).mono ?_; rintro e w' ⟨rfl, rfl⟩) 
          | (go_at_call 20; with_reducible refine (Hp.out _).mono ?_; rintro e w' ⟨rfl, rfl⟩)) 
        (try (refine hK _ _ ?_; clear hK K)) 
        refine wpAny_take (i := 16) (v := ?_) rfl (by kernel_rfl) (by kernel_rfl) (by kernel_rfl) (fun _ _ _ h => h) (Or.inl ⟨by rfl, by intro w; go_simp; try (first | with_reducible rfl | rw [if_neg (by omega)] | rw [if_pos (by omega)])⟩) ?_ 
        go_simp 
        refine wpAny_take (i := 17) (v := ?_) rfl (by kernel_rfl) (by kernel_rfl) (by kernel_rfl) (fun _ _ _ h => h) (Or.inl ⟨by rfl, by intro w; go_simp; try (first | with_reducible rfl | rw [if_neg (by omega)] | rw [if_pos (by omega)])⟩) ?_ 
        go_simp 
        refine wpAny_take (i := 18) (v := ?_) rfl (by kernel_rfl) (by kernel_rfl) (by kernel_rfl) (fun _ _ _ h => h) (Or.inl ⟨by rfl, by intro w; go_simp; try (first | with_reducible rfl | rw [if_neg (by omega)] | rw [if_pos (by omega)])⟩) ?_ 
        go_simp 
        refine wpAny_take (i := 19) (v := ?_) rfl (by kernel_rfl) (by kernel_rfl) (by kernel_rfl) (fun _ _ _ h => h) (Or.inl ⟨by rfl, by intro w; go_simp; try (first | with_reducible rfl | rw [if_neg (by omega)] | rw [if_pos (by omega)])⟩) ?_ 
        go_simp 
        refine wpAny_take (i := 20) (v := ?_) rfl (by kernel_rfl) (by kernel_rfl) (by kernel_rfl) (fun _ _ _ h => h) (Or.inl ⟨by rfl, by intro w; go_simp; try (first | with_reducible rfl | rw [if_neg (by omega)] | rw [if_pos (by omega)])⟩) ?_ 
        go_simp 
        refine wpAny_take (i := 21) (v := ?_) rfl (by kernel_rfl) (by kernel_rfl) (by kernel_rfl) (fun _ _ _ h => h) (Or.inl ⟨by rfl, by intro w; go_simp; try (first | with_reducible rfl | rw [if_neg (by omega)] | rw [if_pos (by omega)])⟩) ?_ 
        go_simp 
        refine wpAny_take (i := 22) (v := ?_) rfl (by kernel_rfl) (by kernel_rfl) (by kernel_rfl) (fun _ _ _ h => h) (Or.inl ⟨by rfl, by intro w; go_simp; try (first | with_reducible rfl | rw [if_neg (by omega)] | rw [if_pos (by omega)])⟩) ?_ 
        go_simp 
        refine wpAny_take (i := 26) (v := ?_) rfl (by kernel_rfl) (by kernel_rfl) (by kernel_rfl) (fun _ _ _ h => h) (Or.inl ⟨by rfl, by intro w; go_simp; try (first | with_reducible rfl | rw [if_neg (by omega)] | rw [if_pos (by omega)])⟩) ?_ 
        go_simp 
        refine wpAny_take (i := 27) (v := ?_) rfl (by kernel_rfl) (by kernel_rfl) (by kernel_rfl) (fun _ _ _ h => h) (Or.inl ⟨by rfl, by intro w; go_simp; try (first | with_reducible rfl | rw [if_neg (by omega)] | rw [if_pos (by omega)])⟩) ?_ 
        go_simp 
        refine wpAny_take (i := 28) (v := ?_) rfl (by kernel_rfl) (by kernel_rfl) (by kernel_rfl) (fun _ _ _ h => h) (Or.inl ⟨by rfl, by intro w; go_simp; try (first | with_reducible rfl | rw [if_neg (by omega)] | rw [if_pos (by omega)])⟩) ?_ 
        go_simp 
        refine wpAny_take (i := 29) (v := ?_) rfl (by kernel_rfl) (by kernel_rfl) (by kernel_rfl) (fun _ _ _ h => h) (Or.inl ⟨by rfl, by intro w; go_simp; try (first | with_reducible rfl | rw [if_neg (by omega)] | rw [if_pos (by omega)])⟩) ?_ 
        go_simp 
        refine wpAny_take (i := 33) (v := ?_) rfl (by kernel_rfl) (by kernel_rfl) (by kernel_rfl) (fun _ _ _ h => h) (Or.inl ⟨by rfl, by intro w; go_simp; try (first | with_reducible rfl | rw [if_neg (by omega)] | rw [if_pos (by omega)])⟩) ?_ 
        go_simp 
        refine wpAny_ready (rs := [23]) (by kernel_rfl) (by simp) ?_ 
        refine AllReady.cons rfl (fun K hK => ?_) AllReady.nil 
        go_simp 
        go_wp2_with (first 
          | (go_at_call 22; refine (known_calls _ (HT.out _ (by repeat (first | with_reducible exact hB | with_reducible refine below_drewN ?_ _ | with_reducible refine below_drew ?_)))).mono ?_; rintro e w' ⟨rfl, hb⟩; have hB3 : Below w.heap.size w w' := Below.trans (by repeat (first | with_reducible exact hB | with_reducible refine below_drewN ?_ _ | with_reducible refine below_drew ?_)) (hb.mono (by simp)); clear hb) 
          | (go_at_call 20; with_reducible refine (esc_one Hc.out _).mono ?_; rintro e w' ⟨rfl, rfl⟩) 
          | (go_at_call 20; with_reducible refine (esc_two Hc.out _).mono ?_; rintro e w' ⟨rfl, rfl⟩) 
          | (go_at_call 20; with_reducible refine (esc_part Hc.out _).mono ?_; rintro e w' ⟨rfl, rfl⟩) 
          | (go_at_call 20; with_reducible refine (Hp.out _).mono ?_; rintro e w' ⟨rfl, rfl⟩)) 
        (try (refine hK _ _ ?_; clear hK K)) 
        refine wpAny_ready (rs := [24]) (by kernel_rfl) (by simp) ?_ 
        refine AllReady.cons rfl (fun K hK => ?_) AllReady.nil 
        go_simp 
        go_wp2_with (first 
          | (go_at_call 22; refine (known_calls _ (HT.out _ (by repeat (first | with_reducible exact hB | with_reducible refine below_drewN ?_ _ | with_reducible refine below_drew ?_)))).mono ?_; rintro e w' ⟨rfl, hb⟩; have hB3 : Below w.heap.size w w' := Below.trans (by repeat (first | with_reducible exact hB | with_reducible refine below_drewN ?_ _ | with_reducible refine below_drew ?_)) (hb.mono (by simp)); clear hb) 
          | (go_at_call 20; with_reducible refine (esc_one Hc.out _).mono ?_; rintro e w' ⟨rfl, rfl⟩) 
          | (go_at_call 20; with_reducible refine (esc_two Hc.out _).mono ?_; rintro e w' ⟨rfl, rfl⟩) 
          | (go_at_call 20; with_reducible refine (esc_part Hc.out _).mono ?_; rintro e w' ⟨rfl, rfl⟩) 
          | (go_at_call 20; with_reducible refine (Hp.out _).mono ?_; rintro e w' ⟨rfl, rfl⟩)) 
        (try (refine hK _ _ ?_; clear hK K)) 
        refine wpAny_take (i := 25) (v := ?_) rfl (by kernel_rfl) (by kernel_rfl) (by kernel_rfl) (fun _ _ _ h => h) (Or.inl ⟨by rfl, by intro w; go_simp; try (first | with_reducible rfl | rw [if_neg (by omega)] | rw [if_pos (by omega)])⟩) ?_ 
        go_simp 
        refine wpAny_take (i := 30) (v := ?_) rfl (by kernel_rfl) (by kernel_rfl) (by kernel_rfl) (fun _ _ _ h => h) (Or.inl ⟨by rfl, by intro w; go_simp; try (first | with_reducible rfl | rw [if_neg (by omega)] | rw [if_pos (by omega)])⟩) ?_ 
        go_simp 
        refine wpAny_ready (rs := [31]) (by kernel_rfl) (by simp) ?_ 
        refine AllReady.cons rfl (fun K hK => ?_) AllReady.nil 
        go_simp 
        go_wp2_with (first 
          | (go_at_call 22; refine (known_calls _ (HT.out _ (by repeat (first | with_reducible exact hB | with_reducible refine below_drewN ?_ _ | with_reducible refine below_drew ?_)))).mono ?_; rintro e w' ⟨rfl, hb⟩; have hB3 : Below w.heap.size w w' := Below.trans (by repeat (first | with_reducible exact hB | with_reducible refine below_drewN ?_ _ | with_reducible refine below_drew ?_)) (hb.mono (by simp)); clear hb) 
          | (go_at_call 20; with_reducible refine (esc_one Hc.out _).mono ?_; rintro e w' ⟨rfl, rfl⟩) 
          | (go_at_call 20; with_reducible refine (esc_two Hc.out _).mono ?_; rintro e w' ⟨rfl, rfl⟩) 
          | (go_at_call 20; with_reducible refine (esc_part Hc.out _).mono ?_; rintro e w' ⟨rfl, rfl⟩) 
          | (go_at_call 20; with_reducible refine (Hp.out _).mono ?_; rintro e w' ⟨rfl, rfl⟩)) 
        (try (refine hK _ _ ?_; clear hK K)) 
        refine wpAny_take (i := 32) (v := ?_) rfl (by kernel_rfl) (by kernel_rfl) (by kernel_rfl) (fun _ _ _ h => h) (Or.inl ⟨by rfl, by intro w; go_simp; try (first | with_reducible rfl | rw [if_neg (by omega)] | rw [if_pos (by omega)])⟩) ?_ 
        go_simp 
        refine wpAny_take (i := 34) (v := ?_) rfl (by kernel_rfl) (by kernel_rfl) (by kernel_rfl) (fun _ _ _ h => h) (Or.inl ⟨by rfl, by intro w; go_simp; try (first | with_reducible rfl | rw [if_neg (by omega)] | rw [if_pos (by omega)])⟩) ?_ 
        go_simp 
        refine wpAny_take (i := 35) (v := ?_) rfl (by kernel_rfl) (by kernel_rfl) (by kernel_rfl) (fun _ _ _ h => h) (Or.inl ⟨by rfl, by intro w; go_simp; try (first | with_reducible rfl | rw [if_neg (by omega)] | rw [if_pos (by omega)])⟩) ?_ 
        go_simp 
        refine wpAny_take (i := 36) (v := ?_) rfl (by kernel_rfl) (by kernel_rfl) (by kernel_rfl) (fun _ _ _ h => h) (Or.inl ⟨by rfl, by intro w; go_simp; try (first | with_reducible rfl | rw [if_neg (by omega)] | rw [if_pos (by omega)])⟩) ?_ 
        go_simp 
        refine wpAny_done (by kernel_rfl) ?_ _ 
        go_wp2 
        go_ret 
        exact ⟨rfl, hB3.alloc (Nat.le_trans hB3.size (Nat.le_refl _)) _⟩
end Go.Proofs.YtpdkfofoeoakmaaDoor
