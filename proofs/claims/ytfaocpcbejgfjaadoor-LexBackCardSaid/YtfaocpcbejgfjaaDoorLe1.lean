/- The lexer's run on a given text, so that it can be reckoned. No condition. -/
import Derived.Test.YtfaocpcbejgfjaaDoorLu1
import Derived.Test.YtfaocpcbejgfjaaDoorLx18
namespace Go.Proofs.YtfaocpcbejgfjaaDoor
open Go.RowKit Go.Sub

def moreF : Nat → List UInt8 → Nat
  | 0, _ => 0
  | k + 1, l => if Lib.hasPrefix l [58, 58] = true then (if simpleN (l.drop 2) = 0 then 0 else 2 + simpleN (l.drop 2) + moreF k (l.drop (2 + simpleN (l.drop 2)))) else 0
theorem moreF_eq : ∀ k (l : List UInt8), l.length ≤ k → moreF k l = moreN l := by
  intro k
  induction k with
  | zero =>
    intro l h
    obtain rfl := List.length_eq_zero_iff.1 (show l.length = 0 by omega)
    rw [moreN_miss _ rfl]; rfl
  | succ k ih =>
    intro l hl
    rw [moreF]
    cases hp : Lib.hasPrefix l [58, 58]
    · rw [if_neg (by simp), moreN_miss l hp]
    · rw [if_pos rfl]
      by_cases h0 : simpleN (l.drop 2) = 0
      · rw [if_pos h0, moreN_none l hp h0]
      · have h2 := Lib.hasPrefix_le hp
        simp only [List.length_cons, List.length_nil] at h2
        rw [if_neg h0, moreN_hit l _ hp rfl h0, ih _ (by rw [List.length_drop]; omega)]
def wordF (l : List UInt8) : Nat := if simpleN l = 0 then 0 else simpleN l + moreF l.length (l.drop (simpleN l))
theorem wordF_eq (l : List UInt8) : wordF l = wordN l := by
  unfold wordF wordN
  rw [moreF_eq _ _ (by rw [List.length_drop]; omega)]
theorem wordF_fun : wordF = wordN := funext wordF_eq
def linesF : Nat → List UInt8 → Nat
  | 0, l => l.length
  | k + 1, l => if Lib.indexByte l 10 < 0 then l.length
    else if (!oddB (l.take (Lib.indexByte l 10).toNat) && !oddB (Lib.trimSuffix (l.take (Lib.indexByte l 10).toNat) [13])) = true then (Lib.indexByte l 10).toNat
    else (Lib.indexByte l 10).toNat + 1 + linesF k (l.drop ((Lib.indexByte l 10).toNat + 1))
theorem linesF_eq : ∀ k (l : List UInt8), l.length ≤ k → linesF k l = linesN l := by
  intro k
  induction k with
  | zero =>
    intro l h
    obtain rfl := List.length_eq_zero_iff.1 (show l.length = 0 by omega)
    rw [linesN_none _ (by decide)]; rfl
  | succ k ih =>
    intro l hl
    rw [linesF]
    rcases nl_cases l with h0 | ⟨j, hj, hjl⟩
    · rw [if_pos h0, linesN_none l h0]
    · have e : (Lib.indexByte l 10).toNat = j := by omega
      rw [if_neg (by omega), e]
      cases h2 : (!oddB (l.take j) && !oddB (Lib.trimSuffix (l.take j) [13]))
      · rw [if_neg (by simp), linesN_more l j hj h2, ih _ (by rw [List.length_drop]; omega)]
      · rw [if_pos rfl, linesN_end l j hj h2]
def noteF (l : List UInt8) : Nat := match l with
  | [] => 0
  | b :: r => if b == 35 then linesF (b :: r).length (b :: r) else 0
theorem noteF_eq (l : List UInt8) : noteF l = noteN l := by
  match l with
  | [] => rfl
  | b :: r =>
    show (if b == 35 then linesF (b :: r).length (b :: r) else 0) = if b == 35 then linesN (b :: r) else 0
    rw [linesF_eq _ _ (Nat.le_refl _)]
def pieceF : Nat → List UInt8 → Nat
  | 0, _ => 0
  | k + 1, l => match l with
    | [] => 0
    | b :: r => if isQS b = false then 1 + pieceF k r else if escN (b :: r) = 0 then 0 else escN (b :: r) + pieceF k ((b :: r).drop (escN (b :: r)))
theorem pieceF_eq : ∀ k (l : List UInt8), l.length ≤ k → pieceF k l = pieceN l := by
  intro k
  induction k with
  | zero =>
    intro l h
    obtain rfl := List.length_eq_zero_iff.1 (show l.length = 0 by omega)
    rw [piece_nil]; rfl
  | succ k ih =>
    intro l hl
    match l, hl with
    | [], _ => rw [piece_nil]; rfl
    | b :: r, hl =>
      rw [pieceF]
      simp only [List.length_cons] at hl
      cases hq : isQS b
      · rw [if_pos rfl, piece_plain b r hq, ih r (by omega)]
      · rw [if_neg (by simp)]
        by_cases he : escN (b :: r) = 0
        · rw [if_pos he, piece_stop b r hq he]
        · rw [if_neg he, piece_esc _ he, ih _ (by rw [List.length_drop, List.length_cons]; omega)]
/-- the nine kinds, and how many bytes of each stand at the front -/
def kindsL (l : List UInt8) : List (Nat × Nat) := [(1, runOf isBlank l), (2, noteF l), (3, wordF l), (4, behindN 46 simpleN l), (5, behindN 36 wordF l), (12, behindN 64 (runOf isPart) l), (6, numberN l), (7, quoteN l), (13, operN l)]
def outM (ks : List (Nat × Nat)) (l : List UInt8) (st : List Nat) : Step5 := match ks.find? (fun x => decide (0 < x.2)) with
  | none => (0, 0, st, false, 11)
  | some x => ((brkN st x.1 (l.take x.2)).2.1, x.2, (brkN st x.1 (l.take x.2)).1, (brkN st x.1 (l.take x.2)).2.2 || (x.1 == 7), 0)
theorem kinds_eq (l : List UInt8) : triesL.map (fun x => (x.1, x.2.2 l)) = kindsL l := by
  unfold kindsL
  rw [wordF_fun, noteF_eq]; rfl
theorem outM_eq (l : List UInt8) (st : List Nat) : outN l st = outM (kindsL l) l st := by
  rw [← kinds_eq]
  unfold outN outM
  rw [List.find?_map]
  rw [show ((fun x : Nat × Nat => decide (0 < x.2)) ∘ fun x : Nat × Nat × (List UInt8 → Nat) => (x.1, x.2.2 l)) = fun x => decide (0 < x.2.2 l) from rfl]
  cases triesL.find? (fun x => decide (0 < x.2.2 l)) <;> rfl
def insF (l : List UInt8) (st : List Nat) : Step5 :=
  if 0 < pieceF l.length l then (8, pieceF l.length l, st, true, 0)
  else if l[0]? = some 34 then (11, 1, st, false, 0)
  else if Lib.hasPrefix l [92, 40] = false then (0, 0, st, true, 12)
  else if 256 ≤ st.length then (0, 0, st, true, 21)
  else (9, 2, 0 :: st, false, 0)
theorem insF_eq (l : List UInt8) (st : List Nat) : insF l st = insN l st := by
  unfold insF insN
  rw [pieceF_eq _ _ (Nat.le_refl _)]
def stepF (l : List UInt8) (st : List Nat) (inn : Bool) : Step5 := if inn then insF l st else outM (kindsL l) l st
theorem stepF_eq (l : List UInt8) (st : List Nat) (inn : Bool) : stepF l st inn = stepN l st inn := by
  unfold stepF stepN
  rw [insF_eq, outM_eq]
def lexF : Nat → List UInt8 → Nat → List Nat → Bool → List (Nat × Nat × Nat) × Nat × Nat
  | 0, _, at', _, _ => ([], 99, at')
  | fuel + 1, l, at', st, inn =>
    if l.length ≤ at' then ([], (if inn || !st.isEmpty then 13 else 0), at')
    else match stepF (l.drop at') st inn with
      | (k, n, st2, inn2, 0) => ((k, at', n) :: (lexF fuel l (at' + n) st2 inn2).1, (lexF fuel l (at' + n) st2 inn2).2)
      | (_, _, _, _, e + 1) => ([], e + 1, at')
theorem lexF_eq : ∀ k (l : List UInt8) at' st inn, lexF k l at' st inn = lexN k l at' st inn
  | 0, _, _, _, _ => rfl
  | k + 1, l, at', st, inn => by
    rw [lexF, lexN, stepF_eq]
    split
    · rfl
    · generalize stepN (l.drop at') st inn = r
      obtain ⟨kd, n, st2, inn2, er⟩ := r
      cases er with
      | zero =>
        show ((kd, at', n) :: (lexF k l (at' + n) st2 inn2).1, (lexF k l (at' + n) st2 inn2).2) = _
        rw [lexF_eq k]
      | succ e => rfl

theorem tokens_at {s : ByteArray} {ys : List Tok3} {er at' : Nat} (h1 : s.size ≤ 65536) (hu : Utf s.data.toList) (h : lexN (s.size + 1) s.data.toList 0 [] false = (ys, er, at')) : tokensN s = if er = 0 then (ys, 0, 0) else ([], er, (at' : Int)) := by
  unfold tokensN
  rw [if_neg (by omega), if_neg (by rw [check_of hu]; omega), h]
/-- the cells of a list of tokens -/
theorem row_cells {w : World} {base g n cap : Nat} {e : TypeId} {size : Nat} {xs : List Value} (h : w.ownsRow base e size (.slice (some ⟨g, 0, none⟩) n cap) n xs) (j : Nat) {u : Value} (hx : xs[j]? = some u) : w.cell? ⟨g, j, none⟩ = some u := by
  have h2 := h.cells (g := g) rfl j u hx
  rwa [show (⟨g, 0, none⟩ : Addr).add j = ⟨g, j, none⟩ by unfold Addr.add; split <;> simp_all] at h2
def ex1 : List UInt8 := [46, 97, 124, 34, 120, 92, 40, 49, 41, 34]
theorem ex1_run : lexN 11 ex1 0 [] false = ([(4, 0, 2), (13, 2, 1), (7, 3, 1), (8, 4, 1), (9, 5, 2), (6, 7, 1), (10, 8, 1), (11, 9, 1)], 0, 10) := by
  rw [← lexF_eq]; decide +kernel
theorem ex2_run : lexN 4 [49, 32, 126] 0 [] false = ([(6, 0, 1), (1, 1, 1)], 11, 2) := by
  rw [← lexF_eq]; decide +kernel
theorem ex1_told : tokensN ⟨ex1.toArray⟩ = ([(4, 0, 2), (13, 2, 1), (7, 3, 1), (8, 4, 1), (9, 5, 2), (6, 7, 1), (10, 8, 1), (11, 9, 1)], 0, 0) :=
  tokens_at (s := ⟨ex1.toArray⟩) (by decide) (utf_ascii (by decide)) ex1_run
theorem ex2_told : tokensN ⟨#[49, 32, 126]⟩ = ([], 11, 2) :=
  tokens_at (s := ⟨#[49, 32, 126]⟩) (by decide) (utf_ascii (by decide)) ex2_run
end Go.Proofs.YtfaocpcbejgfjaaDoor
