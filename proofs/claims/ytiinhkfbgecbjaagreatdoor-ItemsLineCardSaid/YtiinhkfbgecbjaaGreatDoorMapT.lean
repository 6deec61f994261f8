/- Plain laws on a map whose keys are structs, written out entry by entry: what a look-up finds, and what a store at a new key leaves. Conditions: how two keys compare, each law names them. -/
import Derived.WalkKit
import Derived.RangeFuncNested
namespace Go.Sub
set_option linter.unusedSimpArgs false
set_option linter.unusedVariables false
open Go.RowKit

variable {α : Type}
/-- the entries of a map: keys, values, in the order in which they came -/
def entsT (kv : α → Value) : Nat → List (α × Value) → List MapEntry
  | _, [] => []
  | i, (k, v) :: r => { key := kv k, val := v, born := i } :: entsT kv (i + 1) r
theorem entsT_snoc (kv : α → Value) (k : α) (v : Value) : ∀ (kvs : List (α × Value)) (i : Nat), entsT kv i (kvs ++ [(k, v)]) = entsT kv i kvs ++ [{ key := kv k, val := v, born := i + kvs.length }]
  | [], i => by simp [entsT]
  | (a, b) :: r, i => by simp [entsT, entsT_snoc kv k v r, Nat.add_assoc, Nat.add_comm 1]
def mapObjT (kv : α → Value) (kvs : List (α × Value)) : Obj := .map (entsT kv 0 kvs).toArray kvs.length
def lookT [DecidableEq α] : List (α × Value) → α → Option Value
  | [], _ => none
  | (k, v) :: r, s => if s = k then some v else lookT r s
theorem lookT_mem [DecidableEq α] : ∀ {kvs : List (α × Value)} {a : α} {v : Value}, lookT kvs a = some v → (a, v) ∈ kvs
  | [], _, _, h => by cases h
  | (k, u) :: r, a, v, h => by
    unfold lookT at h
    by_cases hk : a = k
    · rw [if_pos hk] at h; cases h; rw [hk]; exact List.mem_cons_self
    · rw [if_neg hk] at h; exact List.mem_cons_of_mem _ (lookT_mem h)

section
variable [DecidableEq α] {P : Program} {w : World} {b t k e : Nat} {kv : α → Value}
theorem run_askT (heq : ∀ a c w, (Op.equal k (kv a) (kv c)).run P w = .ok (decide (a = c)) w) (a : α) (w : World) : ∀ (kvs : List (α × Value)) (i j : Nat),
    match lookT kvs a with
    | none => (Instr.findAsking k (kv a) (entsT kv i kvs) j).run P w = .ok none w
    | some v => ∃ q, (Instr.findAsking k (kv a) (entsT kv i kvs) j).run P w = .ok (some (q, v)) w
  | [], i, j => by simp [lookT, entsT, Instr.findAsking]
  | (c, v) :: r, i, j => by
    have ih := run_askT heq a w r (i + 1) (j + 1)
    unfold lookT
    by_cases h : a = c
    · rw [if_pos h]
      exact ⟨j, by simp [entsT, Instr.findAsking, heq, h]⟩
    · rw [if_neg h]
      have hs : (Instr.findAsking k (kv a) (entsT kv i ((c, v) :: r)) j).run P w = (Instr.findAsking k (kv a) (entsT kv (i + 1) r) (j + 1)).run P w := by simp [entsT, Instr.findAsking, heq, h]
      rw [hs]
      exact ih
theorem run_findT {d : TypeDesc} (hk : P.underlying k = some d) (hn : ∀ a c, Instr.sameNow d (kv a) (kv c) = none) (heq : ∀ a c w, (Op.equal k (kv a) (kv c)).run P w = .ok (decide (a = c)) w) (a : α) (w : World) (kvs : List (α × Value)) :
    match lookT kvs a with
    | none => (Instr.findKey k (kv a) (entsT kv 0 kvs)).run P w = .ok none w
    | some v => ∃ q, (Instr.findKey k (kv a) (entsT kv 0 kvs)).run P w = .ok (some (q, v)) w := by
  have h := run_askT heq a w kvs 0 0
  unfold Instr.findKey
  match kvs, h with
  | [], _ => simp [lookT, entsT, Instr.findNow, run_underlying hk, Result.andThen]
  | (c, v) :: r, h =>
    have hf : Instr.findNow d (kv a) (entsT kv 0 ((c, v) :: r)) 0 = none := by simp only [entsT, Instr.findNow, hn]
    simp only [Sem.run_bind, run_underlying hk, Result.andThen_ok, hf]
    exact h
/-- **A LOOK-UP.** -/
theorem run_lookupT {d : TypeDesc} (ht : P.underlying t = some (.map k e)) (hk : P.underlying k = some d) (hn : ∀ a c, Instr.sameNow d (kv a) (kv c) = none) (heq : ∀ a c w, (Op.equal k (kv a) (kv c)).run P w = .ok (decide (a = c)) w)
    (hck : ∀ em a w, (Instr.checkKey em 10000 k (kv a)).run P w = .ok () w) {z : Value} (hz : (zeroValue e).run P w = .ok z w) {kvs : List (α × Value)} (hb : w.heap[b]? = some (mapObjT kv kvs)) (a : α) (c : Bool) :
    (Instr.lookup t (.map (some b)) (kv a) c).run P w = .ok (if c then .tuple #[(lookT kvs a).getD z, .bool (lookT kvs a).isSome] else (lookT kvs a).getD z) w := by
  unfold mapObjT at hb
  have hf := run_findT hk hn heq a w kvs
  unfold Instr.lookup
  cases h : lookT kvs a with
  | none =>
    rw [h] at hf
    simp [run_underlying ht, MapKept.run_getObj_map hb, hck, hf, hz, Result.andThen]
  | some v =>
    rw [h] at hf
    obtain ⟨q, hf⟩ := hf
    simp [run_underlying ht, MapKept.run_getObj_map hb, hck, hf, Result.andThen]
/-- **A STORE AT A NEW KEY.** -/
theorem run_storeT {d : TypeDesc} (ht : P.underlying t = some (.map k e)) (hk : P.underlying k = some d) (hn : ∀ a c, Instr.sameNow d (kv a) (kv c) = none) (heq : ∀ a c w, (Op.equal k (kv a) (kv c)).run P w = .ok (decide (a = c)) w)
    (hck : ∀ em a w, (Instr.checkKey em 10000 k (kv a)).run P w = .ok () w) {kvs : List (α × Value)} (hb : w.heap[b]? = some (mapObjT kv kvs)) (a : α) (h : lookT kvs a = none) (v : Value) :
    (Instr.mapUpdate t (.map (some b)) (kv a) v).run P w = .ok () (w.putObj b (mapObjT kv (kvs ++ [(a, v)]))) := by
  have hf := run_findT hk hn heq a w kvs
  rw [h] at hf
  unfold mapObjT at hb
  unfold Instr.mapUpdate
  simp [run_underlying ht, MapKept.run_getObj_map hb, hck, hf, MapKept.run_setObj_map _ hb, Result.andThen, World.putObj, mapObjT, entsT_snoc]
end
end Go.Sub
