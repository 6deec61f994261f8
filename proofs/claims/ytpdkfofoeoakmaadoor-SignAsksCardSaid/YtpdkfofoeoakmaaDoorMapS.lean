/- Plain laws on a map that has strings as keys, written out entry by entry: what a look-up finds, and what a store leaves. No condition but those that each law names. -/
import Derived.WalkKit
import Derived.RangeFuncNested
namespace Go.Sub
open Go.RowKit

/-- the entries of a map: keys, values, in the order in which they came -/
def entsFrom : Nat → List (ByteArray × Value) → List MapEntry
  | _, [] => []
  | i, (k, v) :: r => { key := .string k, val := v, born := i } :: entsFrom (i + 1) r
theorem entsFrom_length : ∀ (kvs : List (ByteArray × Value)) (i : Nat), (entsFrom i kvs).length = kvs.length
  | [], _ => rfl
  | (_, _) :: r, i => by simp [entsFrom, entsFrom_length r]
theorem entsFrom_snoc (k : ByteArray) (v : Value) : ∀ (kvs : List (ByteArray × Value)) (i : Nat), entsFrom i (kvs ++ [(k, v)]) = entsFrom i kvs ++ [{ key := .string k, val := v, born := i + kvs.length }]
  | [], i => by simp [entsFrom]
  | (a, b) :: r, i => by simp [entsFrom, entsFrom_snoc k v r, Nat.add_assoc, Nat.add_comm 1]

def mapObj (kvs : List (ByteArray × Value)) : Obj := .map (entsFrom 0 kvs).toArray kvs.length

def lookS : List (ByteArray × Value) → ByteArray → Option Value
  | [], _ => none
  | (k, v) :: r, s => if k = s then some v else lookS r s

theorem findNow_none (s : ByteArray) : ∀ (kvs : List (ByteArray × Value)) (i j : Nat), lookS kvs s = none → Instr.findNow .string (.string s) (entsFrom i kvs) j = some none
  | [], _, _, _ => rfl
  | (k, v) :: r, i, j, h => by
    unfold lookS at h
    by_cases hk : k = s
    · rw [if_pos hk] at h; cases h
    · rw [if_neg hk] at h
      have hb : (s == k) = false := Bool.eq_false_iff.2 fun e => hk ((MapKept.bytes_beq s k).1 e).symm
      simp only [entsFrom, Instr.findNow, Instr.sameNow, hb]
      exact findNow_none s r (i + 1) (j + 1) h
def idxS : List (ByteArray × Value) → ByteArray → Nat
  | [], _ => 0
  | (k, _) :: r, s => if k = s then 0 else idxS r s + 1
theorem findNow_some (s : ByteArray) (v : Value) : ∀ (kvs : List (ByteArray × Value)) (i j : Nat), lookS kvs s = some v → Instr.findNow .string (.string s) (entsFrom i kvs) j = some (some (j + idxS kvs s, v))
  | [], _, _, h => by cases h
  | (k, u) :: r, i, j, h => by
    unfold lookS at h
    by_cases hk : k = s
    · rw [if_pos hk] at h; cases h
      have hb : (s == k) = true := (MapKept.bytes_beq s k).2 hk.symm
      simp only [entsFrom, Instr.findNow, Instr.sameNow, hb, idxS, if_pos hk, Nat.add_zero]
    · rw [if_neg hk] at h
      have hb : (s == k) = false := Bool.eq_false_iff.2 fun e => hk ((MapKept.bytes_beq s k).1 e).symm
      simp only [entsFrom, Instr.findNow, Instr.sameNow, hb, idxS, if_neg hk]
      rw [findNow_some s v r (i + 1) (j + 1) h, show j + 1 + idxS r s = j + (idxS r s + 1) by omega]

/-- a store: at the key's place, or behind all -/
def putS : List (ByteArray × Value) → ByteArray → Value → List (ByteArray × Value)
  | [], s, v => [(s, v)]
  | (k, u) :: r, s, v => if k = s then (s, v) :: r else (k, u) :: putS r s v
theorem putS_none (s : ByteArray) (v : Value) : ∀ kvs : List (ByteArray × Value), lookS kvs s = none → putS kvs s v = kvs ++ [(s, v)]
  | [], _ => rfl
  | (k, u) :: r, h => by
    unfold lookS at h
    by_cases hk : k = s
    · rw [if_pos hk] at h; cases h
    · rw [if_neg hk] at h
      rw [putS, if_neg hk, putS_none s v r h]; rfl
theorem putS_length (s : ByteArray) (v u : Value) : ∀ kvs : List (ByteArray × Value), lookS kvs s = some u → (putS kvs s v).length = kvs.length
  | [], h => by cases h
  | (k, u') :: r, h => by
    unfold lookS at h
    by_cases hk : k = s
    · rw [putS, if_pos hk]; rfl
    · rw [if_neg hk] at h
      rw [putS, if_neg hk, List.length_cons, putS_length s v u r h]; rfl
theorem entsFrom_idx (s : ByteArray) (u : Value) : ∀ (kvs : List (ByteArray × Value)) (i : Nat), lookS kvs s = some u → ((entsFrom i kvs)[idxS kvs s]?).map (·.key) = some (.string s)
  | [], _, h => by cases h
  | (k, u') :: r, i, h => by
    unfold lookS at h
    by_cases hk : k = s
    · simp [idxS, entsFrom, hk]
    · rw [if_neg hk] at h
      simp only [idxS, if_neg hk, entsFrom, List.getElem?_cons_succ]
      exact entsFrom_idx s u r (i + 1) h
theorem entsFrom_put (s : ByteArray) (u v : Value) : ∀ (kvs : List (ByteArray × Value)) (i : Nat), lookS kvs s = some u → (entsFrom i kvs).modify (idxS kvs s) (fun e => { e with key := .string s, val := v }) = entsFrom i (putS kvs s v)
  | [], _, h => by cases h
  | (k, u') :: r, i, h => by
    unfold lookS at h
    by_cases hk : k = s
    · simp [idxS, if_pos hk, entsFrom, putS]
    · rw [if_neg hk] at h
      simp only [idxS, if_neg hk, entsFrom, putS, List.modify_succ_cons]
      rw [entsFrom_put s u v r (i + 1) h]

variable {P : Program} {w : World} {b t k e : Nat} {kvs : List (ByteArray × Value)}

theorem run_checkKey_string (hk : P.underlying k = some .string) (em : Bool) (s : ByteArray) (w : World) : (Instr.checkKey em 10000 k (.string s)).run P w = .ok () w := by
  unfold Instr.checkKey
  simp [run_underlying hk, Result.andThen]
theorem run_findKey_none (hk : P.underlying k = some .string) (s : ByteArray) (w : World) (h : lookS kvs s = none) : (Instr.findKey k (.string s) (entsFrom 0 kvs)).run P w = .ok none w := by
  unfold Instr.findKey
  simp [run_underlying hk, Result.andThen, findNow_none s kvs 0 0 h]
theorem run_findKey_some (hk : P.underlying k = some .string) (s : ByteArray) (v : Value) (w : World) (h : lookS kvs s = some v) : (Instr.findKey k (.string s) (entsFrom 0 kvs)).run P w = .ok (some (idxS kvs s, v)) w := by
  have hm := findNow_some s v kvs 0 0 h
  rw [Nat.zero_add] at hm
  unfold Instr.findKey
  simp [run_underlying hk, Result.andThen, hm]

/-- **A LOOK-UP.** -/
theorem run_lookup (ht : P.underlying t = some (.map k e)) (hk : P.underlying k = some .string) {z : Value} (hz : (zeroValue e).run P w = .ok z w) (hb : w.heap[b]? = some (mapObj kvs)) (s : ByteArray) (c : Bool) :
    (Instr.lookup t (.map (some b)) (.string s) c).run P w = .ok (if c then .tuple #[(lookS kvs s).getD z, .bool (lookS kvs s).isSome] else (lookS kvs s).getD z) w := by
  unfold mapObj at hb
  unfold Instr.lookup
  cases h : lookS kvs s with
  | none => simp [run_underlying ht, MapKept.run_getObj_map hb, run_checkKey_string hk, run_findKey_none hk s w h, hz, Result.andThen]
  | some v =>
    have hm := run_findKey_some hk s v w h
    simp [run_underlying ht, MapKept.run_getObj_map hb, run_checkKey_string hk, hm, Result.andThen]

theorem run_keyThatStays_string (s : ByteArray) (w : World) : (Instr.keyThatStays (.string s) (.string s)).run P w = .ok (.string s) w := by
  unfold Instr.keyThatStays
  have hb : (s == s) = true := (MapKept.bytes_beq s s).2 rfl
  simp [Instr.sameBits, hb]

/-- **A STORE.** -/
theorem run_mapUpdate (ht : P.underlying t = some (.map k e)) (hk : P.underlying k = some .string) (hb : w.heap[b]? = some (mapObj kvs)) (s : ByteArray) (v : Value) :
    (Instr.mapUpdate t (.map (some b)) (.string s) v).run P w = .ok () (w.putObj b (mapObj (putS kvs s v))) := by
  cases h : lookS kvs s with
  | none =>
    rw [putS_none s v kvs h]
    unfold mapObj at hb
    unfold Instr.mapUpdate
    simp [run_underlying ht, MapKept.run_getObj_map hb, run_checkKey_string hk, run_findKey_none hk s w h, MapKept.run_setObj_map _ hb, Result.andThen, World.putObj, mapObj, entsFrom_snoc]
  | some u =>
    unfold mapObj at hb
    unfold Instr.mapUpdate
    have hm := run_findKey_some hk s u w h
    have hi := entsFrom_idx s u kvs 0 h
    have hp := entsFrom_put s u v kvs 0 h
    have hl := putS_length s v u kvs h
    have hi' : ((entsFrom 0 kvs).toArray[idxS kvs s]?).map (·.key) = some (.string s) := by simpa using hi
    simp [run_underlying ht, MapKept.run_getObj_map hb, run_checkKey_string hk, hm, hi, run_keyThatStays_string, MapKept.run_setObj_map _ hb, Result.andThen, World.putObj, mapObj, hp, hl]
end Go.Sub
