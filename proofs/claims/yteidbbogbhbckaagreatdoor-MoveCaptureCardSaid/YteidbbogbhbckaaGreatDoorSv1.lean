/- The evaluator of translated Go, part 1: An evaluator of translated Go that the kernel runs: its definitions. · The evaluator: laws of its nodes, of numbers written out, of packed texts. · The evaluator: what a value, a heap, a row of temporaries stand for; what a step may change. · The evaluator: rows of cells. · The evaluator: numbers, texts, truths: operators. · The evaluator: operands; operations that need no heap. -/
import Derived.OrdersIn
import Derived.CallsIn
import Derived.RangeFuncIn
import Derived.Laws.World
import GoSem.Dispatch
import Derived.Laws.Concat
import Derived.Laws.Small
import Derived.Laws.Strings
import Derived.Orders
set_option linter.unusedVariables false
set_option linter.unusedSimpArgs false
noncomputable section
namespace Go.Ev
/-! ### nodes of sixteen -/
inductive D16 where
  | d0 | d1 | d2 | d3 | d4 | d5 | d6 | d7 | d8 | d9 | d10 | d11 | d12 | d13 | d14 | d15
  deriving DecidableEq
def dig (k : Nat) : D16 := k.rec .d0 fun k _ => k.rec .d1 fun k _ => k.rec .d2 fun k _ => k.rec .d3 fun k _ => k.rec .d4 fun k _ => k.rec .d5 fun k _ => k.rec .d6 fun k _ => k.rec .d7 fun k _ => k.rec .d8 fun k _ => k.rec .d9 fun k _ => k.rec .d10 fun k _ => k.rec .d11 fun k _ => k.rec .d12 fun k _ => k.rec .d13 fun k _ => k.rec .d14 fun k _ => .d15
inductive N (α : Type) where
  | mk (x0 x1 x2 x3 x4 x5 x6 x7 x8 x9 x10 x11 x12 x13 x14 x15 : α)
def N.g0 {α : Type} (t : N α) : α := t.rec fun x0 x1 x2 x3 x4 x5 x6 x7 x8 x9 x10 x11 x12 x13 x14 x15 => x0
def N.s0 {α : Type} (v : α) (t : N α) : N α := t.rec fun x0 x1 x2 x3 x4 x5 x6 x7 x8 x9 x10 x11 x12 x13 x14 x15 => .mk v x1 x2 x3 x4 x5 x6 x7 x8 x9 x10 x11 x12 x13 x14 x15
def N.g1 {α : Type} (t : N α) : α := t.rec fun x0 x1 x2 x3 x4 x5 x6 x7 x8 x9 x10 x11 x12 x13 x14 x15 => x1
def N.s1 {α : Type} (v : α) (t : N α) : N α := t.rec fun x0 x1 x2 x3 x4 x5 x6 x7 x8 x9 x10 x11 x12 x13 x14 x15 => .mk x0 v x2 x3 x4 x5 x6 x7 x8 x9 x10 x11 x12 x13 x14 x15
def N.g2 {α : Type} (t : N α) : α := t.rec fun x0 x1 x2 x3 x4 x5 x6 x7 x8 x9 x10 x11 x12 x13 x14 x15 => x2
def N.s2 {α : Type} (v : α) (t : N α) : N α := t.rec fun x0 x1 x2 x3 x4 x5 x6 x7 x8 x9 x10 x11 x12 x13 x14 x15 => .mk x0 x1 v x3 x4 x5 x6 x7 x8 x9 x10 x11 x12 x13 x14 x15
def N.g3 {α : Type} (t : N α) : α := t.rec fun x0 x1 x2 x3 x4 x5 x6 x7 x8 x9 x10 x11 x12 x13 x14 x15 => x3
def N.s3 {α : Type} (v : α) (t : N α) : N α := t.rec fun x0 x1 x2 x3 x4 x5 x6 x7 x8 x9 x10 x11 x12 x13 x14 x15 => .mk x0 x1 x2 v x4 x5 x6 x7 x8 x9 x10 x11 x12 x13 x14 x15
def N.g4 {α : Type} (t : N α) : α := t.rec fun x0 x1 x2 x3 x4 x5 x6 x7 x8 x9 x10 x11 x12 x13 x14 x15 => x4
def N.s4 {α : Type} (v : α) (t : N α) : N α := t.rec fun x0 x1 x2 x3 x4 x5 x6 x7 x8 x9 x10 x11 x12 x13 x14 x15 => .mk x0 x1 x2 x3 v x5 x6 x7 x8 x9 x10 x11 x12 x13 x14 x15
def N.g5 {α : Type} (t : N α) : α := t.rec fun x0 x1 x2 x3 x4 x5 x6 x7 x8 x9 x10 x11 x12 x13 x14 x15 => x5
def N.s5 {α : Type} (v : α) (t : N α) : N α := t.rec fun x0 x1 x2 x3 x4 x5 x6 x7 x8 x9 x10 x11 x12 x13 x14 x15 => .mk x0 x1 x2 x3 x4 v x6 x7 x8 x9 x10 x11 x12 x13 x14 x15
def N.g6 {α : Type} (t : N α) : α := t.rec fun x0 x1 x2 x3 x4 x5 x6 x7 x8 x9 x10 x11 x12 x13 x14 x15 => x6
def N.s6 {α : Type} (v : α) (t : N α) : N α := t.rec fun x0 x1 x2 x3 x4 x5 x6 x7 x8 x9 x10 x11 x12 x13 x14 x15 => .mk x0 x1 x2 x3 x4 x5 v x7 x8 x9 x10 x11 x12 x13 x14 x15
def N.g7 {α : Type} (t : N α) : α := t.rec fun x0 x1 x2 x3 x4 x5 x6 x7 x8 x9 x10 x11 x12 x13 x14 x15 => x7
def N.s7 {α : Type} (v : α) (t : N α) : N α := t.rec fun x0 x1 x2 x3 x4 x5 x6 x7 x8 x9 x10 x11 x12 x13 x14 x15 => .mk x0 x1 x2 x3 x4 x5 x6 v x8 x9 x10 x11 x12 x13 x14 x15
def N.g8 {α : Type} (t : N α) : α := t.rec fun x0 x1 x2 x3 x4 x5 x6 x7 x8 x9 x10 x11 x12 x13 x14 x15 => x8
def N.s8 {α : Type} (v : α) (t : N α) : N α := t.rec fun x0 x1 x2 x3 x4 x5 x6 x7 x8 x9 x10 x11 x12 x13 x14 x15 => .mk x0 x1 x2 x3 x4 x5 x6 x7 v x9 x10 x11 x12 x13 x14 x15
def N.g9 {α : Type} (t : N α) : α := t.rec fun x0 x1 x2 x3 x4 x5 x6 x7 x8 x9 x10 x11 x12 x13 x14 x15 => x9
def N.s9 {α : Type} (v : α) (t : N α) : N α := t.rec fun x0 x1 x2 x3 x4 x5 x6 x7 x8 x9 x10 x11 x12 x13 x14 x15 => .mk x0 x1 x2 x3 x4 x5 x6 x7 x8 v x10 x11 x12 x13 x14 x15
def N.g10 {α : Type} (t : N α) : α := t.rec fun x0 x1 x2 x3 x4 x5 x6 x7 x8 x9 x10 x11 x12 x13 x14 x15 => x10
def N.s10 {α : Type} (v : α) (t : N α) : N α := t.rec fun x0 x1 x2 x3 x4 x5 x6 x7 x8 x9 x10 x11 x12 x13 x14 x15 => .mk x0 x1 x2 x3 x4 x5 x6 x7 x8 x9 v x11 x12 x13 x14 x15
def N.g11 {α : Type} (t : N α) : α := t.rec fun x0 x1 x2 x3 x4 x5 x6 x7 x8 x9 x10 x11 x12 x13 x14 x15 => x11
def N.s11 {α : Type} (v : α) (t : N α) : N α := t.rec fun x0 x1 x2 x3 x4 x5 x6 x7 x8 x9 x10 x11 x12 x13 x14 x15 => .mk x0 x1 x2 x3 x4 x5 x6 x7 x8 x9 x10 v x12 x13 x14 x15
def N.g12 {α : Type} (t : N α) : α := t.rec fun x0 x1 x2 x3 x4 x5 x6 x7 x8 x9 x10 x11 x12 x13 x14 x15 => x12
def N.s12 {α : Type} (v : α) (t : N α) : N α := t.rec fun x0 x1 x2 x3 x4 x5 x6 x7 x8 x9 x10 x11 x12 x13 x14 x15 => .mk x0 x1 x2 x3 x4 x5 x6 x7 x8 x9 x10 x11 v x13 x14 x15
def N.g13 {α : Type} (t : N α) : α := t.rec fun x0 x1 x2 x3 x4 x5 x6 x7 x8 x9 x10 x11 x12 x13 x14 x15 => x13
def N.s13 {α : Type} (v : α) (t : N α) : N α := t.rec fun x0 x1 x2 x3 x4 x5 x6 x7 x8 x9 x10 x11 x12 x13 x14 x15 => .mk x0 x1 x2 x3 x4 x5 x6 x7 x8 x9 x10 x11 x12 v x14 x15
def N.g14 {α : Type} (t : N α) : α := t.rec fun x0 x1 x2 x3 x4 x5 x6 x7 x8 x9 x10 x11 x12 x13 x14 x15 => x14
def N.s14 {α : Type} (v : α) (t : N α) : N α := t.rec fun x0 x1 x2 x3 x4 x5 x6 x7 x8 x9 x10 x11 x12 x13 x14 x15 => .mk x0 x1 x2 x3 x4 x5 x6 x7 x8 x9 x10 x11 x12 x13 v x15
def N.g15 {α : Type} (t : N α) : α := t.rec fun x0 x1 x2 x3 x4 x5 x6 x7 x8 x9 x10 x11 x12 x13 x14 x15 => x15
def N.s15 {α : Type} (v : α) (t : N α) : N α := t.rec fun x0 x1 x2 x3 x4 x5 x6 x7 x8 x9 x10 x11 x12 x13 x14 x15 => .mk x0 x1 x2 x3 x4 x5 x6 x7 x8 x9 x10 x11 x12 x13 x14 v
def N.get {α : Type} (d : D16) : N α → α := d.rec N.g0 N.g1 N.g2 N.g3 N.g4 N.g5 N.g6 N.g7 N.g8 N.g9 N.g10 N.g11 N.g12 N.g13 N.g14 N.g15
def N.set {α : Type} (d : D16) : α → N α → N α := d.rec N.s0 N.s1 N.s2 N.s3 N.s4 N.s5 N.s6 N.s7 N.s8 N.s9 N.s10 N.s11 N.s12 N.s13 N.s14 N.s15
def N.all {α : Type} (x : α) : N α := .mk x x x x x x x x x x x x x x x x

/-! ### values: b truth; i, j numbers of a kind (n, and minus n minus one); r: a number below 256 of which the remainder is known; s texts, packed; z nil (0 pointer, 1 slice, 2 map, 3 function, 4 interface);
p a place; l a slice (block, place, length, cells of an element); m a map; f a function with what it bears; y the body of a range over a function; a many cells; t many values; c an interface's; k a slice that nobody turns any more (cells of an element, how many elements, all cells from its front on); q a place in such a one; un anything (it is not known what); nil, cons: lists -/
inductive V where
  | b (x : Bool)
  | i (k n : Nat)
  | j (k n : Nat)
  | r (k m r : Nat)
  | s (n len : Nat)
  | z (tag : Nat)
  | p (id off : Nat)
  | l (id off len es : Nat)
  | m (id : Nat)
  | f (fn : Nat) (first cap : V)
  | y (id : Nat)
  | a (n : Nat) (cells : V)
  | t (vals : V)
  | c (ty : Nat) (v : V)
  | k (es n : Nat) (cells : V)
  | q (cells : V)
  | un
  | nil
  | cons (x r : V)

abbrev T := N (N V)
def undefV : V := .t .nil
def Te : T := N.all (N.all undefV)
def getT (t : T) (n : Nat) : V := N.get (dig (Nat.mod n 16)) (N.get (dig (Nat.div n 16)) t)
def setT (t : T) (n : Nat) (v : V) : T := N.set (dig (Nat.div n 16)) (N.set (dig (Nat.mod n 16)) v (N.get (dig (Nat.div n 16)) t)) t

/-! ### the heap -/
inductive B where
  | cells (n : Nat) (l : V)
  | tab (n : Nat) (l : V)
  | map (es : V)
  | siter (s len : Nat) (pos : Nat)
  | loop (st : Nat) (pending : Option Code) (nt : Nat) (t : T) (ps : List Tmp) (assign body : Code)
  | dead
abbrev HT := N (N (N (N B)))
def HTe : HT := N.all (N.all (N.all (N.all .dead)))
def HT.get (t : HT) (k : Nat) : B := N.get (dig (Nat.mod k 16)) (N.get (dig (Nat.mod (Nat.div k 16) 16)) (N.get (dig (Nat.mod (Nat.div k 256) 16)) (N.get (dig (Nat.div k 4096)) t)))
def set1 (k : Nat) (b : B) (t : N B) : N B := N.set (dig (Nat.mod k 16)) b t
def set2 (k : Nat) (b : B) (t : N (N B)) : N (N B) := N.set (dig (Nat.mod (Nat.div k 16) 16)) (set1 k b (N.get (dig (Nat.mod (Nat.div k 16) 16)) t)) t
def set3 (k : Nat) (b : B) (t : N (N (N B))) : N (N (N B)) := N.set (dig (Nat.mod (Nat.div k 256) 16)) (set2 k b (N.get (dig (Nat.mod (Nat.div k 256) 16)) t)) t
def HT.set (t : HT) (k : Nat) (b : B) : HT := N.set (dig (Nat.div k 4096)) (set3 k b (N.get (dig (Nat.div k 4096)) t)) t
inductive H where
  | mk (next : Nat) (t : HT)

inductive Task where
  | call (f : FuncId) (args : V) (h : H)
  | code (rnd : Bool) (nt : Nat) (c : Code) (t : T) (h : H)
inductive Res where
  | val (v : V) (h : H)
  | nor (t : T) (h : H)
  | ret (t : T) (h : H)
  | exit (id : Nat) (t : T) (h : H)
abbrev R := Option Res
abbrev IH := Task → R
abbrev KV := V → R
abbrev KH := V → H → R
abbrev KT := T → H → R

def H.set (h : H) (id : Nat) (b : B) : H := h.rec fun n t => .mk n (t.set id b)
def H.getK (h : H) (id : Nat) (k : B → R) : R := h.rec fun _ t => k (t.get id)
/-- a new block: its number, and the heap with it -/
def H.new (h : H) (b : B) (k : Nat → H → R) : R := h.rec fun n t => n.rec none fun m _ => (Nat.blt m 65000).rec none (k (Nat.succ m) (.mk (Nat.succ (Nat.succ m)) (t.set (Nat.succ m) b)))
def ob {α β : Type} (x : Option α) (f : α → Option β) : Option β := x.rec none f
def bi (x : Bool) (y : R) : R := x.rec none y
/-- a number, written out -/
def force (n : Nat) (k : Nat → R) : R := n.rec (k 0) fun m _ => k (Nat.succ m)

/-! ### constants -/
def pk (l : List UInt8) : Nat := l.rec 0 fun x _ ih => Nat.add (UInt8.toNat x) (Nat.mul 256 ih)
def lenL {α : Type} (l : List α) : Nat := l.rec 0 fun _ _ ih => Nat.succ ih
def forceO {β : Type} (n : Nat) (k : Nat → β) : β := n.rec (k 0) fun m _ => k (Nat.succ m)
def mkS (n len : Nat) : Option V := forceO n fun n => forceO len fun l => some (.s n l)
def kindN (k : IntKind) : Nat := k.rec 0 1 2 3 4 5 6 7
def mkI (k : IntKind) (n : Int) : Option V := forceO (kindN k) fun k => n.rec (fun n => forceO n fun n => some (.i k n)) (fun n => forceO n fun n => some (.j k n))
def ofScalar (v : Value) : Option V := match v with
  | .bool b => some (.b b)
  | .int k n => mkI k n
  | .string s => mkS (pk s.data.toList) (lenL s.data.toList)
  | .pointer none => some (.z 0)
  | .slice none 0 0 => some (.z 1)
  | .map none => some (.z 2)
  | .nilFunc => some (.z 3)
  | .nilIface => some (.z 4)
  | _ => none
def ofScalars : List Value → Option V
  | [] => some .nil
  | v :: l => ob (ofScalar v) fun x => ob (ofScalars l) fun r => some (.cons x r)
def ofValue (v : Value) : Option V := match v with
  | .agg vs => ob (ofScalars vs.toList) fun l => forceO (lenL vs.toList) fun n => some (.a n l)
  | .tuple vs => match vs.toList with | [] => some undefV | _ => none
  | v => ofScalar v
/-! ### types -/
def aggT (P : Program) (t : TypeId) : Option Bool := match P.underlying t with
  | some (.struct _) | some (.array _ _) => some true
  | some _ => some false
  | none => none
def sizeT (P : Program) (t : TypeId) : Option Nat := (P.info? t).map (·.size)
/-- how great, and whether many cells -/
inductive Sh where | mk (n : Nat) (agg : Bool)
def shape (P : Program) (t : TypeId) : Option Sh := ob (aggT P t) fun b => ob (sizeT P t) fun n => forceO n fun n => b.rec (some (.mk n false)) (some (.mk n true))
def zeroT (P : Program) (t : TypeId) : Option V := ob (P.info? t) fun i => ob i.zero ofValue
def elemI (P : Program) (t : TypeId) : Option TypeId := match P.underlying t with | some (.slice e) => some e | _ => none
def elemT (P : Program) (t : TypeId) : Option Nat := ob (elemI P t) fun e => ob (sizeT P e) fun n => forceO n some
/-- the bytes of an element: few -/
def fewT (P : Program) (t : TypeId) : Bool := match elemI P t with | some e => (match P.info? e with | some i => Nat.ble 1 i.bytes && Nat.ble i.bytes 4096 | none => false) | none => false
def elemZ (P : Program) (t : TypeId) : Option V := ob (elemI P t) (zeroT P)
/-- arrays: how many, and the shape of each -/
inductive Ar where | mk (n es : Nat) (agg : Bool)
def arrT (P : Program) (t : TypeId) : Option Ar := match P.underlying t with | some (.array n e) => ob (shape P e) fun s => s.rec fun m b => forceO n fun n => some (.mk n m b) | _ => none
def strT (P : Program) (t : TypeId) : Bool := match P.underlying t with | some .string => true | _ => false
def mapI (P : Program) (t : TypeId) : Option (TypeId × TypeId) := match P.underlying t with | some (.map k e) => some (k, e) | _ => none
/-- keys are numbers or texts -/
def keyT (P : Program) (t : TypeId) : Bool := match P.underlying t with | some (.int _) | some .string => true | _ => false
def mapZ (P : Program) (t : TypeId) : Option V := ob (mapI P t) fun q => (keyT P q.1).rec none (zeroT P q.2)
def fieldT (P : Program) (t : TypeId) (f : Nat) : Option Ar := match P.underlying t with
  | some (.struct fs) => ob fs[f]? fun fd => ob (shape P fd.type) fun s => s.rec fun m b => forceO fd.offset fun o => some (.mk o m b)
  | _ => none

/-! ### rows -/
def cellsK (v : V) (k : Nat → V → R) : R := v.rec (fun _ => k 1 (.cons v .nil)) (fun _ _ => k 1 (.cons v .nil)) (fun _ _ => k 1 (.cons v .nil)) (fun _ _ _ => k 1 (.cons v .nil)) (fun _ _ => k 1 (.cons v .nil)) (fun _ => k 1 (.cons v .nil)) (fun _ _ => k 1 (.cons v .nil)) (fun _ _ _ _ => k 1 (.cons v .nil)) (fun _ => k 1 (.cons v .nil)) (fun _ _ _ _ _ => k 1 (.cons v .nil)) (fun _ => k 1 (.cons v .nil)) (fun n l _ => k n l) (fun _ _ => none) (fun _ _ _ => k 1 (.cons v .nil)) (fun _ _ _ _ => k 1 (.cons v .nil)) (fun _ _ => k 1 (.cons v .nil)) none none (fun _ _ _ _ => none)
def nthK (v : V) : Nat → KV → R := v.rec (fun _ => fun _ _ => none) (fun _ _ => fun _ _ => none) (fun _ _ => fun _ _ => none) (fun _ _ _ => fun _ _ => none) (fun _ _ => fun _ _ => none) (fun _ => fun _ _ => none) (fun _ _ => fun _ _ => none) (fun _ _ _ _ => fun _ _ => none) (fun _ => fun _ _ => none) (fun _ _ _ _ _ => fun _ _ => none) (fun _ => fun _ _ => none) (fun _ _ _ => fun _ _ => none) (fun _ _ => fun _ _ => none) (fun _ _ _ => fun _ _ => none) (fun _ _ _ _ => fun _ _ => none) (fun _ _ => fun _ _ => none) (fun _ _ => none) (fun _ _ => none) (fun x _ _ ih n k => n.rec (k x) fun n _ => ih n k)
def takeK (n : Nat) : V → KV → R := n.rec (fun _ k => k .nil) fun _ ih v k => v.rec (fun _ => none) (fun _ _ => none) (fun _ _ => none) (fun _ _ _ => none) (fun _ _ => none) (fun _ => none) (fun _ _ => none) (fun _ _ _ _ => none) (fun _ => none) (fun _ _ _ _ _ => none) (fun _ => none) (fun _ _ _ => none) (fun _ _ => none) (fun _ _ _ => none) (fun _ _ _ _ => none) (fun _ _ => none) none none (fun x r _ _ => ih r fun s => k (.cons x s))
def dropK (n : Nat) : V → KV → R := n.rec (fun v k => k v) fun _ ih v k => v.rec (fun _ => none) (fun _ _ => none) (fun _ _ => none) (fun _ _ _ => none) (fun _ _ => none) (fun _ => none) (fun _ _ => none) (fun _ _ _ _ => none) (fun _ => none) (fun _ _ _ _ _ => none) (fun _ => none) (fun _ _ _ => none) (fun _ _ => none) (fun _ _ _ => none) (fun _ _ _ _ => none) (fun _ _ => none) none none (fun _ r _ _ => ih r k)
def appV (w : V) (v : V) : V := v.rec (fun _ => w) (fun _ _ => w) (fun _ _ => w) (fun _ _ _ => w) (fun _ _ => w) (fun _ => w) (fun _ _ => w) (fun _ _ _ _ => w) (fun _ => w) (fun _ _ _ _ _ => w) (fun _ => w) (fun _ _ _ => w) (fun _ _ => w) (fun _ _ _ => w) (fun _ _ _ _ => w) (fun _ _ => w) w w (fun x _ _ ih => .cons x ih)
def lenV (v : V) : Nat := v.rec (fun _ => 0) (fun _ _ => 0) (fun _ _ => 0) (fun _ _ _ => 0) (fun _ _ => 0) (fun _ => 0) (fun _ _ => 0) (fun _ _ _ _ => 0) (fun _ => 0) (fun _ _ _ _ _ => 0) (fun _ => 0) (fun _ _ _ => 0) (fun _ _ => 0) (fun _ _ _ => 0) (fun _ _ _ _ => 0) (fun _ _ => 0) 0 0 (fun _ _ _ ih => Nat.succ ih)
def over0K (ys : V) : V → KV → R := ys.rec (fun _ => fun _ _ => none) (fun _ _ => fun _ _ => none) (fun _ _ => fun _ _ => none) (fun _ _ _ => fun _ _ => none) (fun _ _ => fun _ _ => none) (fun _ => fun _ _ => none) (fun _ _ => fun _ _ => none) (fun _ _ _ _ => fun _ _ => none) (fun _ => fun _ _ => none) (fun _ _ _ _ _ => fun _ _ => none) (fun _ => fun _ _ => none) (fun _ _ _ => fun _ _ => none) (fun _ _ => fun _ _ => none) (fun _ _ _ => fun _ _ => none) (fun _ _ _ _ => fun _ _ => none) (fun _ _ => fun _ _ => none) (fun _ _ => none) (fun l k => k l) (fun y _ _ ih l k => l.rec (fun _ => none) (fun _ _ => none) (fun _ _ => none) (fun _ _ _ => none) (fun _ _ => none) (fun _ => none) (fun _ _ => none) (fun _ _ _ _ => none) (fun _ => none) (fun _ _ _ _ _ => none) (fun _ => none) (fun _ _ _ => none) (fun _ _ => none) (fun _ _ _ => none) (fun _ _ _ _ => none) (fun _ _ => none) none none (fun _ r _ _ => ih r fun s => k (.cons y s)))
def overK (n : Nat) (ys : V) : V → KV → R := n.rec (over0K ys) fun _ ih l k => l.rec (fun _ => none) (fun _ _ => none) (fun _ _ => none) (fun _ _ _ => none) (fun _ _ => none) (fun _ => none) (fun _ _ => none) (fun _ _ _ _ => none) (fun _ => none) (fun _ _ _ _ _ => none) (fun _ => none) (fun _ _ _ => none) (fun _ _ => none) (fun _ _ _ => none) (fun _ _ _ _ => none) (fun _ _ => none) none none (fun x r _ _ => ih r fun s => k (.cons x s))
def cutK (l : V) (off n : Nat) (k : KV) : R := dropK off l fun r => takeK n r fun x => k (.a n x)
def wholeK (m : Nat) (l : V) (n : Nat) (k : KV) : R := (Nat.beq m n).rec (cutK l 0 n k) (k (.a n l))
/-- a part of a row of m cells -/
def partK (m : Nat) (l : V) (off n : Nat) (agg : Bool) (k : KV) : R := agg.rec (nthK l off k) (off.rec (wholeK m l n k) fun o _ => cutK l (Nat.succ o) n k)
def atK (h : H) (id : Nat) (k : Nat → V → R) : R := h.getK id fun b => b.rec k k (fun _ => none) (fun _ _ _ => none) (fun _ _ _ _ _ _ _ => none) none
def rowK (h : H) (id : Nat) (k : Nat → V → R) : R := h.getK id fun b => b.rec k (fun _ _ => none) (fun _ => none) (fun _ _ _ => none) (fun _ _ _ _ _ _ _ => none) none
def mapK (h : H) (id : Nat) (k : V → R) : R := h.getK id fun b => b.rec (fun _ _ => none) (fun _ _ => none) k (fun _ _ _ => none) (fun _ _ _ _ _ _ _ => none) none
def loadK (n : Nat) (agg : Bool) (h : H) (v : V) (k : KV) : R := v.rec (fun _ => none) (fun _ _ => none) (fun _ _ => none) (fun _ _ _ => none) (fun _ _ => none) (fun _ => none) (fun id off => atK h id fun m l => partK m l off n agg k) (fun _ _ _ _ => none) (fun _ => none) (fun _ _ _ _ _ => none) (fun _ => none) (fun _ _ _ => none) (fun _ _ => none) (fun _ _ _ => none) (fun _ _ _ _ => none) (fun xs _ => partK (lenV xs) xs 0 n agg k) none none (fun _ _ _ _ => none)
def storeO (h : H) (id off m : Nat) (l ys : V) (k : H → R) : R := overK off ys l fun r => k (h.set id (.cells m r))
def storeP (h : H) (n : Nat) (k : H → R) (q : Nat) (ys : V) (id off : Nat) : R := bi (Nat.beq q n) (rowK h id fun m l => off.rec ((Nat.beq m n).rec (storeO h id 0 m l ys k) (k (h.set id (.cells m ys)))) fun o _ => storeO h id (Nat.succ o) m l ys k)
/-- a cell of its own -/
def oneV1 (v : V) : Bool := v.rec (fun _ => true) (fun _ _ => true) (fun _ _ => true) (fun _ _ _ => true) (fun _ _ => true) (fun _ => true) (fun _ _ => true) (fun _ _ _ _ => true) (fun _ => true) (fun _ _ _ _ _ => true) (fun _ => true) (fun _ _ _ => false) (fun _ _ => false) (fun _ _ _ => true) (fun _ _ _ _ => true) (fun _ _ => true) false false (fun _ _ _ _ => false)
def ones (v : V) : Bool := v.rec (fun _ => false) (fun _ _ => false) (fun _ _ => false) (fun _ _ _ => false) (fun _ _ => false) (fun _ => false) (fun _ _ => false) (fun _ _ _ _ => false) (fun _ => false) (fun _ _ _ _ _ => false) (fun _ => false) (fun _ _ _ => false) (fun _ _ => false) (fun _ _ _ => false) (fun _ _ _ _ => false) (fun _ _ => false) false true (fun x _ _ ih => (oneV1 x).rec false ih)
/-- of how many cells -/
def cntV (v : V) : Nat := v.rec (fun _ => 1) (fun _ _ => 1) (fun _ _ => 1) (fun _ _ _ => 1) (fun _ _ => 1) (fun _ => 1) (fun _ _ => 1) (fun _ _ _ _ => 1) (fun _ => 1) (fun _ _ _ _ _ => 1) (fun _ => 1) (fun n _ _ => n) (fun _ _ => 1) (fun _ _ _ => 1) (fun _ _ _ _ => 1) (fun _ _ => 1) 1 1 (fun _ _ _ _ => 1)
/-- it is known what it is -/
def knV (v : V) : Bool := v.rec (fun _ => true) (fun _ _ => true) (fun _ _ => true) (fun _ _ _ => true) (fun _ _ => true) (fun _ => true) (fun _ _ => true) (fun _ _ _ _ => true) (fun _ => true) (fun _ _ _ _ _ => true) (fun _ => true) (fun _ _ _ => true) (fun _ _ => true) (fun _ _ _ => true) (fun _ _ _ _ => true) (fun _ _ => true) false true (fun _ _ _ _ => true)
def storeK (n : Nat) (h : H) (a v : V) (k : H → R) : R := cellsK v fun q ys => bi (ones ys) (a.rec (fun _ => none) (fun _ _ => none) (fun _ _ => none) (fun _ _ _ => none) (fun _ _ => none) (fun _ => none) (storeP h n k q ys) (fun _ _ _ _ => none) (fun _ => none) (fun _ _ _ _ _ => none) (fun _ => none) (fun _ _ _ => none) (fun _ _ => none) (fun _ _ _ => none) (fun _ _ _ _ => none) (fun _ _ => none) none none (fun _ _ _ _ => none))

/-! ### numbers -/
def topK (k : Nat) : Nat := k.rec 128 fun k _ => k.rec 32768 fun k _ => k.rec 2147483648 fun k _ => k.rec 9223372036854775808 fun k _ => k.rec 256 fun k _ => k.rec 65536 fun k _ => k.rec 4294967296 fun _ _ => 18446744073709551616
def lowK (k : Nat) : Nat := k.rec 128 fun k _ => k.rec 32768 fun k _ => k.rec 2147483648 fun k _ => k.rec 9223372036854775808 fun _ _ => 0
def posK (c m : Nat) (k : KV) : R := (Nat.blt m (topK c)).rec none (force m fun m => k (.i c m))
def negK (c m : Nat) (k : KV) : R := (Nat.blt m (lowK c)).rec none (force m fun m => k (.j c m))
def subN (c m n : Nat) (k : KV) : R := (Nat.ble n m).rec (negK c (Nat.pred (Nat.sub n m)) k) (posK c (Nat.sub m n) k)
def catK (n l : Nat) (k : KV) (m q : Nat) : R := (Nat.blt (Nat.add l q) 4294967296).rec none (force (Nat.add n (Nat.mul m (Nat.pow 256 l))) fun n => force (Nat.add l q) fun l => k (.s n l))
def addS (b : V) (k : KV) (n l : Nat) : R := b.rec (fun _ => none) (fun _ _ => none) (fun _ _ => none) (fun _ _ _ => none) (catK n l k) (fun _ => none) (fun _ _ => none) (fun _ _ _ _ => none) (fun _ => none) (fun _ _ _ _ _ => none) (fun _ => none) (fun _ _ _ => none) (fun _ _ => none) (fun _ _ _ => none) (fun _ _ _ _ => none) (fun _ _ => none) none none (fun _ _ _ _ => none)
def addK (a b : V) (k : KV) : R := a.rec (fun _ => none) (fun c m => b.rec (fun _ => none) (fun d n => bi (Nat.beq c d) (posK c (Nat.add m n) k)) (fun d n => bi (Nat.beq c d) (subN c m (Nat.succ n) k)) (fun _ _ _ => none) (fun _ _ => none) (fun _ => none) (fun _ _ => none) (fun _ _ _ _ => none) (fun _ => none) (fun _ _ _ _ _ => none) (fun _ => none) (fun _ _ _ => none) (fun _ _ => none) (fun _ _ _ => none) (fun _ _ _ _ => none) (fun _ _ => none) none none (fun _ _ _ _ => none)) (fun c m => b.rec (fun _ => none) (fun d n => bi (Nat.beq c d) (subN c n (Nat.succ m) k)) (fun d n => bi (Nat.beq c d) (negK c (Nat.succ (Nat.add m n)) k)) (fun _ _ _ => none) (fun _ _ => none) (fun _ => none) (fun _ _ => none) (fun _ _ _ _ => none) (fun _ => none) (fun _ _ _ _ _ => none) (fun _ => none) (fun _ _ _ => none) (fun _ _ => none) (fun _ _ _ => none) (fun _ _ _ _ => none) (fun _ _ => none) none none (fun _ _ _ _ => none)) (fun _ _ _ => none) (addS b k) (fun _ => none) (fun _ _ => none) (fun _ _ _ _ => none) (fun _ => none) (fun _ _ _ _ _ => none) (fun _ => none) (fun _ _ _ => none) (fun _ _ => none) (fun _ _ _ => none) (fun _ _ _ _ => none) (fun _ _ => none) none none (fun _ _ _ _ => none)
def subK (a b : V) (k : KV) : R := a.rec (fun _ => none) (fun c m => b.rec (fun _ => none) (fun d n => bi (Nat.beq c d) (subN c m n k)) (fun d n => bi (Nat.beq c d) (posK c (Nat.add m (Nat.succ n)) k)) (fun _ _ _ => none) (fun _ _ => none) (fun _ => none) (fun _ _ => none) (fun _ _ _ _ => none) (fun _ => none) (fun _ _ _ _ _ => none) (fun _ => none) (fun _ _ _ => none) (fun _ _ => none) (fun _ _ _ => none) (fun _ _ _ _ => none) (fun _ _ => none) none none (fun _ _ _ _ => none)) (fun c m => b.rec (fun _ => none) (fun d n => bi (Nat.beq c d) (negK c (Nat.add m n) k)) (fun d n => bi (Nat.beq c d) (subN c (Nat.succ n) (Nat.succ m) k)) (fun _ _ _ => none) (fun _ _ => none) (fun _ => none) (fun _ _ => none) (fun _ _ _ _ => none) (fun _ => none) (fun _ _ _ _ _ => none) (fun _ => none) (fun _ _ _ => none) (fun _ _ => none) (fun _ _ _ => none) (fun _ _ _ _ => none) (fun _ _ => none) none none (fun _ _ _ _ => none)) (fun _ _ _ => none) (fun _ _ => none) (fun _ => none) (fun _ _ => none) (fun _ _ _ _ => none) (fun _ => none) (fun _ _ _ _ _ => none) (fun _ => none) (fun _ _ _ => none) (fun _ _ => none) (fun _ _ _ => none) (fun _ _ _ _ => none) (fun _ _ => none) none none (fun _ _ _ _ => none)
def ltK (f : Nat → Nat → Bool) (ij ji : Bool) (a b : V) (k : KV) : R := a.rec (fun _ => none) (fun c m => b.rec (fun _ => none) (fun d n => bi (Nat.beq c d) (k (.b (f m n)))) (fun d n => bi (Nat.beq c d) (k (.b ij))) (fun _ _ _ => none) (fun _ _ => none) (fun _ => none) (fun _ _ => none) (fun _ _ _ _ => none) (fun _ => none) (fun _ _ _ _ _ => none) (fun _ => none) (fun _ _ _ => none) (fun _ _ => none) (fun _ _ _ => none) (fun _ _ _ _ => none) (fun _ _ => none) none none (fun _ _ _ _ => none)) (fun c m => b.rec (fun _ => none) (fun d n => bi (Nat.beq c d) (k (.b ji))) (fun d n => bi (Nat.beq c d) (k (.b (f n m)))) (fun _ _ _ => none) (fun _ _ => none) (fun _ => none) (fun _ _ => none) (fun _ _ _ _ => none) (fun _ => none) (fun _ _ _ _ _ => none) (fun _ => none) (fun _ _ _ => none) (fun _ _ => none) (fun _ _ _ => none) (fun _ _ _ _ => none) (fun _ _ => none) none none (fun _ _ _ _ => none)) (fun _ _ _ => none) (fun _ _ => none) (fun _ => none) (fun _ _ => none) (fun _ _ _ _ => none) (fun _ => none) (fun _ _ _ _ _ => none) (fun _ => none) (fun _ _ _ => none) (fun _ _ => none) (fun _ _ _ => none) (fun _ _ _ _ => none) (fun _ _ => none) none none (fun _ _ _ _ => none)
def natK (g : Nat → Nat → Nat → KV → R) (a b : V) (k : KV) : R := a.rec (fun _ => none) (fun c m => b.rec (fun _ => none) (fun d n => bi (Nat.beq c d) (g c m n k)) (fun _ _ => none) (fun _ _ _ => none) (fun _ _ => none) (fun _ => none) (fun _ _ => none) (fun _ _ _ _ => none) (fun _ => none) (fun _ _ _ _ _ => none) (fun _ => none) (fun _ _ _ => none) (fun _ _ => none) (fun _ _ _ => none) (fun _ _ _ _ => none) (fun _ _ => none) none none (fun _ _ _ _ => none)) (fun _ _ => none) (fun _ _ _ => none) (fun _ _ => none) (fun _ => none) (fun _ _ => none) (fun _ _ _ _ => none) (fun _ => none) (fun _ _ _ _ _ => none) (fun _ => none) (fun _ _ _ => none) (fun _ _ => none) (fun _ _ _ => none) (fun _ _ _ _ => none) (fun _ _ => none) none none (fun _ _ _ _ => none)
def remI (k : KV) (d n c m : Nat) : R := bi (Nat.beq c d) (n.rec none fun j _ => force (Nat.mod m (Nat.succ j)) fun q => k (.i c q))
def remR (k : KV) (d n c m r : Nat) : R := bi (Nat.beq c d) (bi (Nat.beq m n) (bi (Nat.blt 0 m) (k (.i c r))))
def remK (a b : V) (k : KV) : R := b.rec (fun _ => none) (fun d n => a.rec (fun _ => none) (remI k d n) (fun _ _ => none) (remR k d n) (fun _ _ => none) (fun _ => none) (fun _ _ => none) (fun _ _ _ _ => none) (fun _ => none) (fun _ _ _ _ _ => none) (fun _ => none) (fun _ _ _ => none) (fun _ _ => none) (fun _ _ _ => none) (fun _ _ _ _ => none) (fun _ _ => none) none none (fun _ _ _ _ => none)) (fun _ _ => none) (fun _ _ _ => none) (fun _ _ => none) (fun _ => none) (fun _ _ => none) (fun _ _ _ _ => none) (fun _ => none) (fun _ _ _ _ _ => none) (fun _ => none) (fun _ _ _ => none) (fun _ _ => none) (fun _ _ _ => none) (fun _ _ _ _ => none) (fun _ _ => none) none none (fun _ _ _ _ => none)
def nilV (a : V) : Option Bool := a.rec (fun _ => none) (fun _ _ => none) (fun _ _ => none) (fun _ _ _ => none) (fun _ _ => none) (fun _ => some true) (fun _ _ => some false) (fun _ _ _ _ => some false) (fun _ => some false) (fun _ _ _ _ _ => some false) (fun _ => none) (fun _ _ _ => none) (fun _ _ => none) (fun _ _ _ => none) (fun _ _ _ _ => none) (fun _ _ => none) none none (fun _ _ _ _ => none)
/-- the other is nil as well, of the same kind, or may be none -/
def nilEq (tag : Nat) (k : Bool → R) (a : V) : R := a.rec (fun _ => none) (fun _ _ => none) (fun _ _ => none) (fun _ _ _ => none) (fun _ _ => none) (fun t2 => bi (Nat.beq t2 tag) (k true)) (fun _ _ => bi (Nat.beq tag 0) (k false)) (fun _ _ _ _ => bi (Nat.beq tag 1) (k false)) (fun _ => bi (Nat.beq tag 2) (k false)) (fun _ _ _ _ _ => bi (Nat.beq tag 3) (k false)) (fun _ => none) (fun _ _ _ => none) (fun _ _ => none) (fun _ _ _ => none) (fun _ _ _ _ => bi (Nat.beq tag 1) (k false)) (fun _ _ => bi (Nat.beq tag 0) (k false)) none none (fun _ _ _ _ => none)
def inot (b : Bool) : Bool := b.rec true false
def eqBB (k : Bool → R) (x y : Bool) : R := x.rec (k (inot y)) (k y)
def eqSS (n l : Nat) (k : Bool → R) (m q : Nat) : R := (Nat.beq l q).rec (k false) (k (Nat.beq n m))
/-- by the type's class: 0 pointers, 1 slices, 2 maps, 3 functions, 5 truths; numbers and texts need none -/
def eqK (q : Nat) (a b : V) (k : Bool → R) : R := a.rec (fun x => b.rec (fun y => bi (Nat.beq q 5) (eqBB k x y)) (fun _ _ => none) (fun _ _ => none) (fun _ _ _ => none) (fun _ _ => none) (fun _ => none) (fun _ _ => none) (fun _ _ _ _ => none) (fun _ => none) (fun _ _ _ _ _ => none) (fun _ => none) (fun _ _ _ => none) (fun _ _ => none) (fun _ _ _ => none) (fun _ _ _ _ => none) (fun _ _ => none) none none (fun _ _ _ _ => none)) (fun c m => b.rec (fun _ => none) (fun d n => bi (Nat.beq c d) (k (Nat.beq m n))) (fun d n => bi (Nat.beq c d) (k false)) (fun _ _ _ => none) (fun _ _ => none) (fun _ => none) (fun _ _ => none) (fun _ _ _ _ => none) (fun _ => none) (fun _ _ _ _ _ => none) (fun _ => none) (fun _ _ _ => none) (fun _ _ => none) (fun _ _ _ => none) (fun _ _ _ _ => none) (fun _ _ => none) none none (fun _ _ _ _ => none)) (fun c m => b.rec (fun _ => none) (fun d n => bi (Nat.beq c d) (k false)) (fun d n => bi (Nat.beq c d) (k (Nat.beq m n))) (fun _ _ _ => none) (fun _ _ => none) (fun _ => none) (fun _ _ => none) (fun _ _ _ _ => none) (fun _ => none) (fun _ _ _ _ _ => none) (fun _ => none) (fun _ _ _ => none) (fun _ _ => none) (fun _ _ _ => none) (fun _ _ _ _ => none) (fun _ _ => none) none none (fun _ _ _ _ => none)) (fun _ _ _ => b.rec (fun _ => none) (fun _ _ => none) (fun _ _ => none) (fun _ _ _ => none) (fun _ _ => none) (fun tag => bi (Nat.beq tag q) (bi (Nat.blt tag 4) (nilEq tag k a))) (fun _ _ => none) (fun _ _ _ _ => none) (fun _ => none) (fun _ _ _ _ _ => none) (fun _ => none) (fun _ _ _ => none) (fun _ _ => none) (fun _ _ _ => none) (fun _ _ _ _ => none) (fun _ _ => none) none none (fun _ _ _ _ => none)) (fun n l => b.rec (fun _ => none) (fun _ _ => none) (fun _ _ => none) (fun _ _ _ => none) (eqSS n l k) (fun _ => none) (fun _ _ => none) (fun _ _ _ _ => none) (fun _ => none) (fun _ _ _ _ _ => none) (fun _ => none) (fun _ _ _ => none) (fun _ _ => none) (fun _ _ _ => none) (fun _ _ _ _ => none) (fun _ _ => none) none none (fun _ _ _ _ => none)) (fun _ => b.rec (fun _ => none) (fun _ _ => none) (fun _ _ => none) (fun _ _ _ => none) (fun _ _ => none) (fun tag => bi (Nat.beq tag q) (bi (Nat.blt tag 4) (nilEq tag k a))) (fun _ _ => none) (fun _ _ _ _ => none) (fun _ => none) (fun _ _ _ _ _ => none) (fun _ => none) (fun _ _ _ => none) (fun _ _ => none) (fun _ _ _ => none) (fun _ _ _ _ => none) (fun _ _ => none) none none (fun _ _ _ _ => none)) (fun _ _ => b.rec (fun _ => none) (fun _ _ => none) (fun _ _ => none) (fun _ _ _ => none) (fun _ _ => none) (fun tag => bi (Nat.beq tag q) (bi (Nat.blt tag 4) (nilEq tag k a))) (fun _ _ => none) (fun _ _ _ _ => none) (fun _ => none) (fun _ _ _ _ _ => none) (fun _ => none) (fun _ _ _ => none) (fun _ _ => none) (fun _ _ _ => none) (fun _ _ _ _ => none) (fun _ _ => none) none none (fun _ _ _ _ => none)) (fun _ _ _ _ => b.rec (fun _ => none) (fun _ _ => none) (fun _ _ => none) (fun _ _ _ => none) (fun _ _ => none) (fun tag => bi (Nat.beq tag q) (bi (Nat.blt tag 4) (nilEq tag k a))) (fun _ _ => none) (fun _ _ _ _ => none) (fun _ => none) (fun _ _ _ _ _ => none) (fun _ => none) (fun _ _ _ => none) (fun _ _ => none) (fun _ _ _ => none) (fun _ _ _ _ => none) (fun _ _ => none) none none (fun _ _ _ _ => none)) (fun _ => b.rec (fun _ => none) (fun _ _ => none) (fun _ _ => none) (fun _ _ _ => none) (fun _ _ => none) (fun tag => bi (Nat.beq tag q) (bi (Nat.blt tag 4) (nilEq tag k a))) (fun _ _ => none) (fun _ _ _ _ => none) (fun _ => none) (fun _ _ _ _ _ => none) (fun _ => none) (fun _ _ _ => none) (fun _ _ => none) (fun _ _ _ => none) (fun _ _ _ _ => none) (fun _ _ => none) none none (fun _ _ _ _ => none)) (fun _ _ _ _ _ => b.rec (fun _ => none) (fun _ _ => none) (fun _ _ => none) (fun _ _ _ => none) (fun _ _ => none) (fun tag => bi (Nat.beq tag q) (bi (Nat.blt tag 4) (nilEq tag k a))) (fun _ _ => none) (fun _ _ _ _ => none) (fun _ => none) (fun _ _ _ _ _ => none) (fun _ => none) (fun _ _ _ => none) (fun _ _ => none) (fun _ _ _ => none) (fun _ _ _ _ => none) (fun _ _ => none) none none (fun _ _ _ _ => none)) (fun _ => b.rec (fun _ => none) (fun _ _ => none) (fun _ _ => none) (fun _ _ _ => none) (fun _ _ => none) (fun tag => bi (Nat.beq tag q) (bi (Nat.blt tag 4) (nilEq tag k a))) (fun _ _ => none) (fun _ _ _ _ => none) (fun _ => none) (fun _ _ _ _ _ => none) (fun _ => none) (fun _ _ _ => none) (fun _ _ => none) (fun _ _ _ => none) (fun _ _ _ _ => none) (fun _ _ => none) none none (fun _ _ _ _ => none)) (fun _ _ _ => b.rec (fun _ => none) (fun _ _ => none) (fun _ _ => none) (fun _ _ _ => none) (fun _ _ => none) (fun tag => bi (Nat.beq tag q) (bi (Nat.blt tag 4) (nilEq tag k a))) (fun _ _ => none) (fun _ _ _ _ => none) (fun _ => none) (fun _ _ _ _ _ => none) (fun _ => none) (fun _ _ _ => none) (fun _ _ => none) (fun _ _ _ => none) (fun _ _ _ _ => none) (fun _ _ => none) none none (fun _ _ _ _ => none)) (fun _ _ => b.rec (fun _ => none) (fun _ _ => none) (fun _ _ => none) (fun _ _ _ => none) (fun _ _ => none) (fun tag => bi (Nat.beq tag q) (bi (Nat.blt tag 4) (nilEq tag k a))) (fun _ _ => none) (fun _ _ _ _ => none) (fun _ => none) (fun _ _ _ _ _ => none) (fun _ => none) (fun _ _ _ => none) (fun _ _ => none) (fun _ _ _ => none) (fun _ _ _ _ => none) (fun _ _ => none) none none (fun _ _ _ _ => none)) (fun _ _ _ => b.rec (fun _ => none) (fun _ _ => none) (fun _ _ => none) (fun _ _ _ => none) (fun _ _ => none) (fun tag => bi (Nat.beq tag q) (bi (Nat.blt tag 4) (nilEq tag k a))) (fun _ _ => none) (fun _ _ _ _ => none) (fun _ => none) (fun _ _ _ _ _ => none) (fun _ => none) (fun _ _ _ => none) (fun _ _ => none) (fun _ _ _ => none) (fun _ _ _ _ => none) (fun _ _ => none) none none (fun _ _ _ _ => none)) (fun _ _ _ _ => b.rec (fun _ => none) (fun _ _ => none) (fun _ _ => none) (fun _ _ _ => none) (fun _ _ => none) (fun tag => bi (Nat.beq tag q) (bi (Nat.blt tag 4) (nilEq tag k a))) (fun _ _ => none) (fun _ _ _ _ => none) (fun _ => none) (fun _ _ _ _ _ => none) (fun _ => none) (fun _ _ _ => none) (fun _ _ => none) (fun _ _ _ => none) (fun _ _ _ _ => none) (fun _ _ => none) none none (fun _ _ _ _ => none)) (fun _ _ => b.rec (fun _ => none) (fun _ _ => none) (fun _ _ => none) (fun _ _ _ => none) (fun _ _ => none) (fun tag => bi (Nat.beq tag q) (bi (Nat.blt tag 4) (nilEq tag k a))) (fun _ _ => none) (fun _ _ _ _ => none) (fun _ => none) (fun _ _ _ _ _ => none) (fun _ => none) (fun _ _ _ => none) (fun _ _ => none) (fun _ _ _ => none) (fun _ _ _ _ => none) (fun _ _ => none) none none (fun _ _ _ _ => none)) (b.rec (fun _ => none) (fun _ _ => none) (fun _ _ => none) (fun _ _ _ => none) (fun _ _ => none) (fun tag => bi (Nat.beq tag q) (bi (Nat.blt tag 4) (nilEq tag k a))) (fun _ _ => none) (fun _ _ _ _ => none) (fun _ => none) (fun _ _ _ _ _ => none) (fun _ => none) (fun _ _ _ => none) (fun _ _ => none) (fun _ _ _ => none) (fun _ _ _ _ => none) (fun _ _ => none) none none (fun _ _ _ _ => none)) (b.rec (fun _ => none) (fun _ _ => none) (fun _ _ => none) (fun _ _ _ => none) (fun _ _ => none) (fun tag => bi (Nat.beq tag q) (bi (Nat.blt tag 4) (nilEq tag k a))) (fun _ _ => none) (fun _ _ _ _ => none) (fun _ => none) (fun _ _ _ _ _ => none) (fun _ => none) (fun _ _ _ => none) (fun _ _ => none) (fun _ _ _ => none) (fun _ _ _ _ => none) (fun _ _ => none) none none (fun _ _ _ _ => none)) (fun _ _ _ _ => b.rec (fun _ => none) (fun _ _ => none) (fun _ _ => none) (fun _ _ _ => none) (fun _ _ => none) (fun tag => bi (Nat.beq tag q) (bi (Nat.blt tag 4) (nilEq tag k a))) (fun _ _ => none) (fun _ _ _ _ => none) (fun _ => none) (fun _ _ _ _ _ => none) (fun _ => none) (fun _ _ _ => none) (fun _ _ => none) (fun _ _ _ => none) (fun _ _ _ _ => none) (fun _ _ => none) none none (fun _ _ _ _ => none))
def mulN (c m n : Nat) (k : KV) : R := posK c (Nat.mul m n) k
def quoN (c m n : Nat) (k : KV) : R := n.rec none fun j _ => posK c (Nat.div m (Nat.succ j)) k
/-- bits: of kinds without a sign of 8 bits, or of numbers below 2^31 -/
def smallK (c m n : Nat) (y : R) : R := bi (Nat.blt m 128) (bi (Nat.blt n 128) y)
def andN (c m n : Nat) (k : KV) : R := smallK c m n (force (Nat.land m n) fun q => k (.i c q))
def andJ (c m n : Nat) (k : KV) : R := bi (Nat.blt m 2) (bi (Nat.blt n 2) (force (Nat.mul m (Nat.sub 1 n)) fun q => k (.i c q)))
def orN (c m n : Nat) (k : KV) : R := smallK c m n (force (Nat.lor m n) fun q => k (.i c q))
abbrev BK := V → V → KV → R
def andK (a b : V) (k : KV) : R := a.rec (fun _ => none) (fun c m => b.rec (fun _ => none) (fun d n => bi (Nat.beq c d) (andN c m n k)) (fun d n => bi (Nat.beq c d) (bi (Nat.beq c 3) (andJ c m n k))) (fun _ _ _ => none) (fun _ _ => none) (fun _ => none) (fun _ _ => none) (fun _ _ _ _ => none) (fun _ => none) (fun _ _ _ _ _ => none) (fun _ => none) (fun _ _ _ => none) (fun _ _ => none) (fun _ _ _ => none) (fun _ _ _ _ => none) (fun _ _ => none) none none (fun _ _ _ _ => none)) (fun c m => b.rec (fun _ => none) (fun d n => bi (Nat.beq c d) (bi (Nat.beq c 3) (andJ c n m k))) (fun _ _ => none) (fun _ _ _ => none) (fun _ _ => none) (fun _ => none) (fun _ _ => none) (fun _ _ _ _ => none) (fun _ => none) (fun _ _ _ _ _ => none) (fun _ => none) (fun _ _ _ => none) (fun _ _ => none) (fun _ _ _ => none) (fun _ _ _ _ => none) (fun _ _ => none) none none (fun _ _ _ _ => none)) (fun _ _ _ => none) (fun _ _ => none) (fun _ => none) (fun _ _ => none) (fun _ _ _ _ => none) (fun _ => none) (fun _ _ _ _ _ => none) (fun _ => none) (fun _ _ _ => none) (fun _ _ => none) (fun _ _ _ => none) (fun _ _ _ _ => none) (fun _ _ => none) none none (fun _ _ _ _ => none)
def shrK (a b : V) (k : KV) : R := b.rec (fun _ => none) (fun _ n => a.rec (fun _ => none) (fun c m => bi (Nat.blt n 8) (force (Nat.div m (Nat.pow 2 n)) fun q => k (.i c q))) (fun _ _ => none) (fun _ _ _ => none) (fun _ _ => none) (fun _ => none) (fun _ _ => none) (fun _ _ _ _ => none) (fun _ => none) (fun _ _ _ _ _ => none) (fun _ => none) (fun _ _ _ => none) (fun _ _ => none) (fun _ _ _ => none) (fun _ _ _ _ => none) (fun _ _ => none) none none (fun _ _ _ _ => none)) (fun _ _ => none) (fun _ _ _ => none) (fun _ _ => none) (fun _ => none) (fun _ _ => none) (fun _ _ _ _ => none) (fun _ => none) (fun _ _ _ _ _ => none) (fun _ => none) (fun _ _ _ => none) (fun _ _ => none) (fun _ _ _ => none) (fun _ _ _ _ => none) (fun _ _ => none) none none (fun _ _ _ _ => none)
def shlK (a b : V) (k : KV) : R := b.rec (fun _ => none) (fun _ n => a.rec (fun _ => none) (fun c m => bi (Nat.blt n 8) (posK c (Nat.mul m (Nat.pow 2 n)) k)) (fun _ _ => none) (fun _ _ _ => none) (fun _ _ => none) (fun _ => none) (fun _ _ => none) (fun _ _ _ _ => none) (fun _ => none) (fun _ _ _ _ _ => none) (fun _ => none) (fun _ _ _ => none) (fun _ _ => none) (fun _ _ _ => none) (fun _ _ _ _ => none) (fun _ _ => none) none none (fun _ _ _ _ => none)) (fun _ _ => none) (fun _ _ _ => none) (fun _ _ => none) (fun _ => none) (fun _ _ => none) (fun _ _ _ _ => none) (fun _ => none) (fun _ _ _ _ _ => none) (fun _ => none) (fun _ _ _ => none) (fun _ _ => none) (fun _ _ _ => none) (fun _ _ _ _ => none) (fun _ _ => none) none none (fun _ _ _ _ => none)
def eqB (q : Nat) (a b : V) (k : KV) : R := eqK q a b fun r => k (.b r)
def neB (q : Nat) (a b : V) (k : KV) : R := eqK q a b fun r => k (.b (inot r))
def eqClass (P : Program) (t : TypeId) : Nat := match P.underlying t with
  | some (.pointer _) => 0 | some (.slice _) => 1 | some (.map _ _) => 2 | some (.func _ _ _) => 3 | some .bool => 5 | _ => 9
def noB : BK := fun _ _ _ => none
def natGt (a b : Nat) : Bool := Nat.blt b a
def natGe (a b : Nat) : Bool := Nat.ble b a
inductive Bf where | mk (f : BK)
def binF (P : Program) (t : TypeId) (op : BinOp) : Bf := op.rec (.mk addK) (.mk subK) (.mk (natK mulN)) (.mk (natK quoN)) (.mk remK) (.mk andK) (.mk (natK orN)) (.mk noB) (.mk shlK) (.mk shrK) (.mk noB)
  (forceO (eqClass P t) fun q => .mk (eqB q)) (forceO (eqClass P t) fun q => .mk (neB q)) (.mk (ltK Nat.blt false true)) (.mk (ltK Nat.ble false true)) (.mk (ltK natGt true false)) (.mk (ltK natGe true false))
def boolK (v : V) (k : Bool → R) : R := v.rec k (fun _ _ => none) (fun _ _ => none) (fun _ _ _ => none) (fun _ _ => none) (fun _ => none) (fun _ _ => none) (fun _ _ _ _ => none) (fun _ => none) (fun _ _ _ _ _ => none) (fun _ => none) (fun _ _ _ => none) (fun _ _ => none) (fun _ _ _ => none) (fun _ _ _ _ => none) (fun _ _ => none) none none (fun _ _ _ _ => none)
def numK (v : V) (k : Nat → R) : R := v.rec (fun _ => none) (fun _ n => k n) (fun _ _ => none) (fun _ _ _ => none) (fun _ _ => none) (fun _ => none) (fun _ _ => none) (fun _ _ _ _ => none) (fun _ => none) (fun _ _ _ _ _ => none) (fun _ => none) (fun _ _ _ => none) (fun _ _ => none) (fun _ _ _ => none) (fun _ _ _ _ => none) (fun _ _ => none) none none (fun _ _ _ _ => none)
def tupK (v : V) (k : KV) : R := v.rec (fun _ => none) (fun _ _ => none) (fun _ _ => none) (fun _ _ _ => none) (fun _ _ => none) (fun _ => none) (fun _ _ => none) (fun _ _ _ _ => none) (fun _ => none) (fun _ _ _ _ _ => none) (fun _ => none) (fun _ _ _ => none) (fun l _ => k l) (fun _ _ _ => none) (fun _ _ _ _ => none) (fun _ _ => none) none none (fun _ _ _ _ => none)
def mapidK (v : V) (k : Nat → R) : R := v.rec (fun _ => none) (fun _ _ => none) (fun _ _ => none) (fun _ _ _ => none) (fun _ _ => none) (fun _ => none) (fun _ _ => none) (fun _ _ _ _ => none) k (fun _ _ _ _ _ => none) (fun _ => none) (fun _ _ _ => none) (fun _ _ => none) (fun _ _ _ => none) (fun _ _ _ _ => none) (fun _ _ => none) none none (fun _ _ _ _ => none)
def ptrK (v : V) (k : Nat → Nat → R) : R := v.rec (fun _ => none) (fun _ _ => none) (fun _ _ => none) (fun _ _ _ => none) (fun _ _ => none) (fun _ => none) k (fun _ _ _ _ => none) (fun _ => none) (fun _ _ _ _ _ => none) (fun _ => none) (fun _ _ _ => none) (fun _ _ => none) (fun _ _ _ => none) (fun _ _ _ _ => none) (fun _ _ => none) none none (fun _ _ _ _ => none)
def strK (v : V) (k : Nat → Nat → R) : R := v.rec (fun _ => none) (fun _ _ => none) (fun _ _ => none) (fun _ _ _ => none) k (fun _ => none) (fun _ _ => none) (fun _ _ _ _ => none) (fun _ => none) (fun _ _ _ _ _ => none) (fun _ => none) (fun _ _ _ => none) (fun _ _ => none) (fun _ _ _ => none) (fun _ _ _ _ => none) (fun _ _ => none) none none (fun _ _ _ _ => none)
def isNil (v : V) : Bool := v.rec (fun _ => false) (fun _ _ => false) (fun _ _ => false) (fun _ _ _ => false) (fun _ _ => false) (fun _ => false) (fun _ _ => false) (fun _ _ _ _ => false) (fun _ => false) (fun _ _ _ _ _ => false) (fun _ => false) (fun _ _ _ => false) (fun _ _ => false) (fun _ _ _ => false) (fun _ _ _ _ => false) (fun _ _ => false) false true (fun _ _ _ _ => false)

/-! ### what is compiled: closures -/
abbrev F := IH → T → H → KT → R
inductive Cl where | mk (f : F)
def failC : Cl := .mk fun _ _ _ _ => none
inductive SV where | mk (g : N V → V) (s : V → N V → N V)
inductive SN where | mk (g : T → N V) (s : N V → T → T)
def selV (d : D16) : SV := d.rec (.mk N.g0 N.s0) (.mk N.g1 N.s1) (.mk N.g2 N.s2) (.mk N.g3 N.s3) (.mk N.g4 N.s4) (.mk N.g5 N.s5) (.mk N.g6 N.s6) (.mk N.g7 N.s7) (.mk N.g8 N.s8) (.mk N.g9 N.s9) (.mk N.g10 N.s10) (.mk N.g11 N.s11) (.mk N.g12 N.s12) (.mk N.g13 N.s13) (.mk N.g14 N.s14) (.mk N.g15 N.s15)
def selN (d : D16) : SN := d.rec (.mk N.g0 N.s0) (.mk N.g1 N.s1) (.mk N.g2 N.s2) (.mk N.g3 N.s3) (.mk N.g4 N.s4) (.mk N.g5 N.s5) (.mk N.g6 N.s6) (.mk N.g7 N.s7) (.mk N.g8 N.s8) (.mk N.g9 N.s9) (.mk N.g10 N.s10) (.mk N.g11 N.s11) (.mk N.g12 N.s12) (.mk N.g13 N.s13) (.mk N.g14 N.s14) (.mk N.g15 N.s15)
abbrev G := T → V
abbrev S := V → T → T
def bcl (x : Bool) (c : Cl) : Cl := x.rec failC c
def ocl {α : Type} (x : Option α) (k : α → Cl) : Cl := x.rec failC k
def cG (nt n : Nat) (k : G → Cl) : Cl := bcl (Nat.blt n nt) ((selV (dig (Nat.mod n 16))).rec fun g _ => (selN (dig (Nat.div n 16))).rec fun g2 _ => k fun t => g (g2 t))
def cS (nt n : Nat) (k : S → Cl) : Cl := bcl (Nat.blt n nt) ((selV (dig (Nat.mod n 16))).rec fun _ s => (selN (dig (Nat.div n 16))).rec fun g2 s2 => k fun v t => s2 (s v (g2 t)) t)
def cD (nt : Nat) (d : Option Tmp) (k : S → Cl) : Cl := d.rec (k fun _ t => t) fun n => cS nt n k
def cO (P : Program) (nt : Nat) (x : Operand) (k : G → Cl) : Cl := x.rec (fun n => cG nt n k) (fun v => ocl (ofValue v) fun v => k fun _ => v) (fun g => bcl (Nat.blt g P.globals.size) (bcl (Nat.blt g 65536) (k fun _ => .p g 0))) (fun f => k fun _ => .f f .nil .nil)
def cOs (P : Program) (nt : Nat) (l : List Operand) : (G → Cl) → Cl := l.rec (fun k => k fun _ => .nil) fun x _ ih k => cO P nt x fun g => ih fun r => k fun t => .cons (g t) (r t)
/-- an operation, as it is compiled: into the place where its result goes -/
abbrev OC := Program → Nat → S → Cl

def oMove (x : Operand) : OC := fun P nt s => cO P nt x fun g => .mk fun _ t h k => k (s (g t) t) h
def oPick (c a b : Operand) : OC := fun P nt s => cO P nt c fun gc => cO P nt a fun ga => cO P nt b fun gb => .mk fun _ t h k => boolK (gc t) fun r => r.rec (k (s (gb t) t) h) (k (s (ga t) t) h)
def oBin (op : BinOp) (xt : TypeId) (x y : Operand) (_ : TypeId) : OC := fun P nt s => cO P nt x fun gx => cO P nt y fun gy => (binF P xt op).rec fun f => .mk fun _ t h k => f (gx t) (gy t) fun v => k (s v t) h
def notK (v : V) (k : KV) : R := boolK v fun b => k (.b (inot b))
def negU (v : V) (k : KV) : R := v.rec (fun _ => none) (fun c n => subN c 0 n k) (fun c n => posK c (Nat.succ n) k) (fun _ _ _ => none) (fun _ _ => none) (fun _ => none) (fun _ _ => none) (fun _ _ _ _ => none) (fun _ => none) (fun _ _ _ _ _ => none) (fun _ => none) (fun _ _ _ => none) (fun _ _ => none) (fun _ _ _ => none) (fun _ _ _ _ => none) (fun _ _ => none) none none (fun _ _ _ _ => none)
def xorU (v : V) (k : KV) : R := v.rec (fun _ => none) (fun c n => bi (Nat.beq c 3) (bi (Nat.blt n 2) (k (.j 3 n)))) (fun _ _ => none) (fun _ _ _ => none) (fun _ _ => none) (fun _ => none) (fun _ _ => none) (fun _ _ _ _ => none) (fun _ => none) (fun _ _ _ _ _ => none) (fun _ => none) (fun _ _ _ => none) (fun _ _ => none) (fun _ _ _ => none) (fun _ _ _ _ => none) (fun _ _ => none) none none (fun _ _ _ _ => none)
inductive Uf where | mk (f : V → KV → R)
def unF (op : UnOp) : Uf := op.rec (.mk negU) (.mk xorU) (.mk notK) (.mk fun _ _ => none)
def oUn (op : UnOp) (_ : TypeId) (x : Operand) : OC := fun P nt s => cO P nt x fun g => (unF op).rec fun f => .mk fun _ t h k => f (g t) fun v => k (s v t) h
def convI (c : Nat) (v : V) (k : KV) : R := v.rec (fun _ => none) (fun _ n => posK c n k) (fun _ n => negK c n k) (fun _ m r => bi (Nat.ble 256 (topK c)) (k (.r c m r))) (fun _ _ => none) (fun _ => none) (fun _ _ => none) (fun _ _ _ _ => none) (fun _ => none) (fun _ _ _ _ _ => none) (fun _ => none) (fun _ _ _ => none) (fun _ _ => none) (fun _ _ _ => none) (fun _ _ _ _ => none) (fun _ _ => none) none none (fun _ _ _ _ => none)
def convS (v : V) (k : KV) : R := v.rec (fun _ => none) (fun _ _ => none) (fun _ _ => none) (fun _ _ _ => none) (fun n l => k (.s n l)) (fun _ => none) (fun _ _ => none) (fun _ _ _ _ => none) (fun _ => none) (fun _ _ _ _ _ => none) (fun _ => none) (fun _ _ _ => none) (fun _ _ => none) (fun _ _ _ => none) (fun _ _ _ _ => none) (fun _ _ => none) none none (fun _ _ _ _ => none)
def convF (P : Program) (src dst : TypeId) : Option Uf := ob (P.underlying src) fun _ => match P.underlying dst with
  | some (.int c) => forceO (kindN c) fun c => some (.mk (convI c))
  | some .string => some (.mk convS)
  | _ => none
def oConv (src dst : TypeId) (x : Operand) : OC := fun P nt s => cO P nt x fun g => ocl (convF P src dst) fun f => f.rec fun f => .mk fun _ t h k => f (g t) fun v => k (s v t) h
def oFunc (f : Fn) (a b : Array Operand) : OC := fun P nt s => match f with
  | .func f => cOs P nt a.toList fun ga => cOs P nt b.toList fun gb => .mk fun _ t h k => k (s (.f f (ga t) (gb t)) t) h
  | _ => failC
def aggK (v : V) (k : Nat → V → R) : R := v.rec (fun _ => none) (fun _ _ => none) (fun _ _ => none) (fun _ _ _ => none) (fun _ _ => none) (fun _ => none) (fun _ _ => none) (fun _ _ _ _ => none) (fun _ => none) (fun _ _ _ _ _ => none) (fun _ => none) (fun n l _ => k n l) (fun _ _ => none) (fun _ _ _ => none) (fun _ _ _ _ => none) (fun _ _ => none) none none (fun _ _ _ _ => none)
def oField (xt : TypeId) (x : Operand) (f : Nat) : OC := fun P nt s => cO P nt x fun g => ocl (fieldT P xt f) fun q => q.rec fun off n agg => .mk fun _ t h k => aggK (g t) fun m l => partK m l off n agg fun v => k (s v t) h
def indexS (i : Nat) (k : KV) (n l : Nat) : R := bi (Nat.blt i l) (force (Nat.mod (Nat.div n (Nat.pow 256 i)) 256) fun c => k (.i 4 c))
def arK (a : Option Ar) (k : Nat → Nat → Bool → R) : R := a.rec none fun a => a.rec k
def indexK (a : Option Ar) (st : Bool) (i : Nat) (k : KV) (x : V) : R := x.rec (fun _ => none) (fun _ _ => none) (fun _ _ => none) (fun _ _ _ => none) (fun n l => bi st (indexS i k n l)) (fun _ => none) (fun _ _ => none) (fun _ _ _ _ => none) (fun _ => none) (fun _ _ _ _ _ => none) (fun _ => none) (fun m l _ => arK a fun n es agg => bi (Nat.blt i n) (partK m l (Nat.mul i es) es agg k)) (fun _ _ => none) (fun _ _ _ => none) (fun _ _ _ _ => none) (fun _ _ => none) none none (fun _ _ _ _ => none)
def oIndex (xt : TypeId) (x ix : Operand) : OC := fun P nt s => cO P nt x fun g => cO P nt ix fun gi => .mk fun _ t h k => numK (gi t) fun i => indexK (arrT P xt) (strT P xt) i (fun v => k (s v t) h) (g t)
def oExtract (x : Operand) (n : Nat) : OC := fun P nt s => cO P nt x fun g => .mk fun _ t h k => tupK (g t) fun l => nthK l n fun v => k (s v t) h
/-- a bound of a cut, or what stands there without -/
abbrev Bo := Nat → T → (Nat → R) → R
def cB (P : Program) (nt : Nat) (x : Option Operand) (k : Bo → Cl) : Cl := x.rec (k fun d _ q => q d) fun x => cO P nt x fun g => k fun _ t q => numK (g t) q
def cutS (n l a b : Nat) (k : KV) : R := bi (Nat.ble a b) (bi (Nat.ble b l) (force (Nat.mod (Nat.div n (Nat.pow 256 a)) (Nat.pow 256 (Nat.sub b a))) fun n => force (Nat.sub b a) fun l => k (.s n l)))
def cutL (id off n es a b : Nat) (k : KV) : R := bi (Nat.ble a b) (bi (Nat.ble b n) (force (Nat.add off (Nat.mul a es)) fun o => force (Nat.sub b a) fun m => k (.l id o m es)))
def cutF (es n : Nat) (xs : V) (a b : Nat) (k : KV) : R := bi (Nat.ble a b) (bi (Nat.ble b n) (dropK (Nat.mul a es) xs fun r => force (Nat.sub b a) fun m => k (.k es m r)))
def cutZ (tag a b : Nat) (k : KV) : R := bi (Nat.beq tag 1) (bi (Nat.beq b 0) (bi (Nat.beq a 0) (k (.z 1))))
def sliceK (st : Bool) (el : Option Nat) (hi : Nat → (Nat → R) → R) (a : Nat) (k : KV) (x : V) : R := x.rec (fun _ => none) (fun _ _ => none) (fun _ _ => none) (fun _ _ _ => none) (fun n l => bi st (hi l fun b => cutS n l a b k)) (fun tag => el.rec none fun _ => hi 0 fun b => cutZ tag a b k) (fun _ _ => none) (fun id off n es => el.rec none fun e => bi (Nat.beq e es) (hi n fun b => cutL id off n es a b k)) (fun _ => none) (fun _ _ _ _ _ => none) (fun _ => none) (fun _ _ _ => none) (fun _ _ => none) (fun _ _ _ => none) (fun es n xs _ => el.rec none fun e => bi (Nat.beq e es) (hi n fun b => cutF es n xs a b k)) (fun _ _ => none) none none (fun _ _ _ _ => none)
def oSlice (ty : TypeId) (x : Operand) (lo hi mx : Option Operand) : OC := fun P nt s => mx.rec (cO P nt x fun g => cB P nt lo fun fl => cB P nt hi fun fh => .mk fun _ t h k => fl 0 t fun a => sliceK (strT P ty) (elemT P ty) (fun d => fh d t) a (fun v => k (s v t) h) (g t)) fun _ => failC
def fieldA (off : Nat) (k : KV) (v : V) : R := v.rec (fun _ => none) (fun _ _ => none) (fun _ _ => none) (fun _ _ _ => none) (fun _ _ => none) (fun _ => none) (fun id o => force (Nat.add o off) fun o => k (.p id o)) (fun _ _ _ _ => none) (fun _ => none) (fun _ _ _ _ _ => none) (fun _ => none) (fun _ _ _ => none) (fun _ _ => none) (fun _ _ _ => none) (fun _ _ _ _ => none) (fun xs _ => dropK off xs fun r => k (.q r)) none none (fun _ _ _ _ => none)
def oFieldAddr (st : TypeId) (x : Operand) (f : Nat) : OC := fun P nt s => cO P nt x fun g => ocl (fieldT P st f) fun q => q.rec fun off n _ => n.rec failC fun _ _ => .mk fun _ t h k => fieldA off (fun v => k (s v t) h) (g t)
def indexL (i : Nat) (k : KV) (id off n es : Nat) : R := bi (Nat.blt i n) (force (Nat.add off (Nat.mul i es)) fun o => k (.p id o))
def indexF (i : Nat) (k : KV) (es n : Nat) (xs : V) : R := bi (Nat.blt i n) (dropK (Nat.mul i es) xs fun r => k (.q r))
def indexA (ar : Option Ar) (el : Option Nat) (i : Nat) (k : KV) (x : V) : R := x.rec (fun _ => none) (fun _ _ => none) (fun _ _ => none) (fun _ _ _ => none) (fun _ _ => none) (fun _ => none) (fun id off => arK ar fun n es _ => bi (Nat.blt 1 n) (indexL i k id off n es)) (fun id off n es => el.rec none fun e => bi (Nat.beq e es) (indexL i k id off n es)) (fun _ => none) (fun _ _ _ _ _ => none) (fun _ => none) (fun _ _ _ => none) (fun _ _ => none) (fun _ _ _ => none) (fun es n xs _ => el.rec none fun e => bi (Nat.beq e es) (indexF i k es n xs)) (fun _ _ => none) none none (fun _ _ _ _ => none)
def oIndexAddr (ty : TypeId) (x ix : Operand) : OC := fun P nt s => cO P nt x fun g => cO P nt ix fun gi => .mk fun _ t h k => numK (gi t) fun i => indexA (arrT P ty) (elemT P ty) i (fun v => k (s v t) h) (g t)
def nilC (v : V) (k : KV) : R := v.rec (fun _ => none) (fun _ _ => none) (fun _ _ => none) (fun _ _ _ => none) (fun _ _ => none) (fun _ => none) (fun id off => k (.p id off)) (fun _ _ _ _ => none) (fun _ => none) (fun _ _ _ _ _ => none) (fun _ => none) (fun _ _ _ => none) (fun _ _ => none) (fun _ _ _ => none) (fun _ _ _ _ => none) (fun xs _ => k (.q xs)) none none (fun _ _ _ _ => none)
def oNil (x : Operand) : OC := fun P nt s => cO P nt x fun g => .mk fun _ t h k => nilC (g t) fun v => k (s v t) h
/-- where a part of a value that is built lies, and how great it is -/
inductive Pl where | mk (off n : Nat)
def placeT (P : Program) (ty : TypeId) (k : Nat) : Option Pl := (arrT P ty).rec (ob (fieldT P ty k) fun q => q.rec fun off n _ => some (.mk off n)) fun a => a.rec fun _ es _ => forceO (Nat.mul k es) fun o => some (.mk o es)
abbrev Fill := T → V → KV → R
def cFill (P : Program) (nt : Nat) (ty : TypeId) (ps : List (Nat × Operand)) : (Fill → Cl) → Cl := ps.rec (fun k => k fun _ cs q => q cs) fun p _ ih k => p.rec fun i x => ocl (placeT P ty i) fun sh => sh.rec fun off n => cO P nt x fun g => ih fun f =>
  k fun t cs q => cellsK (g t) fun m ys => bi (Nat.beq m n) (overK off ys cs fun r => f t r q)
def unA (v : V) (k : Nat → V → Cl) : Cl := v.rec (fun _ => failC) (fun _ _ => failC) (fun _ _ => failC) (fun _ _ _ => failC) (fun _ _ => failC) (fun _ => failC) (fun _ _ => failC) (fun _ _ _ _ => failC) (fun _ => failC) (fun _ _ _ _ _ => failC) (fun _ => failC) (fun n l _ => k n l) (fun _ _ => failC) (fun _ _ _ => failC) (fun _ _ _ _ => failC) (fun _ _ => failC) failC failC (fun _ _ _ _ => failC)
/-- each field's type is known -/
def fieldsOk (P : Program) (ty : TypeId) : Bool := match P.underlying ty with | some (.struct fs) => fs.toList.all fun f => (P.info? f.type).isSome | _ => false
/-- a struct, or an array -/
def buildOk (P : Program) (ty : TypeId) : Bool := (arrT P ty).rec (fieldsOk P ty) fun _ => true
def oBuild (ty : TypeId) (ps : Array (Nat × Operand)) : OC := fun P nt s => bcl (buildOk P ty) (ocl (zeroT P ty) fun z => unA z fun n zc => cFill P nt ty ps.toList fun f => .mk fun _ t h k => f t zc fun cs => k (s (.a n cs) t) h)
def oIface (xt : TypeId) (x : Operand) : OC := fun _ _ _ => failC
def oLoad (ty : TypeId) (a : Operand) : OC := fun P nt s => cO P nt a fun g => ocl (shape P ty) fun sh => sh.rec fun n agg => .mk fun _ t h k => loadK n agg h (g t) fun v => k (s v t) h
def oStore (ty : TypeId) (a x : Operand) : OC := fun P nt s => cO P nt a fun ga => cO P nt x fun gx => ocl (shape P ty) fun sh => sh.rec fun n _ => .mk fun _ t h k => storeK n h (ga t) (gx t) fun h => k (s undefV t) h
def oAlloc (ty : TypeId) : OC := fun P nt s => ocl (zeroT P ty) fun z => .mk fun _ t h k => cellsK z fun n l => h.new (.cells n l) fun id h => k (s (.p id 0) t) h
def oBox (_ : TypeId) (x : Operand) : OC := fun P nt s => cO P nt x fun g => .mk fun _ t h k => cellsK (g t) fun n l => h.new (.cells n l) fun id h => k (s (.p id 0) t) h
def rep (l : V) (n : Nat) : V := n.rec .nil fun _ ih => appV ih l
abbrev Parts := T → KV → R
def cParts (P : Program) (nt es : Nat) (ps : List (Nat × Operand)) : Nat → (Parts → Cl) → Cl := ps.rec (fun _ k => k fun _ q => q .nil) fun p _ ih i k => p.rec fun j x => bcl (Nat.beq i j) (cO P nt x fun g => ih (Nat.succ i) fun f =>
  k fun t q => cellsK (g t) fun m ys => bi (Nat.beq m es) (f t fun r => q (appV r ys)))
def oBuildSlice (ty : TypeId) (n : Nat) (ps : Array (Nat × Operand)) : OC := fun P nt s => ocl (elemT P ty) fun es => bcl (Nat.beq (lenL ps.toList) n) (bcl (Nat.blt (Nat.mul n es) 65536) (ocl (elemZ P ty) fun _ => cParts P nt es ps.toList 0 fun f => .mk fun _ t h k =>
  f t fun cs => force (Nat.mul n es) fun q => h.new (.cells q cs) fun id h => k (s (.l id 0 n es) t) h))
def oMakeSlice (ty : TypeId) (l c : Operand) : OC := fun P nt s => ocl (elemT P ty) fun es => bcl (fewT P ty) (ocl (elemZ P ty) fun z => cO P nt l fun gl => cO P nt c fun gc => .mk fun _ t h k =>
  numK (gl t) fun n => numK (gc t) fun m => bi (Nat.beq n m) (bi (Nat.blt n 65536) (cellsK z fun zn zc => bi (Nat.beq zn es) (force (Nat.mul n es) fun q => h.new (.cells q (rep zc n)) fun id h => k (s (.l id 0 n es) t) h))))
/-- the zero of an element has as many cells as it -/
def zeroOk (P : Program) (ty : TypeId) (es : Nat) : Bool := match elemZ P ty with | some z => (knV z).rec false (Nat.beq (cntV z) es) | none => false
def oMakeMap (_ : TypeId) (r : Option Operand) : OC := fun _ _ s => r.rec (.mk fun _ t h k => h.new (.map .nil) fun id h => k (s (.m id) t) h) fun _ => failC
def keyS (P : Program) (t : TypeId) : Bool := match mapI P t with | some q => strT P q.1 | none => false
def keyX (st : Bool) (x : V) : Bool := x.rec (fun _ => false) (fun _ _ => inot st) (fun _ _ => inot st) (fun _ _ _ => false) (fun _ _ => st) (fun _ => false) (fun _ _ => false) (fun _ _ _ _ => false) (fun _ => false) (fun _ _ _ _ _ => false) (fun _ => false) (fun _ _ _ => false) (fun _ _ => false) (fun _ _ _ => false) (fun _ _ _ _ => false) (fun _ _ => false) false false (fun _ _ _ _ => false)
def lookK (x : V) (q : V → R) (no : R) (n : Nat) : V → R := n.rec (fun _ => none) fun _ ih es => (isNil es).rec (nthK es 0 fun y => eqK 9 y x fun r => r.rec (dropK 2 es ih) (nthK es 1 q)) no
def putK (x v : V) (n : Nat) : V → KV → R := n.rec (fun _ _ => none) fun _ ih es q => (isNil es).rec (nthK es 0 fun y => nthK es 1 fun w => dropK 2 es fun r => eqK 9 y x fun e =>
  e.rec (ih r fun r' => q (.cons y (.cons w r'))) (q (.cons x (.cons v r)))) (q (.cons x (.cons v .nil)))
def look2 (ok : Bool) (b : Bool) (v : V) : V := ok.rec v (.t (.cons v (.cons (.b b) .nil)))
def oLookup (ty : TypeId) (x y : Operand) (ok : Bool) : OC := fun P nt s => ocl (mapZ P ty) fun z => cO P nt x fun gx => cO P nt y fun gy => .mk fun _ t h k =>
  bi (keyX (keyS P ty) (gy t)) (mapidK (gx t) fun id => mapK h id fun es => lookK (gy t) (fun v => k (s (look2 ok true v) t) h) (k (s (look2 ok false z) t) h) (Nat.succ (lenV es)) es)
def oMapSet (ty : TypeId) (x y v : Operand) : OC := fun P nt s => ocl (mapZ P ty) fun _ => cO P nt x fun gx => cO P nt y fun gy => cO P nt v fun gv => .mk fun _ t h k =>
  bi (keyX (keyS P ty) (gy t)) (mapidK (gx t) fun id => mapK h id fun es => putK (gy t) (gv t) (Nat.succ (lenV es)) es fun es => k (s undefV t) (h.set id (.map es)))
def oRange (ty : TypeId) (x : Operand) : OC := fun P nt s => bcl (strT P ty) (cO P nt x fun g => .mk fun _ t h k => strK (g t) fun n l => h.new (.siter n l 0) fun id h => k (s (.p id 0) t) h)
def nextS (h : H) (id : Nat) (k : KH) (n l pos : Nat) : R := (Nat.blt pos l).rec (k (.t (.cons (.b false) .nil)) h)
  (force (Nat.mod (Nat.div n (Nat.pow 256 pos)) 256) fun c => bi (Nat.blt c 128) (k (.t (.cons (.b true) (.cons (.i 3 pos) (.cons (.i 2 c) .nil)))) (h.set id (.siter n l (Nat.succ pos)))))
def oNext (x : Operand) (b : Bool) : OC := fun P nt s => b.rec failC (cO P nt x fun g => .mk fun _ t h k => ptrK (g t) fun id off => bi (Nat.beq off 0) (h.getK id fun b => b.rec (fun _ _ => none) (fun _ _ => none) (fun _ => none) (nextS h id fun v h => k (s v t) h) (fun _ _ _ _ _ _ _ => none) none))
def oNone : OC := fun _ _ _ => failC
def lenK (st sl : Bool) (k : KV) (v : V) : R := v.rec (fun _ => none) (fun _ _ => none) (fun _ _ => none) (fun _ _ _ => none) (fun _ l => bi st (k (.i 3 l))) (fun tag => bi sl (bi (Nat.beq tag 1) (k (.i 3 0)))) (fun _ _ => none) (fun _ _ n _ => bi sl (k (.i 3 n))) (fun _ => none) (fun _ _ _ _ _ => none) (fun _ => none) (fun _ _ _ => none) (fun _ _ => none) (fun _ _ _ => none) (fun _ n _ _ => bi sl (k (.i 3 n))) (fun _ _ => none) none none (fun _ _ _ _ => none)
def maxN (c m n : Nat) (k : KV) : R := (Nat.ble n m).rec (k (.i c n)) (k (.i c m))
def minN (c m n : Nat) (k : KV) : R := (Nat.ble m n).rec (k (.i c n)) (k (.i c m))
def bytesV (len : Nat) : Nat → V := len.rec (fun _ => .nil) fun _ ih n => .cons (.i 4 (Nat.mod n 256)) (ih (Nat.div n 256))
def addL (es0 : Nat) (h : H) (q : Nat → V → R) (id off n es : Nat) : R := bi (Nat.beq es es0) (atK h id fun m l => dropK off l fun r => takeK (Nat.mul n es) r (q n))
/-- what is appended: how many, and the cells -/
def addendK (es0 : Nat) (h : H) (q : Nat → V → R) (x : V) : R := x.rec (fun _ => none) (fun _ _ => none) (fun _ _ => none) (fun _ _ _ => none) (fun n l => bi (Nat.beq es0 1) (q l (bytesV l n))) (fun tag => bi (Nat.beq tag 1) (q 0 .nil)) (fun _ _ => none) (addL es0 h q) (fun _ => none) (fun _ _ _ _ _ => none) (fun _ => none) (fun _ _ _ => none) (fun _ _ => none) (fun _ _ _ => none) (fun es n xs _ => bi (Nat.beq es es0) (takeK (Nat.mul n es) xs (q n))) (fun _ _ => none) none none (fun _ _ _ _ => none)
/-- the first cells alone -/
def trimK (q want : Nat) (l : V) (k : KV) : R := (Nat.beq q want).rec (takeK want l k) (k l)
def appL (h : H) (k : KH) (n : Nat) (cs : V) (es0 : Nat) (id off m es : Nat) : R := bi (Nat.beq es es0) (bi (Nat.beq off 0) (rowK h id fun q l => trimK q (Nat.mul m es) l fun l => force (Nat.add m n) fun z => bi (Nat.blt z 1048576) (force (Nat.mul z es) fun q2 =>
  H.new (h.set id .dead) (.cells q2 (appV cs l)) fun id h => k (.l id 0 z es) h)))
def appTo (h : H) (k : KH) (es n : Nat) (cs s : V) : R := s.rec (fun _ => none) (fun _ _ => none) (fun _ _ => none) (fun _ _ _ => none) (fun _ _ => none) (fun tag => bi (Nat.beq tag 1) (bi (Nat.blt n 1048576) (force (Nat.mul n es) fun q => h.new (.cells q cs) fun id h => k (.l id 0 n es) h))) (fun _ _ => none) (appL h k n cs es) (fun _ => none) (fun _ _ _ _ _ => none) (fun _ => none) (fun _ _ _ => none) (fun _ _ => none) (fun _ _ _ => none) (fun _ _ _ _ => none) (fun _ _ => none) none none (fun _ _ _ _ => none)
/-- a slice is a slice -/
def slcK (es : Nat) (s : V) (k : R) : R := s.rec (fun _ => none) (fun _ _ => none) (fun _ _ => none) (fun _ _ _ => none) (fun _ _ => none) (fun tag => bi (Nat.beq tag 1) k) (fun _ _ => none) (fun _ _ _ e => bi (Nat.beq e es) k) (fun _ => none) (fun _ _ _ _ _ => none) (fun _ => none) (fun _ _ _ => none) (fun _ _ => none) (fun _ _ _ => none) (fun e _ _ _ => bi (Nat.beq e es) k) (fun _ _ => none) none none (fun _ _ _ _ => none)
/-- a nil slice has no room -/
def capK (k : KV) (v : V) : R := v.rec (fun _ => none) (fun _ _ => none) (fun _ _ => none) (fun _ _ _ => none) (fun _ _ => none) (fun tag => bi (Nat.beq tag 1) (k (.i 3 0))) (fun _ _ => none) (fun _ _ _ _ => none) (fun _ => none) (fun _ _ _ _ _ => none) (fun _ => none) (fun _ _ _ => none) (fun _ _ => none) (fun _ _ _ => none) (fun _ _ _ _ => none) (fun _ _ => none) none none (fun _ _ _ _ => none)
/-- zeros behind a nil slice -/
def appZ (es : Nat) (z : V) (h : H) (s x : V) (k : KH) : R := s.rec (fun _ => none) (fun _ _ => none) (fun _ _ => none) (fun _ _ _ => none) (fun _ _ => none) (fun tag => bi (Nat.beq tag 1) (numK x fun n => bi (Nat.blt 0 n) (bi (Nat.blt n 65536) (cellsK z fun zn zc => bi (Nat.beq zn es) (force (Nat.mul n es) fun q => h.new (.cells q (rep zc n)) fun id h => k (.l id 0 n es) h))))) (fun _ _ => none) (fun _ _ _ _ => none) (fun _ => none) (fun _ _ _ _ _ => none) (fun _ => none) (fun _ _ _ => none) (fun _ _ => none) (fun _ _ _ => none) (fun _ _ _ _ => none) (fun _ _ => none) none none (fun _ _ _ _ => none)
def appK (es : Nat) (h : H) (s x : V) (k : KH) : R := addendK es h (fun n cs => (Nat.beq n 0).rec (bi (ones cs) (appTo h k es n cs s)) (slcK es s (k s h))) x
def notInt (P : Program) (t : TypeId) : Bool := match P.underlying t with | some (.int _) => false | some _ => true | none => false
def intT (P : Program) (t : TypeId) : Bool := match P.underlying t with | some (.int _) => true | _ => false
def slT (P : Program) (t : TypeId) : Bool := match P.underlying t with | some (.slice _) => true | _ => false
def cBuiltin (b : Builtin) (args : List Operand) (tys : List TypeId) : OC := fun P nt s => match b, args with
  | .len, [x] => match tys with
    | ty :: _ => cO P nt x fun g => .mk fun _ t h k => lenK (strT P ty) (slT P ty) (fun v => k (s v t) h) (g t)
    | [] => failC
  | .max, [x, y] => cO P nt x fun gx => cO P nt y fun gy => .mk fun _ t h k => natK maxN (gx t) (gy t) fun v => k (s v t) h
  | .min, [x, y] => cO P nt x fun gx => cO P nt y fun gy => .mk fun _ t h k => natK minN (gx t) (gy t) fun v => k (s v t) h
  | .cap, [x] => match tys with
    | ty :: _ => bcl (slT P ty) (cO P nt x fun g => .mk fun _ t h k => capK (fun v => k (s v t) h) (g t))
    | [] => failC
  | .append, [x, y] => match tys with
    | [ty, ty2] => bcl (fewT P ty) ((intT P ty2).rec (bcl (notInt P ty2) (ocl (elemT P ty) fun es => bcl (zeroOk P ty es) (cO P nt x fun gx => cO P nt y fun gy => .mk fun _ t h k => appK es h (gx t) (gy t) fun v h => k (s v t) h)))
        (ocl (elemT P ty) fun es => ocl (elemZ P ty) fun z => cO P nt x fun gx => cO P nt y fun gy => .mk fun _ t h k => appZ es z h (gx t) (gy t) fun v h => k (s v t) h))
    | _ => failC
  | _, _ => failC

def setAll (l : V) : Nat → T → T := l.rec (fun _ => fun _ t => t) (fun _ _ => fun _ t => t) (fun _ _ => fun _ t => t) (fun _ _ _ => fun _ t => t) (fun _ _ => fun _ t => t) (fun _ => fun _ t => t) (fun _ _ => fun _ t => t) (fun _ _ _ _ => fun _ t => t) (fun _ => fun _ t => t) (fun _ _ _ _ _ => fun _ t => t) (fun _ => fun _ t => t) (fun _ _ _ => fun _ t => t) (fun _ _ => fun _ t => t) (fun _ _ _ => fun _ t => t) (fun _ _ _ _ => fun _ t => t) (fun _ _ => fun _ t => t) (fun _ t => t) (fun _ t => t) (fun v _ _ ih n t => ih (Nat.succ n) (setT t n v))
def setPs (nt : Nat) (ps : List Tmp) : V → T → (T → R) → R := ps.rec (fun vs t k => (isNil vs).rec none (k t)) fun p _ ih vs t k => nthK vs 0 fun v => dropK 1 vs fun r => bi (Nat.blt p nt) (ih r (setT t p v) k)
def valK (r : R) (k : KH) : R := r.rec none fun r => r.rec k (fun _ _ => none) (fun _ _ => none) (fun _ _ _ => none)
def norK (r : R) (k : KT) : R := r.rec none fun r => r.rec (fun _ _ => none) k (fun _ _ => none) (fun _ _ _ => none)
/-- a round's end: the record is still there, and busy -/
def busyK (h : H) (l : Nat) (y : Nat → T → List Tmp → Code → Code → R) : R := h.getK l fun b => b.rec (fun _ _ => none) (fun _ _ => none) (fun _ => none) (fun _ _ _ => none) (fun st p nt t ps assign body => bi (Nat.beq st 1) (y nt t ps assign body)) none
def endK (r : R) (l : Nat) (k : KH) : R := r.rec none fun r => r.rec (fun _ _ => none) (fun _ h => busyK h l fun nt t ps assign body => k (.b true) (h.set l (.loop 0 none nt t ps assign body)))
  (fun _ h => busyK h l fun nt t ps assign body => k (.b false) (h.set l (.loop 2 (some .ret) nt t ps assign body))) (fun id _ h => busyK h l fun nt t ps assign body => k (.b false) (h.set l (.loop 2 (some (.exit id)) nt t ps assign body)))
def doFn (ih : IH) (vs : V) (h : H) (k : KH) (f : Nat) (first cap : V) : R := valK (ih (.call f (appV (appV cap vs) first) h)) k
def doRound (ih : IH) (vs : V) (h : H) (l : Nat) (k : KH) (st : Nat) (pending : Option Code) (nt : Nat) (t : T) (ps : List Tmp) (assign body : Code) : R :=
  st.rec (setPs nt ps vs t fun t' => norK (ih (.code true nt assign t' h)) fun t2 h2 => h2.getK l fun b => b.rec (fun _ _ => none) (fun _ _ => none) (fun _ => none) (fun _ _ _ => none) (fun st2 p2 nt2 t3 ps2 as2 body2 => st2.rec (endK (ih (.code true nt body t2 (h2.set l (.loop 1 p2 nt2 t3 ps2 as2 body2)))) l k) fun _ _ => none) none) fun _ _ => none
def doYield (ih : IH) (vs : V) (h : H) (k : KH) (l : Nat) : R := h.getK l fun b => b.rec (fun _ _ => none) (fun _ _ => none) (fun _ => none) (fun _ _ _ => none) (doRound ih vs h l k) none
def doCall (ih : IH) (vs : V) (h : H) (k : KH) (g : V) : R := g.rec (fun _ => none) (fun _ _ => none) (fun _ _ => none) (fun _ _ _ => none) (fun _ _ => none) (fun _ => none) (fun _ _ => none) (fun _ _ _ _ => none) (fun _ => none) (fun f first cap _ _ => doFn ih vs h k f first cap) (doYield ih vs h k) (fun _ _ _ => none) (fun _ _ => none) (fun _ _ _ => none) (fun _ _ _ _ => none) (fun _ _ => none) none none (fun _ _ _ _ => none)
def doIter (ih : IH) (vs : V) (h : H) (k : KH) (g : V) : R := g.rec (fun _ => none) (fun _ _ => none) (fun _ _ => none) (fun _ _ _ => none) (fun _ _ => none) (fun _ => none) (fun _ _ => none) (fun _ _ _ _ => none) (fun _ => none) (fun f first cap _ _ => doFn ih vs h k f first cap) (fun _ => none) (fun _ _ _ => none) (fun _ _ => none) (fun _ _ _ => none) (fun _ _ _ _ => none) (fun _ _ => none) none none (fun _ _ _ _ => none)
def scal (v : V) : Bool := v.rec (fun _ => true) (fun _ _ => true) (fun _ _ => true) (fun _ _ _ => false) (fun _ _ => true) (fun _ => false) (fun _ _ => false) (fun _ _ _ _ => false) (fun _ => false) (fun _ _ _ _ _ => false) (fun _ => false) (fun _ _ _ => false) (fun _ _ => false) (fun _ _ _ => false) (fun _ _ _ _ => false) (fun _ _ => false) false false (fun _ _ _ _ => false)
/-- a number, text or truth, written out -/
def normK (v : V) (k : KV) : R := v.rec (fun x => x.rec (k (.b false)) (k (.b true))) (fun c n => force c fun c => force n fun n => k (.i c n)) (fun c n => force c fun c => force n fun n => k (.j c n)) (fun _ _ _ => none) (fun n l => force n fun n => force l fun l => k (.s n l)) (fun _ => none) (fun _ _ => none) (fun _ _ _ _ => none) (fun _ => none) (fun _ _ _ _ _ => none) (fun _ => none) (fun _ _ _ => none) (fun _ _ => none) (fun _ _ _ => none) (fun _ _ _ _ => none) (fun _ _ => none) none none (fun _ _ _ _ => none)
def normsK (v : V) : KV → R := v.rec (fun _ => fun _ => none) (fun _ _ => fun _ => none) (fun _ _ => fun _ => none) (fun _ _ _ => fun _ => none) (fun _ _ => fun _ => none) (fun _ => fun _ => none) (fun _ _ => fun _ => none) (fun _ _ _ _ => fun _ => none) (fun _ => fun _ => none) (fun _ _ _ _ _ => fun _ => none) (fun _ => fun _ => none) (fun _ _ _ => fun _ => none) (fun _ _ => fun _ => none) (fun _ _ _ => fun _ => none) (fun _ _ _ _ => fun _ => none) (fun _ _ => fun _ => none) (fun _ => none) (fun k => k .nil) (fun x _ _ ih k => normK x fun x => ih fun r => k (.cons x r))
def scals (v : V) : Bool := v.rec (fun _ => false) (fun _ _ => false) (fun _ _ => false) (fun _ _ _ => false) (fun _ _ => false) (fun _ => false) (fun _ _ => false) (fun _ _ _ _ => false) (fun _ => false) (fun _ _ _ _ _ => false) (fun _ => false) (fun _ _ _ => false) (fun _ _ => false) (fun _ _ _ => false) (fun _ _ _ _ => false) (fun _ _ => false) false true (fun x _ _ ih => (scal x).rec false ih)
def scalR (v : V) : Bool := v.rec (fun _ => true) (fun _ _ => true) (fun _ _ => true) (fun _ _ _ => false) (fun _ _ => true) (fun _ => false) (fun _ _ => false) (fun _ _ _ _ => false) (fun _ => false) (fun _ _ _ _ _ => false) (fun _ => false) (fun _ _ _ => false) (fun l _ => scals l) (fun _ _ _ => false) (fun _ _ _ _ => false) (fun _ _ => false) false false (fun _ _ _ _ => false)
/-- calls that see nothing: by number and arguments -/
abbrev PU := Nat → V → R
/-- a call that sees nothing and gives nothing but numbers and texts: in a heap of their own, so that the kernel knows it again -/
def doPure (pu : PU) (vs : V) (k : KV) (f : Nat) : R := normsK vs fun vs => valK (pu f vs) fun v _ => (scalR v).rec none (k v)
def isScal (P : Program) (t : TypeId) : Bool := match P.underlying t with
  | some (.int _) | some .bool | some .string => true
  | _ => false
def sigPure (P : Program) (f : FuncId) : Bool := match P.funcs[f]? with
  | some fn => fn.params.toList.all (isScal P) && fn.resultTypes.toList.all (isScal P) && Nat.beq fn.nfree 0
  | none => false
def hasBody (P : Program) (f : FuncId) : Bool := match P.funcs[f]? with | some fn => (match fn.body with | some _ => true | none => false) | none => false
def cPureTo (pu : PU) (f : Nat) (args : List Operand) : OC := fun P nt s => cOs P nt args fun ga => .mk fun ih t h k => doPure pu (ga t) (fun v => k (s v t) h) f
def cCallee0 (f : Operand) (args : List Operand) : OC := fun P nt s => cO P nt f fun gf => cOs P nt args fun ga => .mk fun ih t h k => doCall ih (ga t) h (fun v h => k (s v t) h) (gf t)
def cCallee (pu : PU) (f : Operand) (args : List Operand) : OC := fun P nt s => f.rec (fun n => cCallee0 (.tmp n) args P nt s) (fun v => cCallee0 (.const v) args P nt s) (fun g => cCallee0 (.global g) args P nt s)
  fun f => (sigPure P f).rec (cCallee0 (.func f) args P nt s) (cPureTo pu f args P nt s)
def cCall (pu : PU) (c : Call) : OC := c.rec fun callee args tys => callee.rec (fun f => cCallee pu f args.toList) (fun _ _ => oNone) (fun b => cBuiltin b args.toList tys.toList)
def cOp (pu : PU) (op : Op) : OC := op.rec
  oMove oMove oPick oAlloc oBox oBuild oBuildSlice oMapSet oLoad oStore (fun _ => oNone) (fun _ => oNone) oNil oBin oUn oConv (fun _ _ => oNone) oIface oFunc oMakeMap
  (fun _ _ => oNone) oMakeSlice oSlice oFieldAddr oField oIndexAddr oIndex oLookup oMapSet (fun _ _ _ => oNone) (fun _ _ _ _ => oNone) oRange oNext (fun _ => oNone)
  (fun _ _ _ _ => oNone) oExtract (cCall pu) (fun _ => oNone) (fun _ => oNone) (fun _ => oNone) (fun _ _ => oNone) (fun _ _ _ => oNone) (fun _ _ => oNone)
/-- 0: needs no heap · 1: looks at it · 2: makes a block · 3: all else -/
def cls (op : Op) : Nat := op.rec
  (fun _ => 0) (fun _ => 0) (fun _ _ _ => 0) (fun _ => 2) (fun _ _ => 2) (fun _ _ => 0) (fun _ _ _ => 2) (fun _ _ _ _ => 3) (fun _ _ => 1) (fun _ _ _ => 3) (fun _ => 3) (fun _ => 3) (fun _ => 0) (fun _ _ _ _ _ => 0) (fun _ _ _ => 0) (fun _ _ _ => 0) (fun _ _ => 3) (fun _ _ => 3) (fun _ _ _ => 0) (fun _ _ => 2)
  (fun _ _ => 3) (fun _ _ _ => 2) (fun _ _ _ _ _ => 0) (fun _ _ _ => 0) (fun _ _ _ => 0) (fun _ _ _ => 0) (fun _ _ _ => 0) (fun _ _ _ _ => 1) (fun _ _ _ _ => 3) (fun _ _ _ => 3) (fun _ _ _ _ => 3) (fun _ _ => 2) (fun _ _ => 3) (fun _ => 3)
  (fun _ _ _ _ => 3) (fun _ _ => 0) (fun c => c.rec fun callee _ _ => callee.rec (fun _ => 3) (fun _ _ => 3) (fun b => match b with | .len | .max | .min => 0 | _ => 3)) (fun _ => 3) (fun _ => 3) (fun _ => 3) (fun _ _ => 3) (fun _ _ _ => 3) (fun _ _ => 3)
def wantV (w : Bool) (no yes : R) (v : V) : R := v.rec (fun x => x.rec (w.rec yes no) (w.rec no yes)) (fun _ _ => no) (fun _ _ => no) (fun _ _ _ => no) (fun _ _ => no) (fun _ => no) (fun _ _ => no) (fun _ _ _ _ => no) (fun _ => no) (fun _ _ _ _ _ => no) (fun _ => no) (fun _ _ _ => no) (fun _ _ => no) (fun _ _ _ => no) (fun _ _ _ _ => no) (fun _ _ => no) none no (fun _ _ _ _ => no)
def cWant (nt : Nat) (ops : Array Oper) (g : Option (Nat × Bool)) (s : S) (c : Cl) : Cl := g.rec c fun g => g.rec fun j w => ocl ((ops[j]?).bind (·.dst)) fun d => cG nt d fun gd => c.rec fun f => .mk fun ih t h k => wantV w (k (s undefV t) h) (f ih t h k) (gd t)
def cOper (pu : PU) (P : Program) (nt : Nat) (ops : Array Oper) (o : Oper) : Cl := o.rec fun dst op _ _ _ g => cD nt dst fun s => cWant nt ops g s (cOp pu op P nt s)
/-- a call that is put off: of a value in a temporary, without arguments -/
def putOff (o : Oper) : Option Nat := match o with
  | ⟨none, .defer ⟨.value (.tmp n), args, _⟩, _, _, _, none⟩ => match args.toList with | [] => some n | _ => none
  | _ => none
def exitK (r : R) (k : R) : R := r.rec none fun r => r.rec (fun _ _ => none) (fun _ _ => none) (fun _ _ => none) (fun _ _ _ => k)
/-- only a function that is known to be harmless is put off -/
def benK (pu : PU) (k : R) (v : V) : R := v.rec (fun _ => none) (fun _ _ => none) (fun _ _ => none) (fun _ _ _ => none) (fun _ _ => none) (fun _ => none) (fun _ _ => none) (fun _ _ _ _ => none) (fun _ => none) (fun f first cap _ _ => exitK (pu f (appV cap first)) k) (fun _ => none) (fun _ _ _ => none) (fun _ _ => none) (fun _ _ _ => none) (fun _ _ _ _ => none) (fun _ _ => none) none none (fun _ _ _ _ => none)
def cPutOff (pu : PU) (nt n : Nat) : Cl := cG nt n fun g => .mk fun _ t h k => benK pu (k t h) (g t)
def cOper1 (rnd : Bool) (pu : PU) (P : Program) (nt : Nat) (ops : Array Oper) (o : Oper) : Cl := rnd.rec ((putOff o).rec (cOper pu P nt ops o) fun n => cPutOff pu nt n) (cOper pu P nt ops o)
def cOps (rnd : Bool) (pu : PU) (P : Program) (nt : Nat) (ops : Array Oper) (l : List Oper) : Cl := l.rec (.mk fun _ t h k => k t h) fun o _ ih => (cOper1 rnd pu P nt ops o).rec fun f => ih.rec fun g => .mk fun ih t h k => f ih t h fun t h => g ih t h k

/-! ### a region that draws its order -/
def nthD {α : Type} (d : α) (l : List α) (n : Nat) : α := (l[n]?).getD d
def onBit (j : Nat) : Nat := Nat.pow 2 j
/-- what must stand ahead of an operation -/
def deps (o : Oper) : List Nat := (o.after.toList.filter (Region.binds .any)).map (·.on)
def orAll (bm : List Nat) (ds : List Nat) : Nat := ds.foldr (fun d m => Nat.lor (Nat.lor (onBit d) (nthD 0 bm d)) m) 0
/-- all that stands ahead, as bits -/
def masks (l : List Oper) : List Nat := l.foldl (fun bm o => bm ++ [orAll bm (deps o)]) []
structure PE where
  j : Nat
  o : Oper
  kind : Nat
  back : Nat
/-- the order in which it is reckoned: ahead of each loud operation what must stand there, and no more; all else behind (ks: the kinds) -/
def louds (ks : List Nat) : List Nat := (ks.zipIdx.filter fun q => Nat.beq q.1 3).map (·.2)
def order (l : List Oper) (ks : List Nat) : List Nat :=
  let bm := masks l
  let r := (louds ks).foldl (fun (q : Nat × List Nat) x => let m := (List.range l.length).filter fun i => (nthD 0 bm x).testBit i && !q.1.testBit i
    (Nat.lor (Nat.lor q.1 (onBit x)) (nthD 0 bm x), q.2 ++ m ++ [x])) (0, [])
  r.2 ++ (List.range l.length).filter fun i => !r.1.testBit i
/-- with how many snapshots behind the last one an operation that looks must agree -/
def backs (bm : List Nat) (j : Nat) : List Nat → Nat
  | [] => 0
  | x :: r => if (nthD 0 bm j).testBit x then 0 else backs bm j r + 1
def planW (l : List Oper) (ks : List Nat) : List PE :=
  let bm := masks l
  ((order l ks).foldl (fun (q : List Nat × List PE) j => match l[j]? with
    | some o => (if Nat.beq (nthD 0 ks j) 3 then j :: q.1 else q.1, q.2 ++ [⟨j, o, nthD 0 ks j, backs bm j q.1⟩])
    | none => q) ([], [])).2
def tmpOf (x : Operand) : Option Nat := match x with | .tmp d => some d | _ => none
/-- does an operation look into a block that this region makes? -/
def fromNew (l : List Oper) : Nat → Oper → Bool
  | 0, _ => false
  | n + 1, o => match (o.op.operands.toList.head?).bind tmpOf with
    | some d => (match l.find? (fun x : Oper => match x.dst with | some d' => Nat.beq d' d | none => false) with
      | some x => Nat.beq (cls x.op) 2 || (Nat.beq (cls x.op) 0 && fromNew l n x)
      | none => false)
    | none => false
def newLook (l : List Oper) (o : Oper) : Bool := Nat.beq (cls o.op) 1 && fromNew l 6 o
/-- .. with nothing loud ahead of it -/
def newFirst (l : List Oper) : List PE → Bool
  | [] => false
  | e :: r => bif Nat.beq e.kind 3 then false else newLook l e.o || newFirst l r
def kinds (l : List Oper) : List Nat := bif newFirst l (planW l (l.map fun o => cls o.op)) then l.map fun o => bif newLook l o then 3 else cls o.op else l.map fun o => cls o.op
def plan (l : List Oper) : List PE := planW l (kinds l)
/-- the temporaries that an operation looks at -/
def looks (ops : Array Oper) (o : Oper) : List Nat := o.looksAt ops
def planOk (ops : Array Oper) (l : List Oper) (bm : List Nat) : List PE → Nat → List Nat → Bool
  | [], done, _ => (List.range l.length).all fun i => done.testBit i
  | e :: r, done, ls =>
    (match l[e.j]? with | some _ => true | none => false) && !done.testBit e.j && (Nat.beq e.kind (cls e.o.op) || Nat.beq e.kind 3) &&
    (deps e.o).all (fun d => done.testBit d) &&
    (!Nat.beq e.kind 3 || Nat.beq (Nat.land done (nthD 0 bm e.j)) done) &&
    (!Nat.beq e.kind 1 || (Nat.ble e.back ls.length && (match ls.drop e.back with | [] => true | x :: _ => (nthD 0 bm e.j).testBit x))) &&
    planOk ops l bm r (Nat.lor done (onBit e.j)) (if Nat.beq e.kind 3 then e.j :: ls else ls)
def pairOk (ops : Array Oper) (bm : List Nat) (x y : Oper × Nat) : Bool :=
  Nat.beq x.2 y.2 && (match x.1.dst with | some d => !(looks ops x.1).contains d | none => true) ||
  !Nat.beq x.2 y.2 && (match y.1.dst with
    | some d => x.1.dst != some d && (!(looks ops x.1).contains d || (nthD 0 bm x.2).testBit y.2 || (nthD 0 bm y.2).testBit x.2)
    | none => true)
def drawOk (ops : Array Oper) : Bool :=
  let l := ops.toList
  let bm := masks l
  planOk ops l bm (plan l) 0 [] && l.zipIdx.all fun x => l.zipIdx.all fun y => pairOk ops bm x y

def eqV (v : V) : V → Bool := v.rec (fun x w => w.rec (fun y => x.rec (inot y) y) (fun _ _ => false) (fun _ _ => false) (fun _ _ _ => false) (fun _ _ => false) (fun _ => false) (fun _ _ => false) (fun _ _ _ _ => false) (fun _ => false) (fun _ _ _ _ _ => false) (fun _ => false) (fun _ _ _ => false) (fun _ _ => false) (fun _ _ _ => false) (fun _ _ _ _ => false) (fun _ _ => false) false false (fun _ _ _ _ => false)) (fun a b w => w.rec (fun _ => false) (fun c d => (Nat.beq a c).rec false (Nat.beq b d)) (fun _ _ => false) (fun _ _ _ => false) (fun _ _ => false) (fun _ => false) (fun _ _ => false) (fun _ _ _ _ => false) (fun _ => false) (fun _ _ _ _ _ => false) (fun _ => false) (fun _ _ _ => false) (fun _ _ => false) (fun _ _ _ => false) (fun _ _ _ _ => false) (fun _ _ => false) false false (fun _ _ _ _ => false)) (fun a b w => w.rec (fun _ => false) (fun _ _ => false) (fun c d => (Nat.beq a c).rec false (Nat.beq b d)) (fun _ _ _ => false) (fun _ _ => false) (fun _ => false) (fun _ _ => false) (fun _ _ _ _ => false) (fun _ => false) (fun _ _ _ _ _ => false) (fun _ => false) (fun _ _ _ => false) (fun _ _ => false) (fun _ _ _ => false) (fun _ _ _ _ => false) (fun _ _ => false) false false (fun _ _ _ _ => false)) (fun _ _ _ => fun _ => false) (fun a b w => w.rec (fun _ => false) (fun _ _ => false) (fun _ _ => false) (fun _ _ _ => false) (fun c d => (Nat.beq a c).rec false (Nat.beq b d)) (fun _ => false) (fun _ _ => false) (fun _ _ _ _ => false) (fun _ => false) (fun _ _ _ _ _ => false) (fun _ => false) (fun _ _ _ => false) (fun _ _ => false) (fun _ _ _ => false) (fun _ _ _ _ => false) (fun _ _ => false) false false (fun _ _ _ _ => false)) (fun a w => w.rec (fun _ => false) (fun _ _ => false) (fun _ _ => false) (fun _ _ _ => false) (fun _ _ => false) (fun c => Nat.beq a c) (fun _ _ => false) (fun _ _ _ _ => false) (fun _ => false) (fun _ _ _ _ _ => false) (fun _ => false) (fun _ _ _ => false) (fun _ _ => false) (fun _ _ _ => false) (fun _ _ _ _ => false) (fun _ _ => false) false false (fun _ _ _ _ => false)) (fun a b w => w.rec (fun _ => false) (fun _ _ => false) (fun _ _ => false) (fun _ _ _ => false) (fun _ _ => false) (fun _ => false) (fun c d => (Nat.beq a c).rec false (Nat.beq b d)) (fun _ _ _ _ => false) (fun _ => false) (fun _ _ _ _ _ => false) (fun _ => false) (fun _ _ _ => false) (fun _ _ => false) (fun _ _ _ => false) (fun _ _ _ _ => false) (fun _ _ => false) false false (fun _ _ _ _ => false)) (fun a b c d w => w.rec (fun _ => false) (fun _ _ => false) (fun _ _ => false) (fun _ _ _ => false) (fun _ _ => false) (fun _ => false) (fun _ _ => false) (fun e f g h => (Nat.beq a e).rec false ((Nat.beq b f).rec false ((Nat.beq c g).rec false (Nat.beq d h)))) (fun _ => false) (fun _ _ _ _ _ => false) (fun _ => false) (fun _ _ _ => false) (fun _ _ => false) (fun _ _ _ => false) (fun _ _ _ _ => false) (fun _ _ => false) false false (fun _ _ _ _ => false)) (fun a w => w.rec (fun _ => false) (fun _ _ => false) (fun _ _ => false) (fun _ _ _ => false) (fun _ _ => false) (fun _ => false) (fun _ _ => false) (fun _ _ _ _ => false) (fun c => Nat.beq a c) (fun _ _ _ _ _ => false) (fun _ => false) (fun _ _ _ => false) (fun _ _ => false) (fun _ _ _ => false) (fun _ _ _ _ => false) (fun _ _ => false) false false (fun _ _ _ _ => false)) (fun a x y ihx ihy w => w.rec (fun _ => false) (fun _ _ => false) (fun _ _ => false) (fun _ _ _ => false) (fun _ _ => false) (fun _ => false) (fun _ _ => false) (fun _ _ _ _ => false) (fun _ => false) (fun c x2 y2 _ _ => (Nat.beq a c).rec false ((ihx x2).rec false (ihy y2))) (fun _ => false) (fun _ _ _ => false) (fun _ _ => false) (fun _ _ _ => false) (fun _ _ _ _ => false) (fun _ _ => false) false false (fun _ _ _ _ => false)) (fun a w => w.rec (fun _ => false) (fun _ _ => false) (fun _ _ => false) (fun _ _ _ => false) (fun _ _ => false) (fun _ => false) (fun _ _ => false) (fun _ _ _ _ => false) (fun _ => false) (fun _ _ _ _ _ => false) (fun c => Nat.beq a c) (fun _ _ _ => false) (fun _ _ => false) (fun _ _ _ => false) (fun _ _ _ _ => false) (fun _ _ => false) false false (fun _ _ _ _ => false)) (fun a l ih w => w.rec (fun _ => false) (fun _ _ => false) (fun _ _ => false) (fun _ _ _ => false) (fun _ _ => false) (fun _ => false) (fun _ _ => false) (fun _ _ _ _ => false) (fun _ => false) (fun _ _ _ _ _ => false) (fun _ => false) (fun c m _ => (Nat.beq a c).rec false (ih m)) (fun _ _ => false) (fun _ _ _ => false) (fun _ _ _ _ => false) (fun _ _ => false) false false (fun _ _ _ _ => false)) (fun l ih w => w.rec (fun _ => false) (fun _ _ => false) (fun _ _ => false) (fun _ _ _ => false) (fun _ _ => false) (fun _ => false) (fun _ _ => false) (fun _ _ _ _ => false) (fun _ => false) (fun _ _ _ _ _ => false) (fun _ => false) (fun _ _ _ => false) (fun m _ => ih m) (fun _ _ _ => false) (fun _ _ _ _ => false) (fun _ _ => false) false false (fun _ _ _ _ => false)) (fun a l ih w => w.rec (fun _ => false) (fun _ _ => false) (fun _ _ => false) (fun _ _ _ => false) (fun _ _ => false) (fun _ => false) (fun _ _ => false) (fun _ _ _ _ => false) (fun _ => false) (fun _ _ _ _ _ => false) (fun _ => false) (fun _ _ _ => false) (fun _ _ => false) (fun c m _ => (Nat.beq a c).rec false (ih m)) (fun _ _ _ _ => false) (fun _ _ => false) false false (fun _ _ _ _ => false)) (fun a b l ih w => w.rec (fun _ => false) (fun _ _ => false) (fun _ _ => false) (fun _ _ _ => false) (fun _ _ => false) (fun _ => false) (fun _ _ => false) (fun _ _ _ _ => false) (fun _ => false) (fun _ _ _ _ _ => false) (fun _ => false) (fun _ _ _ => false) (fun _ _ => false) (fun _ _ _ => false) (fun c d m _ => (Nat.beq a c).rec false ((Nat.beq b d).rec false (ih m))) (fun _ _ => false) false false (fun _ _ _ _ => false)) (fun l ih w => w.rec (fun _ => false) (fun _ _ => false) (fun _ _ => false) (fun _ _ _ => false) (fun _ _ => false) (fun _ => false) (fun _ _ => false) (fun _ _ _ _ => false) (fun _ => false) (fun _ _ _ _ _ => false) (fun _ => false) (fun _ _ _ => false) (fun _ _ => false) (fun _ _ _ => false) (fun _ _ _ _ => false) (fun m _ => ih m) false false (fun _ _ _ _ => false)) (fun _ => false) (fun w => w.rec (fun _ => false) (fun _ _ => false) (fun _ _ => false) (fun _ _ _ => false) (fun _ _ => false) (fun _ => false) (fun _ _ => false) (fun _ _ _ _ => false) (fun _ => false) (fun _ _ _ _ _ => false) (fun _ => false) (fun _ _ _ => false) (fun _ _ => false) (fun _ _ _ => false) (fun _ _ _ _ => false) (fun _ _ => false) false true (fun _ _ _ _ => false)) (fun x r ihx ihr w => w.rec (fun _ => false) (fun _ _ => false) (fun _ _ => false) (fun _ _ _ => false) (fun _ _ => false) (fun _ => false) (fun _ _ => false) (fun _ _ _ _ => false) (fun _ => false) (fun _ _ _ _ _ => false) (fun _ => false) (fun _ _ _ => false) (fun _ _ => false) (fun _ _ _ => false) (fun _ _ _ _ => false) (fun _ _ => false) false false (fun y s _ _ => (ihx y).rec false (ihr s)))
/-- what an operation of a drawn region is given: the temporaries as the region found them, and what it looks at -/
def needsOf (ops : Array Oper) (bm : List Nat) (j : Nat) (o : Oper) : List Nat := (looks ops o).filter fun d => ops.toList.zipIdx.any fun y => (match y.1.dst with | some d' => Nat.beq d' d | none => false) && (nthD 0 bm j).testBit y.2
abbrev FD := IH → T → T → H → List H → KT → R
inductive CD where | mk (f : FD)
inductive FL where | mk (f : T → T → T)
def cPutD (d : Nat) : FL := (selV (dig (Nat.mod d 16))).rec fun g s => (selN (dig (Nat.div d 16))).rec fun g2 s2 => .mk fun t1 t => s2 (s (g (g2 t1)) (g2 t)) t
def cPut (dst : Option Tmp) : FL := dst.rec (.mk fun _ t => t) cPutD
def cNeed (ds : List Nat) : FL := ds.rec (.mk fun t0 _ => t0) fun d _ r => r.rec fun f => (cPutD d).rec fun p => .mk fun t0 t => p t (f t0 t)
/-- a look at each of some heaps: it must be the same -/
def agree (f : F) (ih : IH) (t : T) (g : G) (v : V) (n : Nat) : List H → R → R := n.rec (fun _ y => y) fun _ go ss y => ss.rec none fun h' tl _ => f ih t h' fun t2 _ => bi (eqV (g t2) v) (go tl y)
def stepL (f : F) (fl pt : T → T → T) (g : G) (back : Nat) (nx : FD) : FD := fun ih t0 t h ss k => ss.rec none fun hs tl _ => f ih (fl t0 t) hs fun t1 _ => agree f ih (fl t0 t) g (g t1) back tl (nx ih t0 (pt t1 t) h ss k)
def failD : CD := .mk fun _ _ _ _ _ _ => none
def cLook (f : F) (fl pt : T → T → T) (back : Nat) (nx : FD) (d : Nat) : CD := (selV (dig (Nat.mod d 16))).rec fun g _ => (selN (dig (Nat.div d 16))).rec fun g2 _ => .mk (stepL f fl pt (fun t => g (g2 t)) back nx)
def cStepK (f : F) (fl pt : T → T → T) (dst : Option Tmp) (kind back : Nat) (nx : FD) : CD :=
  kind.rec (.mk fun ih t0 t h ss k => f ih (fl t0 t) h fun t1 _ => nx ih t0 (pt t1 t) h ss k) fun kind _ =>
  kind.rec (dst.rec failD fun d => cLook f fl pt back nx d) fun kind _ =>
  kind.rec (.mk fun ih t0 t h ss k => f ih (fl t0 t) h fun t1 h => nx ih t0 (pt t1 t) h ss k) fun _ _ =>
  .mk fun ih t0 t h ss k => f ih (fl t0 t) h fun t1 h => nx ih t0 (pt t1 t) h (h :: ss) k
def cStep (pu : PU) (P : Program) (nt : Nat) (ops : Array Oper) (bm : List Nat) (e : PE) (nx : FD) : CD := e.rec fun j o kind back => (cOper pu P nt ops o).rec fun f => (cNeed (needsOf ops bm j o)).rec fun fl => (cPut o.dst).rec fun pt => cStepK f fl pt o.dst kind back nx
def cPlan (pu : PU) (P : Program) (nt : Nat) (ops : Array Oper) (bm : List Nat) (l : List PE) : CD := l.rec (.mk fun _ _ t h _ k => k t h) fun e _ r => r.rec fun nx => cStep pu P nt ops bm e nx
def plainOp (op : Op) : Bool := match op with | .select _ _ => false | .defer _ => false | _ => true
def tmpsOk (nt : Nat) (ops : Array Oper) : Bool := Nat.ble nt 256 && ops.toList.all fun o => (looks ops o).all (fun d => Nat.blt d nt) && (match o.dst with | some d => Nat.blt d nt | none => true) && plainOp o.op
def cDrawB (pu : PU) (P : Program) (nt : Nat) (ops : Array Oper) : Cl := bcl (tmpsOk nt ops) ((cPlan pu P nt ops (masks ops.toList) (plan ops.toList)).rec fun f => .mk fun ih t h k => f ih t t h [h] k)
/-- a region whose last operations (stores, and what needs no heap) stand in no order: the others ahead of them; these in every order, and it makes no difference -/
def preOps (ops : Array Oper) (m : Nat) : Array Oper := (ops.toList.take m).toArray
def preOk (ops : Array Oper) (m : Nat) : Bool := Nat.ble 1 m && Nat.ble ops.size (m + 4) && ops.toList.all (fun o => match o.guard with | none => true | some _ => false) && ops.toList.zipIdx.all (fun q => (deps q.1).all fun d => Nat.blt d q.2) &&
  ops.toList.zipIdx.all (fun q => Nat.blt q.2 m || (deps q.1).any fun d => Nat.beq (d + 1) m) && (match ops[m - 1]? with | some o => (List.range (m - 1)).all fun i => (deps o).any fun d => Nat.beq d i | none => false) && drawOk (preOps ops m)
def preN (ops : Array Oper) : Option Nat := (List.range (ops.size + 1)).find? (preOk ops)
def readyD (ops : Array Oper) (D : Nat → Bool) : List Nat := (List.range ops.size).filter fun i => !D i && (match ops[i]? with | some o => (deps o).all fun d => D d | none => false)
abbrev Leaf := T × H × List Nat
def tRun (c : Cl) (ih : IH) (t : T) (h : H) (ids : List Nat) : Option Leaf := c.rec fun f => match f ih t h (fun t h => some (.nor t h)) with | some (.nor t' h') => some (t', h', ids) | _ => none
def tStep (pu : PU) (P : Program) (nt : Nat) (ops : Array Oper) (ih : IH) (i : Nat) (t : T) (h : H) : Option Leaf := match ops[i]? with
  | some o => bif Nat.beq (cls o.op) 0 then tRun (cOper pu P nt ops o) ih t h [] else match o.op with
    | .store _ (.tmp d) _ => (match getT t d with | .p id _ => bif Nat.blt id 65536 then tRun (cOper pu P nt ops o) ih t h [id] else none | _ => none)
    | _ => none
  | none => none
def tAll (l : List Nat) (f : Nat → Option (List Leaf)) : Option (List Leaf) := match l with
  | [] => some []
  | i :: r => (f i).bind fun x => (tAll r f).map fun y => x ++ y
def leaves (step : Nat → T → H → Option Leaf) (ops : Array Oper) : Nat → (Nat → Bool) → T → H → List Nat → Option (List Leaf)
  | 0, D, t, h, ids => bif (readyD ops D).isEmpty then some [(t, h, ids)] else none
  | n + 1, D, t, h, ids => bif (readyD ops D).isEmpty then some [(t, h, ids)] else tAll (readyD ops D) fun i => (step i t h).bind fun q => leaves step ops n (fun j => Nat.beq j i || D j) q.1 q.2.1 (q.2.2 ++ ids)
def eqBl (a b : B) : Bool := match a, b with | .cells n l, .cells m r => Nat.beq n m && eqV l r | _, _ => false
def agreeL (ds : List Nat) (q0 q : Leaf) : Bool := Nat.beq (q.2.1.rec fun n _ => n) (q0.2.1.rec fun n _ => n) && ds.all (fun d => eqV (getT q.1 d) (getT q0.1 d)) && (q.2.2 ++ q0.2.2).all fun id => Nat.blt id 65536 && eqBl (q.2.1.rec fun _ t => t.get id) (q0.2.1.rec fun _ t => t.get id)
def tailDs (ops : Array Oper) (m : Nat) : List Nat := (ops.toList.drop m).filterMap (·.dst)
def tailK (pu : PU) (P : Program) (nt : Nat) (ops : Array Oper) (m : Nat) (ih : IH) (t : T) (h : H) (k : KT) : R := match leaves (tStep pu P nt ops ih) ops (ops.size - m) (fun j => Nat.blt j m) t h [] with
  | some (q0 :: rest) => bif rest.all (agreeL (tailDs ops m) q0) then k q0.1 q0.2.1 else none
  | _ => none
def cSplit (pu : PU) (P : Program) (nt : Nat) (ops : Array Oper) (m : Nat) : Cl := bcl (preOk ops m) ((cDrawB pu P nt (preOps ops m)).rec fun f => .mk fun ih t h k => f ih t h fun t1 h1 => tailK pu P nt ops m ih t1 h1 k)
def cDraw (pu : PU) (P : Program) (nt : Nat) (ops : Array Oper) : Cl := (drawOk ops).rec (ocl (preN ops) (cSplit pu P nt ops)) (cDrawB pu P nt ops)

/-! ### code: normal end to k; what else, is told -/
def resK (r : R) (k : KT) : R := r.rec none fun r => r.rec (fun _ _ => none) k (fun t h => some (.ret t h)) (fun id t h => some (.exit id t h))
def blkK (id : Nat) (r : R) (k : KT) : R := r.rec none fun r => r.rec (fun _ _ => none) k (fun t h => some (.ret t h)) (fun j t h => (Nat.beq j id).rec (some (.exit j t h)) (k t h))
def pendR (t : T) (h : H) (k : KT) (p : Option Code) : R := match p with
  | none => k t h
  | some .ret => some (.ret t h)
  | some (.exit id) => some (.exit id t h)
  | _ => none
def norT (t : T) (h : H) : R := some (.nor t h)
def overK2 (t : T) (k : KT) (h : H) (id : Nat) : R := h.getK id fun b => b.rec (fun _ _ => none) (fun _ _ => none) (fun _ => none) (fun _ _ _ => none) (fun st p nt t2 ps assign body => bi (inot (Nat.beq st 1)) (pendR t (h.set id .dead) k p)) none
def cRange (P : Program) (nt : Nat) (f : Operand) (ps : List Tmp) (assign body : Code) : Cl := cO P nt f fun g => .mk fun ih t h k => h.new (.loop 0 none nt t ps assign body) fun id h => doIter ih (.cons (.y id) .nil) h (fun _ h => overK2 t k h id) (g t)
def cCode (pu : PU) (P : Program) (rnd : Bool) (nt : Nat) (c : Code) : Cl := c.rec
  (.mk fun _ t h k => k t h)
  (fun _ ops draw => draw.rec (cOps rnd pu P nt ops ops.toList) (cDraw pu P nt ops))
  (fun _ _ ra rb => ra.rec fun f => rb.rec fun g => .mk fun ih t h k => f ih t h fun t h => g ih t h k)
  (fun x _ _ ra rb => cO P nt x fun gx => ra.rec fun f => rb.rec fun g => .mk fun ih t h k => boolK (gx t) fun r => r.rec (g ih t h k) (f ih t h k))
  (fun id _ rc => rc.rec fun f => .mk fun ih t h k => blkK id (f ih t h norT) k)
  (fun c rc => rc.rec fun f => .mk fun ih t h k => resK (f ih t h fun t h => ih (.code rnd nt (.loop c) t h)) k)
  (fun f ps assign body _ _ => rnd.rec (cRange P nt f ps.toList assign body) failC)
  (fun id => .mk fun _ t h _ => some (.exit id t h))
  (fun _ _ => failC)
  (fun _ => .mk fun _ t h k => k t h)
  (fun _ => failC)
  (.mk fun _ t h _ => some (.ret t h))
  (fun _ => failC)
abbrev Rs := T → H → KV → R
def cRes (P : Program) (nt : Nat) (l : List ResultVar) : (Rs → Cl) → Cl := l.rec (fun k => k fun _ _ q => q .nil) fun r _ ih k => r.rec
  (fun n => cG nt n fun g => ih fun f => k fun t h q => f t h fun r => q (.cons (g t) r))
  (fun n ty => cG nt n fun g => ocl (shape P ty) fun sh => sh.rec fun m agg => ih fun f => k fun t h q => loadK m agg h (g t) fun v => f t h fun r => q (.cons v r))
def oneV (l : V) : V := match l with
  | .cons v .nil => v
  | l => .t l
def endR (r : R) (k : KT) : R := r.rec none fun r => r.rec (fun _ _ => none) k k (fun _ _ _ => none)
/-- a function: the temporaries are laid; what it gives is told -/
def cFun (pu : PU) (P : Program) (fn : Func) : Cl := bcl (Nat.ble fn.ntmps 256) (ocl fn.body fun c => (cCode pu P false fn.ntmps c).rec fun f => cRes P fn.ntmps fn.results.toList fun rs => .mk fun ih t h _ => endR (f ih t h norT) fun t h => rs t h fun vs => some (.val (oneV vs) h))
def cFn (pu : PU) (P : Program) (f : FuncId) : Cl := ocl (P.funcs[f]?) (cFun pu P)
def fits (P : Program) (f : FuncId) (vs : V) : Bool := match P.funcs[f]? with | some fn => Nat.ble (lenV vs) fn.ntmps && !(fn.name == "runtime.NumGoroutine") | none => false
def step (pu : PU) (P : Program) (ih : IH) (k : Task) : R :=
  k.rec (fun f args h => bi (fits P f args) ((cFn pu P f).rec fun g => g ih (setAll args 0 Te) h norT)) (fun rnd nt c t h => (cCode pu P rnd nt c).rec fun g => g ih t h norT)
def ev (pu : PU) (P : Program) (n : Nat) : IH := n.rec (fun _ => none) (fun _ ih => step pu P ih)
end Go.Ev
namespace Go.Ev

theorem N.get_set {α : Type} (d e : D16) (v : α) (t : N α) : N.get d (N.set e v t) = if d = e then v else N.get d t := by
  cases t; cases d <;> cases e <;> rfl
theorem N.get_all {α : Type} (d : D16) (v : α) : N.get d (N.all v) = v := by cases d <;> rfl

theorem dig_inj : ∀ a, a < 16 → ∀ b, b < 16 → dig a = dig b → a = b := by decide

theorem getT_setT (t : T) (n m : Nat) (v : V) (hn : n < 256) (hm : m < 256) : getT (setT t n v) m = if m = n then v else getT t m := by
  unfold getT setT
  rw [N.get_set]
  by_cases h1 : dig (Nat.div m 16) = dig (Nat.div n 16)
  · have e1 := dig_inj _ (by show m / 16 < 16; omega) _ (by show n / 16 < 16; omega) h1
    rw [if_pos h1, N.get_set]
    by_cases h2 : dig (Nat.mod m 16) = dig (Nat.mod n 16)
    · have e2 := dig_inj _ (by show m % 16 < 16; omega) _ (by show n % 16 < 16; omega) h2
      have : m = n := by have a : m / 16 = n / 16 := e1; have b : m % 16 = n % 16 := e2; omega
      rw [if_pos h2, if_pos this]
    · have : m ≠ n := fun e => h2 (by rw [e])
      rw [if_neg h2, if_neg this, h1]
  · have : m ≠ n := fun e => h1 (by rw [e])
    rw [if_neg h1, if_neg this]

theorem getT_Te (m : Nat) : getT Te m = undefV := by unfold getT Te; rw [N.get_all, N.get_all]

theorem HT.get_set (t : HT) (n m : Nat) (b : B) (hn : n < 65536) (hm : m < 65536) : HT.get (HT.set t n b) m = if m = n then b else HT.get t m := by
  unfold HT.get HT.set set3 set2 set1
  by_cases h : m = n
  · subst h; simp only [N.get_set, if_true]
  · rw [if_neg h, N.get_set]
    by_cases h1 : dig (Nat.div m 4096) = dig (Nat.div n 4096)
    · have e1 : m / 4096 = n / 4096 := dig_inj _ (by show m / 4096 < 16; omega) _ (by show n / 4096 < 16; omega) h1
      rw [if_pos h1, N.get_set]
      by_cases h2 : dig (Nat.mod (Nat.div m 256) 16) = dig (Nat.mod (Nat.div n 256) 16)
      · have e2 : m / 256 % 16 = n / 256 % 16 := dig_inj _ (Nat.mod_lt _ (by decide)) _ (Nat.mod_lt _ (by decide)) h2
        rw [if_pos h2, N.get_set]
        by_cases h3 : dig (Nat.mod (Nat.div m 16) 16) = dig (Nat.mod (Nat.div n 16) 16)
        · have e3 : m / 16 % 16 = n / 16 % 16 := dig_inj _ (Nat.mod_lt _ (by decide)) _ (Nat.mod_lt _ (by decide)) h3
          rw [if_pos h3, N.get_set]
          have h4 : dig (Nat.mod m 16) ≠ dig (Nat.mod n 16) := fun h4 => h (by
            have e4 : m % 16 = n % 16 := dig_inj _ (Nat.mod_lt _ (by decide)) _ (Nat.mod_lt _ (by decide)) h4
            omega)
          rw [if_neg h4, h1, h2, h3]
        · rw [if_neg h3, h1, h2]
      · rw [if_neg h2, h1]
    · rw [if_neg h1]

theorem HTe_get (m : Nat) : HT.get HTe m = .dead := by unfold HT.get HTe; simp only [N.get_all]

@[simp] theorem force_eq (n : Nat) (k : Nat → R) : force n k = k n := by cases n <;> rfl
@[simp] theorem forceO_eq {β : Type} (n : Nat) (k : Nat → β) : forceO n k = k n := by cases n <;> rfl

theorem bi_some {x : Bool} {y : R} {r : Res} : bi x y = some r ↔ x = true ∧ y = some r := by cases x <;> simp [bi]
theorem ob_some {α β : Type} {x : Option α} {f : α → Option β} {r : β} : ob x f = some r ↔ ∃ a, x = some a ∧ f a = some r := by cases x <;> simp [ob]

theorem lenL_eq {α : Type} (l : List α) : lenL l = l.length := by
  induction l with
  | nil => rfl
  | cons a l ih => show Nat.succ (lenL l) = _; rw [ih]; rfl

@[simp] theorem pk_nil : pk [] = 0 := rfl
theorem pk_cons (a : UInt8) (l : List UInt8) : pk (a :: l) = a.toNat + 256 * pk l := rfl

theorem pk_append (a b : List UInt8) : pk (a ++ b) = pk a + pk b * 256 ^ a.length := by
  induction a with
  | nil => simp
  | cons x a ih => rw [List.cons_append, pk_cons, pk_cons, ih, List.length_cons, Nat.pow_succ]; rw [Nat.mul_add, ← Nat.add_assoc]; congr 1; rw [← Nat.mul_assoc, Nat.mul_comm 256 (pk b), Nat.mul_assoc, Nat.mul_comm 256]

theorem pk_drop (n : Nat) (l : List UInt8) : pk (l.drop n) = pk l / 256 ^ n := by
  induction n generalizing l with
  | zero => simp
  | succ n ih =>
    cases l with
    | nil => simp
    | cons a l =>
      rw [List.drop_succ_cons, ih, pk_cons, Nat.pow_succ, Nat.mul_comm (256 ^ n), ← Nat.div_div_eq_div_mul]
      congr 1
      have := a.toNat_lt
      omega

theorem pk_take (n : Nat) (l : List UInt8) : pk (l.take n) = pk l % 256 ^ n := by
  induction n generalizing l with
  | zero => simp [Nat.mod_one]
  | succ n ih =>
    cases l with
    | nil => simp
    | cons a l =>
      rw [List.take_succ_cons, pk_cons, pk_cons, ih, Nat.pow_succ, Nat.mul_comm (256 ^ n), Nat.mod_mul]
      have := a.toNat_lt
      have e : (a.toNat + 256 * pk l) % 256 = a.toNat := by omega
      have e2 : (a.toNat + 256 * pk l) / 256 = pk l := by omega
      rw [e, e2]

theorem pk_get (n : Nat) (l : List UInt8) (h : n < l.length) : l[n].toNat = pk l / 256 ^ n % 256 := by
  have h1 := pk_drop n l
  rw [List.drop_eq_getElem_cons h, pk_cons] at h1
  rw [← h1]
  have := l[n].toNat_lt
  omega

theorem pk_inj (a b : List UInt8) (hl : a.length = b.length) (h : pk a = pk b) : a = b := by
  induction a generalizing b with
  | nil => cases b with
    | nil => rfl
    | cons _ _ => simp at hl
  | cons x a ih =>
    cases b with
    | nil => simp at hl
    | cons y b =>
      rw [pk_cons, pk_cons] at h
      have hx := x.toNat_lt
      have hy := y.toNat_lt
      have e1 : x.toNat = y.toNat := by omega
      have e2 : pk a = pk b := by omega
      rw [ih b (by simpa using hl) e2, UInt8.toNat_inj.1 e1]

end Go.Ev
namespace Go.Ev

/-- where blocks lie, and of how many cells they are; what lies in blocks that nobody turns any more -/
@[ext] structure Sg where
  at_ : Nat → Option (Nat × Nat)
  fz : Nat → Option (List Value)
instance : CoeFun Sg (fun _ => Nat → Option (Nat × Nat)) := ⟨Sg.at_⟩

mutual
inductive VR (σ : Sg) : V → Value → Prop
  | b (x : Bool) : VR σ (.b x) (.bool x)
  | i (k : IntKind) (n : Nat) : VR σ (.i (kindN k) n) (.int k (Int.ofNat n))
  | j (k : IntKind) (n : Nat) : VR σ (.j (kindN k) n) (.int k (Int.negSucc n))
  | r (k : IntKind) (m n : Nat) (h : n < 256) : VR σ (.r (kindN k) m (n % m)) (.int k (Int.ofNat n))
  | s (b : ByteArray) : VR σ (.s (pk b.data.toList) b.size) (.string b)
  | z0 : VR σ (.z 0) (.pointer none)
  | z1 : VR σ (.z 1) (.slice none 0 0)
  | z2 : VR σ (.z 2) (.map none)
  | z3 : VR σ (.z 3) .nilFunc
  | z4 : VR σ (.z 4) .nilIface
  | p {id off b sz : Nat} (h : σ id = some (b, sz)) (hi : id < 65536) : VR σ (.p id off) (.pointer (some ⟨b, off, none⟩))
  | l {id off len es b sz cap : Nat} (h : σ id = some (b, sz)) (hi : id < 65536) (hc : len ≤ cap) (hs : off + cap * es ≤ sz) : VR σ (.l id off len es) (.slice (some ⟨b, off, none⟩) len cap)
  | l0 {id off es b sz o : Nat} (h : σ id = some (b, sz)) (hi : id < 65536) : VR σ (.l id off 0 es) (.slice (some ⟨b, o, none⟩) 0 0)
  | m {id b sz : Nat} (h : σ id = some (b, sz)) (hi : id < 65536) : VR σ (.m id) (.map (some b))
  | f {g : Nat} {x y : V} {c d : Array Value} (hx : VRs σ x c.toList) (hy : VRs σ y d.toList) : VR σ (.f g x y) (.func (.func g) c d)
  | y {id b sz : Nat} (h : σ id = some (b, sz)) (hi : id < 65536) : VR σ (.y id) (.func (.yield b) #[] #[])
  | a {l : V} {c : Array Value} (h : VRs σ l c.toList) : VR σ (.a c.size l) (.agg c)
  | t {l : V} {c : Array Value} (h : VRs σ l c.toList) : VR σ (.t l) (.tuple c)
  | c {ty : Nat} {x : V} {v : Value} (h : VR σ x v) : VR σ (.c ty x) (.iface ty v)
  | k {es n b off cap m : Nat} {xs : V} {C : List Value} (h : σ.fz b = some C) (hl : off + m ≤ C.length) (hm : n * es ≤ m) (hc : n ≤ cap) (hx : VRs σ xs ((C.drop off).take m)) : VR σ (.k es n xs) (.slice (some ⟨b, off, none⟩) n cap)
  | k0 {es b o cap : Nat} {xs : V} : VR σ (.k es 0 xs) (.slice (some ⟨b, o, none⟩) 0 cap)
  | q {b off m : Nat} {xs : V} {C : List Value} (h : σ.fz b = some C) (hl : off + m ≤ C.length) (hx : VRs σ xs ((C.drop off).take m)) : VR σ (.q xs) (.pointer (some ⟨b, off, none⟩))
  | un {v : Value} : VR σ .un v
inductive VRs (σ : Sg) : V → List Value → Prop
  | nil : VRs σ .nil []
  | cons {x r : V} {v : Value} {l : List Value} (h : VR σ x v) (hr : VRs σ r l) : VRs σ (.cons x r) (v :: l)
end

structure Up (σ τ : Sg) : Prop where
  at_ : ∀ id x, σ id = some x → τ id = some x
  fz : ∀ b C, σ.fz b = some C → τ.fz b = some C
instance {σ τ : Sg} : CoeFun (Up σ τ) (fun _ => ∀ id x, σ id = some x → τ id = some x) := ⟨Up.at_⟩
theorem Up.refl (σ : Sg) : Up σ σ := ⟨fun _ _ h => h, fun _ _ h => h⟩
theorem Up.trans {σ τ υ : Sg} (h : Up σ τ) (g : Up τ υ) : Up σ υ := ⟨fun id x e => g id x (h id x e), fun b C e => g.fz b C (h.fz b C e)⟩

mutual
theorem VR.mono {σ τ : Sg} (h : Up σ τ) {x : V} {v : Value} : VR σ x v → VR τ x v
  | .b x => .b x
  | .i k n => .i k n
  | .j k n => .j k n
  | .r k m n hn => .r k m n hn
  | .s b => .s b
  | .z0 => .z0 | .z1 => .z1 | .z2 => .z2 | .z3 => .z3 | .z4 => .z4
  | .p e hi => .p (h _ _ e) hi
  | .l e hi hc hs => .l (h _ _ e) hi hc hs
  | .l0 e hi => .l0 (h _ _ e) hi
  | .m e hi => .m (h _ _ e) hi
  | .f hx hy => .f (VRs.mono h hx) (VRs.mono h hy)
  | .y e hi => .y (h _ _ e) hi
  | .a g => .a (VRs.mono h g)
  | .t g => .t (VRs.mono h g)
  | .c g => .c (VR.mono h g)
  | .k e hl hm hc g => .k (h.fz _ _ e) hl hm hc (VRs.mono h g)
  | .k0 => .k0
  | .q e hl g => .q (h.fz _ _ e) hl (VRs.mono h g)
  | .un => .un
theorem VRs.mono {σ τ : Sg} (h : Up σ τ) {x : V} {l : List Value} : VRs σ x l → VRs τ x l
  | .nil => .nil
  | .cons g gr => .cons (VR.mono h g) (VRs.mono h gr)
end

theorem VR.undef (σ : Sg) : VR σ undefV undef := .t .nil

/-- entries of a map -/
inductive ER (σ : Sg) : V → List MapEntry → Prop
  | nil : ER σ .nil []
  | cons {k v r : V} {e : MapEntry} {l : List MapEntry} (hk : VR σ k e.key) (hv : VR σ v e.val) (hr : ER σ r l) : ER σ (.cons k (.cons v r)) (e :: l)
theorem ER.mono {σ τ : Sg} (h : Up σ τ) {x : V} {l : List MapEntry} (g : ER σ x l) : ER τ x l := by
  induction g with
  | nil => exact .nil
  | cons hk hv _ ih => exact .cons (hk.mono h) (hv.mono h) ih

/-- a row of temporaries -/
structure TR (σ : Sg) (nt : Nat) (t : T) (tm : Array Value) : Prop where
  size : tm.size = nt
  few : nt ≤ 256
  at_ : ∀ x, x < nt → VR σ (getT t x) (tm.getD x undef)
theorem TR.mono {σ τ : Sg} (h : Up σ τ) {nt : Nat} {t : T} {tm : Array Value} (g : TR σ nt t tm) : TR τ nt t tm := ⟨g.size, g.few, fun x hx => (g.at_ x hx).mono h⟩

def stN : LoopState → Nat
  | .ready => 0 | .busy => 1 | .done => 2 | .exhausted => 3

/-- the births of a map's entries: all different, all before now -/
def Births (en : Array MapEntry) (ck : Nat) : Prop := (en.toList.map (·.born)).Nodup ∧ ∀ x ∈ en.toList, x.born < ck
theorem Births.empty : Births #[] 0 := ⟨.nil, fun x h => (by cases h)⟩
theorem Births.set {en : Array MapEntry} {ck : Nat} (h : Births en ck) (j : Nat) (k v : Value) : Births (en.modify j fun e => { e with key := k, val := v }) ck := by
  have hm : (en.modify j fun e => { e with key := k, val := v }).toList.map (·.born) = en.toList.map (·.born) := by
    apply List.ext_getElem?
    intro i
    simp only [Array.toList_modify, List.getElem?_map, List.getElem?_modify]
    by_cases hij : j = i
    · subst hij; cases en.toList[j]? <;> simp
    · simp [hij]
  refine ⟨by rw [hm]; exact h.1, fun x hx => ?_⟩
  have : x.born ∈ en.toList.map (·.born) := by rw [← hm]; exact List.mem_map_of_mem hx
  obtain ⟨y, hy, e⟩ := List.mem_map.1 this
  rw [← e]; exact h.2 y hy
theorem Births.push {en : Array MapEntry} {ck : Nat} (h : Births en ck) (k v : Value) : Births (en.push { key := k, val := v, born := ck }) (ck + 1) := by
  refine ⟨?_, fun x hx => ?_⟩
  · rw [Array.toList_push, List.map_append, List.nodup_append]
    refine ⟨h.1, by simp, fun a ha b hb => ?_⟩
    obtain ⟨y, hy, rfl⟩ := List.mem_map.1 ha
    simp only [List.map_cons, List.map_nil, List.mem_singleton] at hb
    have := h.2 y hy
    omega
  · rw [Array.toList_push, List.mem_append, List.mem_singleton] at hx
    rcases hx with hx | rfl
    · have := h.2 x hx; omega
    · exact Nat.lt_succ_self _

/-- a block -/
def BOK (σ : Sg) : B → Nat → Obj → Prop
  | .cells n l, sz, o => ∃ C e fr, o = .cells C e fr ∧ C.size = sz ∧ n ≤ sz ∧ VRs σ l (C.toList.take n) ∧ ∀ j, j < sz → ¬ (fr.1 ≤ j ∧ j < fr.2)
  | .tab n l, sz, o => ∃ C e fr, o = .cells C e fr ∧ C.size = sz ∧ n ≤ sz ∧ ∀ τ, VRs τ l (C.toList.take n)
  | .map es, _, o => ∃ en ck, o = .map en ck ∧ ER σ es en.toList ∧ Births en ck
  | .siter s len pos, _, o => ∃ b : ByteArray, o = .stringIter b pos ∧ pk b.data.toList = s ∧ b.size = len
  | .loop st p nt t ps as bd, _, o => ∃ L : Loop, o = .loop L ∧ stN L.state = st ∧ L.pending = p ∧ TR σ nt t L.tmps ∧ L.params.toList = ps ∧ L.assign = as ∧ L.body = bd
  | .dead, _, _ => True
theorem BOK.mono {σ τ : Sg} (h : Up σ τ) {b : B} {sz : Nat} {o : Obj} (g : BOK σ b sz o) : BOK τ b sz o := by
  cases b with
  | cells n l => obtain ⟨C, e, fr, a, b, c, d, f⟩ := g; exact ⟨C, e, fr, a, b, c, d.mono h, f⟩
  | tab n l => exact g
  | map es => obtain ⟨C, e, a, b, c⟩ := g; exact ⟨C, e, a, b.mono h, c⟩
  | siter s len pos => exact g
  | loop st p nt t ps as bd => obtain ⟨L, a, b, c, d, e⟩ := g; exact ⟨L, a, b, c, d.mono h, e⟩
  | dead => trivial

abbrev Cm := Nat → B
structure HeapOK (σ : Sg) (c : Cm) (w : World) : Prop where
  ok : ∀ id, c id ≠ .dead → ∃ b sz o, σ id = some (b, sz) ∧ w.heap[b]? = some o ∧ BOK σ (c id) sz o
  inj : ∀ id id' b sz sz', c id ≠ .dead → c id' ≠ .dead → σ id = some (b, sz) → σ id' = some (b, sz') → id = id'
  fz : ∀ b C, σ.fz b = some C → (∃ e fr, w.heap[b]? = some (.cells C.toArray e fr)) ∧ ∀ id sz, c id ≠ .dead → σ id ≠ some (b, sz)

/-- what no step turns -/
structure Same (w w' : World) : Prop where
  os : w'.os = w.os
  tape : w'.tape = w.tape
  output : w'.output = w.output
theorem Same.refl (w : World) : Same w w := ⟨rfl, rfl, rfl⟩
theorem Same.trans {a b c : World} (h : Same a b) (g : Same b c) : Same a c := ⟨g.os.trans h.os, g.tape.trans h.tape, g.output.trans h.output⟩

/-- what a step may change: old blocks that nobody claims stay; who claims an old block has claimed it; tables stay -/
structure Ext (σ : Sg) (c : Cm) (w : World) (τ : Sg) (d : Cm) (w' : World) : Prop where
  up : Up σ τ
  size : w.heap.size ≤ w'.heap.size
  keep : ∀ b, b < w.heap.size → (∀ id sz, c id ≠ .dead → σ id ≠ some (b, sz)) → w'.heap[b]? = w.heap[b]?
  own : ∀ id b sz, d id ≠ .dead → τ id = some (b, sz) → b < w.heap.size → ∃ i z, c i ≠ .dead ∧ σ i = some (b, z)
  tabs : ∀ id n l, c id = .tab n l → d id = .tab n l
  same : Same w w'
  tabk : ∀ id n l b sz, c id = .tab n l → σ id = some (b, sz) → b < w.heap.size → w'.heap[b]? = w.heap[b]?
  fzn : ∀ b C, τ.fz b = some C → σ.fz b = none → b < w.heap.size → ∃ id sz, c id ≠ .dead ∧ σ id = some (b, sz)
  fzt : ∀ id n l b sz C, c id = .tab n l → σ id = some (b, sz) → τ.fz b = some C → σ.fz b = some C

theorem Ext.refl (σ : Sg) (c : Cm) (w : World) : Ext σ c w σ c w := ⟨Up.refl σ, Nat.le_refl _, fun _ _ _ => rfl, fun i _ z h e _ => ⟨i, z, h, e⟩, fun _ _ _ h => h, Same.refl _, fun _ _ _ _ _ _ _ _ => rfl, fun _ _ h1 h2 _ => absurd (h2.symm.trans h1) (fun h => nomatch h), fun _ _ _ _ _ _ _ _ h => h⟩
theorem Ext.trans {σ τ υ : Sg} {c d e : Cm} {w w' w'' : World} (h : Ext σ c w τ d w') (g : Ext τ d w' υ e w'') : Ext σ c w υ e w'' where
  up := h.up.trans g.up
  size := Nat.le_trans h.size g.size
  keep b hb hn := by
    rw [← h.keep b hb hn]
    refine g.keep b (Nat.lt_of_lt_of_le hb h.size) fun id sz hd hs => ?_
    obtain ⟨i, z, h1, h2⟩ := h.own id b sz hd hs hb
    exact hn i z h1 h2
  own id b sz hd hs hb := by
    obtain ⟨i, z, h1, h2⟩ := g.own id b sz hd hs (Nat.lt_of_lt_of_le hb h.size)
    exact h.own i b z h1 h2 hb
  tabs id n l hc := g.tabs id n l (h.tabs id n l hc)
  same := h.same.trans g.same
  tabk id n l b sz hc hs hb := by rw [g.tabk id n l b sz (h.tabs id n l hc) (h.up _ _ hs) (Nat.lt_of_lt_of_le hb h.size), h.tabk id n l b sz hc hs hb]
  fzn b C h1 h2 hb := by
    cases ht : τ.fz b with
    | some C' => exact h.fzn b C' ht h2 hb
    | none =>
      obtain ⟨id, sz, g1, g2⟩ := g.fzn b C h1 ht (Nat.lt_of_lt_of_le hb h.size)
      exact h.own id b sz g1 g2 hb
  fzt id n l b sz C hc hs hf := h.fzt id n l b sz C hc hs (g.fzt id n l b sz C (h.tabs id n l hc) (h.up _ _ hs) hf)

theorem HeapOK.lt {σ : Sg} {c : Cm} {w : World} (h : HeapOK σ c w) {id b sz : Nat} (hc : c id ≠ .dead) (hs : σ id = some (b, sz)) : b < w.heap.size := by
  obtain ⟨b', sz', o, h1, h2, _⟩ := h.ok id hc
  rw [hs] at h1
  obtain ⟨rfl, rfl⟩ := Prod.mk.inj (Option.some.inj h1)
  exact (Array.getElem?_eq_some_iff.1 h2).1

/-- a world that drew a number is the same heap -/
theorem HeapOK.of_heap {σ : Sg} {c : Cm} {w w' : World} (h : HeapOK σ c w) (e : w'.heap = w.heap) : HeapOK σ c w' :=
  ⟨fun id hc => by rw [e]; exact h.ok id hc, h.inj, fun b C hf => by rw [e]; exact h.fz b C hf⟩

def H.nx (h : H) : Nat := match h with | .mk n _ => n
def H.cl (h : H) : Cm := fun id => match h with | .mk _ t => if id < 65536 then t.get id else .dead

/-- from heap to heap -/
structure SExt (σ : Sg) (h : H) (w : World) (τ : Sg) (h' : H) (w' : World) : Prop extends Ext σ h.cl w τ h'.cl w' where
  nx : h.nx ≤ h'.nx
  out : ∀ id, ¬ (h.nx ≤ id ∧ id < h'.nx) → τ id = σ id
/-- the numbers between are free -/
def Fr (σ : Sg) (m n : Nat) : Prop := ∀ id, m ≤ id → 0 ≤ n → σ id = none

theorem SExt.refl (σ : Sg) (h : H) (w : World) : SExt σ h w σ h w := ⟨Ext.refl _ _ _, Nat.le_refl _, fun _ _ => rfl⟩
theorem SExt.trans {σ τ υ : Sg} {h h' h'' : H} {w w' w'' : World} (a : SExt σ h w τ h' w') (b : SExt τ h' w' υ h'' w'') : SExt σ h w υ h'' w'' where
  toExt := a.toExt.trans b.toExt
  nx := Nat.le_trans a.nx b.nx
  out id hid := by
    have h1 := a.nx; have h2 := b.nx
    rw [b.out id (by omega), a.out id (by omega)]
theorem Fr.front {σ : Sg} {a b c : Nat} (h : Fr σ a c) (hb : b ≤ c) : Fr σ a b := fun id h1 h2 => h id h1 (by omega)
theorem Fr.behind {σ τ : Sg} {h h' : H} {w w' : World} {c : Nat} (f : Fr σ h.nx c) (a : SExt σ h w τ h' w') : Fr τ h'.nx c := fun id h1 h2 => by
  have := a.nx
  rw [a.out id (by omega)]
  exact f id (by omega) h2

/-! ### the heap's operations -/
theorem H.cl_set (h : H) (id : Nat) (b : B) (hi : id < 65536) : (h.set id b).cl = fun x => if x = id then b else h.cl x := by
  cases h with
  | mk n t =>
    funext x
    show (if x < 65536 then (t.set id b).get x else .dead) = _
    by_cases hx : x < 65536
    · rw [if_pos hx, HT.get_set t id x b hi hx]
      show _ = if x = id then b else (if x < 65536 then t.get x else .dead)
      rw [if_pos hx]
    · have : x ≠ id := by omega
      rw [if_neg hx, if_neg this]
      show _ = if x < 65536 then t.get x else .dead
      rw [if_neg hx]
theorem H.nx_set (h : H) (id : Nat) (b : B) : (h.set id b).nx = h.nx := by cases h; rfl
theorem H.getK_eq (h : H) (id : Nat) (k : B → R) (hi : id < 65536) : h.getK id k = k (h.cl id) := by
  cases h with
  | mk n t => show k (t.get id) = k (if id < 65536 then t.get id else .dead); rw [if_pos hi]

/-- what 'new' tells -/
theorem H.new_some {h : H} {b : B} {k : Nat → H → R} {r : Res} (e : h.new b k = some r) :
    h.nx < 65536 ∧ ∃ h', k h.nx h' = some r ∧ h'.nx = h.nx + 1 ∧ h'.cl = fun x => if x = h.nx then b else h.cl x := by
  cases h with
  | mk n t =>
    cases n with
    | zero => cases e
    | succ m =>
      have e' : (Nat.blt m 65000).rec (motive := fun _ => R) none (k (Nat.succ m) (.mk (Nat.succ (Nat.succ m)) (t.set (Nat.succ m) b))) = some r := e
      cases hb : Nat.blt m 65000 with
      | false => rw [hb] at e'; cases e'
      | true =>
        rw [hb] at e'
        have hm : m < 65000 := by simpa [Nat.blt_eq] using hb
        refine ⟨by show m + 1 < 65536; omega, _, e', rfl, ?_⟩
        exact H.cl_set (.mk (m + 1) t) (m + 1) b (by omega)

/-- a new block -/
def newSg (σ : Sg) (id b sz : Nat) : Sg := ⟨fun x => if x = id then some (b, sz) else σ x, σ.fz⟩
theorem newSg_up {σ : Sg} {id b sz : Nat} (h : σ id = none) : Up σ (newSg σ id b sz) := ⟨fun x y e => by
  have : x ≠ id := fun e' => by subst e'; rw [h] at e; cases e
  simp only [newSg, if_neg this]; exact e, fun _ _ e => e⟩
theorem newSg_at (σ : Sg) (id b sz : Nat) : newSg σ id b sz id = some (b, sz) := by simp [newSg]

theorem alloc_old {w : World} {o : Obj} {b : Nat} (h : b < w.heap.size) : (w.alloc o).heap[b]? = w.heap[b]? := by
  show (w.heap.push o)[b]? = _
  rw [Array.getElem?_push_lt h, Array.getElem?_eq_getElem h]
theorem alloc_new (w : World) (o : Obj) : (w.alloc o).heap[w.heap.size]? = some o := by
  show (w.heap.push o)[w.heap.size]? = _
  simp

theorem HeapOK.new {σ : Sg} {h h' : H} {w : World} (ok : HeapOK σ h.cl w) {b : B} {o : Obj} {sz : Nat} (free : σ h.nx = none)
    (hn : h'.nx = h.nx + 1) (hc : h'.cl = fun x => if x = h.nx then b else h.cl x)
    (hb : BOK (newSg σ h.nx w.heap.size sz) b sz o) : HeapOK (newSg σ h.nx w.heap.size sz) h'.cl (w.alloc o) ∧ SExt σ h w (newSg σ h.nx w.heap.size sz) h' (w.alloc o) := by
  have up := newSg_up (b := w.heap.size) (sz := sz) free
  have old : ∀ id, id ≠ h.nx → newSg σ h.nx w.heap.size sz id = σ id := fun id hid => by simp [newSg, hid]
  have hdead : h.cl h.nx = .dead := by
    by_cases hd : h.cl h.nx = .dead
    · exact hd
    · obtain ⟨b', sz', o', h1, _⟩ := ok.ok _ hd
      rw [free] at h1; cases h1
  have hlt : ∀ id b' sz', h.cl id ≠ .dead → σ id = some (b', sz') → b' < w.heap.size := fun id b' sz' => ok.lt
  refine ⟨⟨fun id hid => ?_, fun id id' b1 s1 s2 h1 h2 e1 e2 => ?_, fun x C hf => by
    obtain ⟨⟨e, fr, g1⟩, g2⟩ := ok.fz x C hf
    have hx := (Array.getElem?_eq_some_iff.1 g1).1
    refine ⟨⟨e, fr, by rw [alloc_old hx]; exact g1⟩, fun i z hd e1 => ?_⟩
    rw [hc] at hd
    by_cases a : i = h.nx
    · subst a; rw [newSg_at] at e1; obtain ⟨rfl, rfl⟩ := Prod.mk.inj (Option.some.inj e1); omega
    · simp only [if_neg a] at hd; rw [old _ a] at e1; exact g2 _ _ hd e1⟩, ⟨up, by simp, fun b' hb' _ => alloc_old hb', fun id b' sz' h1 e1 hb' => ?_, fun id n l he => ?_, ⟨rfl, rfl, rfl⟩, fun _ _ _ _ _ _ _ hb' => alloc_old hb', fun _ _ h1 h2 _ => absurd (h2.symm.trans h1) (fun h => nomatch h), fun _ _ _ _ _ _ _ _ h => h⟩, by omega, fun id hid => ?_⟩
  · rw [hc] at hid ⊢
    by_cases e : id = h.nx
    · subst e
      simp only [if_true] at hid ⊢
      exact ⟨_, _, _, newSg_at _ _ _ _, alloc_new _ _, hb⟩
    · simp only [if_neg e] at hid ⊢
      obtain ⟨b', sz', o', g1, g2, g3⟩ := ok.ok id hid
      exact ⟨b', sz', o', by rw [old id e]; exact g1, by rw [alloc_old (hlt _ _ _ hid g1)]; exact g2, g3.mono up⟩
  · rw [hc] at h1 h2
    by_cases a1 : id = h.nx
    · by_cases a2 : id' = h.nx
      · omega
      · simp only [if_neg a2] at h2
        subst a1
        rw [newSg_at] at e1
        obtain ⟨rfl, rfl⟩ := Prod.mk.inj (Option.some.inj e1)
        rw [old _ a2] at e2
        have := hlt _ _ _ h2 e2
        omega
    · simp only [if_neg a1] at h1
      rw [old _ a1] at e1
      by_cases a2 : id' = h.nx
      · subst a2
        rw [newSg_at] at e2
        obtain ⟨rfl, rfl⟩ := Prod.mk.inj (Option.some.inj e2)
        have := hlt _ _ _ h1 e1
        omega
      · simp only [if_neg a2] at h2
        rw [old _ a2] at e2
        exact ok.inj _ _ _ _ _ h1 h2 e1 e2
  · rw [hc] at h1
    by_cases e : id = h.nx
    · subst e
      rw [newSg_at] at e1
      obtain ⟨rfl, rfl⟩ := Prod.mk.inj (Option.some.inj e1)
      omega
    · simp only [if_neg e] at h1
      rw [old _ e] at e1
      exact ⟨id, sz', h1, e1⟩
  · rw [hc]
    have : id ≠ h.nx := fun e' => by subst e'; rw [hdead] at he; cases he
    simp only [if_neg this]
    exact he
  · exact old id (by omega)

/-- a block that is claimed is turned -/
theorem HeapOK.turn {σ : Sg} {h : H} {w w' : World} (ok : HeapOK σ h.cl w) {id b sz : Nat} {bl : B} {o : Obj} (hi : id < 65536) (hs : σ id = some (b, sz)) (hc : h.cl id ≠ .dead)
    (ht : ∀ n l, h.cl id ≠ .tab n l) (hw : w'.heap.size = w.heap.size) (hb : w'.heap[b]? = some o) (hk : BOK σ bl sz o)
    (hold2 : (∀ b', b' ≠ b → w'.heap[b']? = w.heap[b']?) ∧ Same w w') : HeapOK σ (h.set id bl).cl w' ∧ SExt σ h w σ (h.set id bl) w' := by
  obtain ⟨hold, hsm⟩ := hold2
  have htk : ∀ (x n : Nat) (l : V) (b' sz' : Nat), h.cl x = .tab n l → σ x = some (b', sz') → b' < w.heap.size → w'.heap[b']? = w.heap[b']? := fun x n l b' sz' g1 g2 _ => hold b' fun e => by
    have := ok.inj x id b' sz' sz (by rw [g1]; intro h; cases h) hc g2 (by rw [e]; exact hs)
    subst this; exact ht n l g1
  have hcl := H.cl_set h id bl hi
  refine ⟨⟨fun x hx => ?_, fun x y b1 s1 s2 h1 h2 e1 e2 => ?_, fun x C hf => by
    obtain ⟨⟨e, fr, g1⟩, g2⟩ := ok.fz x C hf
    have nb : x ≠ b := fun h => g2 id sz hc (by rw [h]; exact hs)
    refine ⟨⟨e, fr, by rw [hold x nb]; exact g1⟩, fun i z hd e1 => ?_⟩
    rw [hcl] at hd
    by_cases a : i = id
    · subst a; exact g2 _ z hc e1
    · simp only [if_neg a] at hd; exact g2 _ _ hd e1⟩, ⟨Up.refl σ, by omega, fun b' hb' hn => hold b' fun e => hn id sz hc (by rw [e]; exact hs), fun x b' sz' h1 e1 hb' => ?_, fun x n l he => ?_, hsm, htk, fun _ _ h1 h2 _ => absurd (h2.symm.trans h1) (fun h => nomatch h), fun _ _ _ _ _ _ _ _ h => h⟩, by rw [H.nx_set]; omega, fun _ _ => rfl⟩
  · rw [hcl] at hx ⊢
    by_cases e : x = id
    · subst e; simp only [if_true] at hx ⊢; exact ⟨b, sz, o, hs, hb, hk⟩
    · simp only [if_neg e] at hx ⊢
      obtain ⟨b', sz', o', g1, g2, g3⟩ := ok.ok x hx
      refine ⟨b', sz', o', g1, ?_, g3⟩
      rw [hold b' fun e' => e (ok.inj _ _ _ _ _ hx hc g1 (by rw [e']; exact hs))]
      exact g2
  · rw [hcl] at h1 h2
    have d : ∀ z, (if z = id then bl else h.cl z) ≠ .dead → h.cl z ≠ .dead := fun z hz => by
      by_cases e : z = id
      · rw [e]; exact hc
      · simpa only [if_neg e] using hz
    exact ok.inj _ _ _ _ _ (d _ h1) (d _ h2) e1 e2
  · rw [hcl] at h1
    refine ⟨x, sz', ?_, e1⟩
    by_cases e : x = id
    · rw [e]; exact hc
    · simpa only [if_neg e] using h1
  · rw [hcl]
    have : x ≠ id := fun e' => by subst e'; exact ht n l he
    simp only [if_neg this]; exact he

/-- a claim is given up, and the block claimed anew, by a new number -/
theorem HeapOK.move {σ : Sg} {h h' : H} {w w' : World} (ok : HeapOK σ h.cl w) {id b sz : Nat} {bl : B} {o : Obj} (hi : id < 65536) (hs : σ id = some (b, sz)) (hc : h.cl id ≠ .dead) (ht : ∀ n l, h.cl id ≠ .tab n l)
    (free : σ h.nx = none) (hn : h'.nx = h.nx + 1) (hcl : h'.cl = fun x => if x = h.nx then bl else (h.set id .dead).cl x) (hw : w'.heap.size = w.heap.size) (hb : w'.heap[b]? = some o)
    (hk : BOK (newSg σ h.nx b sz) bl sz o) (hold2 : (∀ b', b' ≠ b → w'.heap[b']? = w.heap[b']?) ∧ Same w w') : HeapOK (newSg σ h.nx b sz) h'.cl w' ∧ SExt σ h w (newSg σ h.nx b sz) h' w' := by
  obtain ⟨hold, hsm⟩ := hold2
  have htk : ∀ (x n : Nat) (l : V) (b' sz' : Nat), h.cl x = .tab n l → σ x = some (b', sz') → b' < w.heap.size → w'.heap[b']? = w.heap[b']? := fun x n l b' sz' g1 g2 _ => hold b' fun e => by
    have := ok.inj x id b' sz' sz (by rw [g1]; intro h; cases h) hc g2 (by rw [e]; exact hs)
    subst this; exact ht n l g1
  have up := newSg_up (b := b) (sz := sz) free
  have old : ∀ x, x ≠ h.nx → newSg σ h.nx b sz x = σ x := fun x hx => by simp [newSg, hx]
  have hdead : h.cl h.nx = .dead := by
    by_cases hd : h.cl h.nx = .dead
    · exact hd
    · obtain ⟨b', sz', o', h1, _⟩ := ok.ok _ hd
      rw [free] at h1; cases h1
  have hcl2 := H.cl_set h id .dead hi
  have cl' : ∀ x, h'.cl x = if x = h.nx then bl else if x = id then .dead else h.cl x := fun x => by rw [hcl, hcl2]
  have hne : id ≠ h.nx := fun e => by rw [e] at hs; rw [free] at hs; cases hs
  refine ⟨⟨fun x hx => ?_, fun x y b1 s1 s2 h1 h2 e1 e2 => ?_, fun x C hf => by
    obtain ⟨⟨e, fr, g1⟩, g2⟩ := ok.fz x C hf
    have nb : x ≠ b := fun h => g2 id sz hc (by rw [h]; exact hs)
    refine ⟨⟨e, fr, by rw [hold x nb]; exact g1⟩, fun i z hd e1 => ?_⟩
    by_cases a : i = h.nx
    · subst a; rw [newSg_at] at e1; exact nb (Prod.mk.inj (Option.some.inj e1)).1.symm
    · rw [old _ a] at e1
      rw [cl', if_neg a] at hd
      by_cases a2 : i = id
      · rw [if_pos a2] at hd; exact hd rfl
      · rw [if_neg a2] at hd; exact g2 _ _ hd e1⟩, ⟨up, by omega, fun b' hb' hn' => hold b' fun e => hn' id sz hc (by rw [e]; exact hs), fun x b' sz' h1 e1 hb' => ?_, fun x n l he => ?_, hsm, htk, fun _ _ h1 h2 _ => absurd (h2.symm.trans h1) (fun h => nomatch h), fun _ _ _ _ _ _ _ _ h => h⟩, by omega, fun x hx => old x (by omega)⟩
  · rw [cl'] at hx ⊢
    by_cases e : x = h.nx
    · subst e; simp only [if_true] at hx ⊢; exact ⟨b, sz, o, newSg_at _ _ _ _, hb, hk⟩
    · simp only [if_neg e] at hx ⊢
      by_cases e2 : x = id
      · rw [if_pos e2] at hx; exact absurd rfl hx
      · simp only [if_neg e2] at hx ⊢
        obtain ⟨b', sz', o', g1, g2, g3⟩ := ok.ok x hx
        refine ⟨b', sz', o', by rw [old x e]; exact g1, ?_, g3.mono up⟩
        rw [hold b' fun e' => e2 (ok.inj _ _ _ _ _ hx hc g1 (by rw [e']; exact hs))]
        exact g2
  · have d : ∀ z, h'.cl z ≠ .dead → z ≠ h.nx → h.cl z ≠ .dead ∧ z ≠ id := fun z hz hzn => by
      rw [cl', if_neg hzn] at hz
      by_cases e : z = id
      · rw [if_pos e] at hz; exact absurd rfl hz
      · rw [if_neg e] at hz; exact ⟨hz, e⟩
    by_cases a1 : x = h.nx
    · by_cases a2 : y = h.nx
      · omega
      · subst a1
        rw [newSg_at] at e1
        obtain ⟨rfl, rfl⟩ := Prod.mk.inj (Option.some.inj e1)
        rw [old _ a2] at e2
        obtain ⟨q1, q2⟩ := d y h2 a2
        exact absurd (ok.inj _ _ _ _ _ q1 hc e2 hs) q2
    · by_cases a2 : y = h.nx
      · subst a2
        rw [newSg_at] at e2
        obtain ⟨rfl, rfl⟩ := Prod.mk.inj (Option.some.inj e2)
        rw [old _ a1] at e1
        obtain ⟨q1, q2⟩ := d x h1 a1
        exact absurd (ok.inj _ _ _ _ _ q1 hc e1 hs) q2
      · rw [old _ a1] at e1
        rw [old _ a2] at e2
        exact ok.inj _ _ _ _ _ (d x h1 a1).1 (d y h2 a2).1 e1 e2
  · by_cases a1 : x = h.nx
    · subst a1
      rw [newSg_at] at e1
      obtain ⟨rfl, rfl⟩ := Prod.mk.inj (Option.some.inj e1)
      exact ⟨id, sz, hc, hs⟩
    · rw [old _ a1] at e1
      rw [cl', if_neg a1] at h1
      by_cases e : x = id
      · rw [if_pos e] at h1; exact absurd rfl h1
      · rw [if_neg e] at h1; exact ⟨x, sz', h1, e1⟩
  · rw [cl']
    have n1 : x ≠ h.nx := fun e' => by subst e'; rw [hdead] at he; cases he
    have n2 : x ≠ id := fun e' => by subst e'; exact ht n l he
    rw [if_neg n1, if_neg n2]; exact he

/-- a claim is given up -/
theorem HeapOK.kill {σ : Sg} {h : H} {w w' : World} (ok : HeapOK σ h.cl w) {id : Nat} (hi : id < 65536) (ht : ∀ n l, h.cl id ≠ .tab n l) (hw : w'.heap = w.heap) (hsm : Same w w') :
    HeapOK σ (h.set id .dead).cl w' ∧ SExt σ h w σ (h.set id .dead) w' := by
  have hcl := H.cl_set h id .dead hi
  have d : ∀ z, (h.set id .dead).cl z ≠ .dead → h.cl z ≠ .dead ∧ z ≠ id := fun z hz => by
    rw [hcl] at hz
    by_cases e : z = id
    · simp only [if_pos e] at hz; exact absurd rfl hz
    · simp only [if_neg e] at hz; exact ⟨hz, e⟩
  refine ⟨⟨fun x hx => ?_, fun x y b1 s1 s2 h1 h2 e1 e2 => ok.inj _ _ _ _ _ (d x h1).1 (d y h2).1 e1 e2, fun x C hf => by
    obtain ⟨g1, g2⟩ := ok.fz x C hf
    exact ⟨by rw [hw]; exact g1, fun i z hd e1 => g2 i z (d i hd).1 e1⟩⟩, ⟨Up.refl σ, by rw [hw]; exact Nat.le_refl _, fun b' _ _ => by rw [hw], fun x b' sz' h1 e1 _ => ⟨x, sz', (d x h1).1, e1⟩, fun x n l he => ?_, hsm, fun _ _ _ _ _ _ _ _ => by rw [hw], fun _ _ h1 h2 _ => absurd (h2.symm.trans h1) (fun h => nomatch h), fun _ _ _ _ _ _ _ _ h => h⟩, by rw [H.nx_set]; exact Nat.le_refl _, fun _ _ => rfl⟩
  · obtain ⟨q1, q2⟩ := d x hx
    rw [hcl]; simp only [if_neg q2]
    rw [hw]; exact ok.ok x q1
  · rw [hcl]
    have n2 : x ≠ id := fun e' => by subst e'; exact ht n l he
    simp only [if_neg n2]; exact he

end Go.Ev
namespace Go.Ev

theorem VRs.len {σ : Sg} {v : V} {l : List Value} (h : VRs σ v l) : lenV v = l.length := by
  induction l generalizing v with
  | nil => cases h; rfl
  | cons a l ih => cases h with
    | cons hx hr => show Nat.succ (lenV _) = _; rw [ih hr]; rfl

theorem nthK_some {v : V} {n : Nat} {k : KV} {r : Res} (e : nthK v n k = some r) :
    ∃ x, k x = some r ∧ ∀ σ l, VRs σ v l → ∃ y, l[n]? = some y ∧ VR σ x y := by
  induction n generalizing v with
  | zero =>
    cases v <;> try (exact absurd e (by intro e; cases e))
    case cons x rr => exact ⟨x, e, fun σ l h => by cases h with | cons hx hr => exact ⟨_, rfl, hx⟩⟩
  | succ n ih =>
    cases v <;> try (exact absurd e (by intro e; cases e))
    case cons x rr =>
      obtain ⟨y, h1, h2⟩ := ih (v := rr) e
      exact ⟨y, h1, fun σ l h => by cases h with | cons hx hr => exact h2 σ _ hr⟩

theorem takeK_some {v : V} {n : Nat} {k : KV} {r : Res} (e : takeK n v k = some r) :
    ∃ x, k x = some r ∧ ∀ σ l, VRs σ v l → n ≤ l.length ∧ VRs σ x (l.take n) := by
  induction n generalizing v k with
  | zero => exact ⟨.nil, e, fun σ l h => ⟨Nat.zero_le _, .nil⟩⟩
  | succ n ih =>
    cases v <;> try (exact absurd e (by intro e; cases e))
    case cons x rr =>
      obtain ⟨y, h1, h2⟩ := ih (v := rr) (k := fun s => k (.cons x s)) e
      exact ⟨.cons x y, h1, fun σ l h => by cases h with | cons hx hr => exact ⟨Nat.succ_le_succ (h2 σ _ hr).1, .cons hx (h2 σ _ hr).2⟩⟩

theorem dropK_some {v : V} {n : Nat} {k : KV} {r : Res} (e : dropK n v k = some r) :
    ∃ x, k x = some r ∧ ∀ σ l, VRs σ v l → n ≤ l.length ∧ VRs σ x (l.drop n) := by
  induction n generalizing v k with
  | zero => exact ⟨v, e, fun σ l h => ⟨Nat.zero_le _, h⟩⟩
  | succ n ih =>
    cases v <;> try (exact absurd e (by intro e; cases e))
    case cons x rr =>
      obtain ⟨y, h1, h2⟩ := ih (v := rr) (k := k) e
      exact ⟨y, h1, fun σ l h => by cases h with | cons hx hr => exact ⟨Nat.succ_le_succ (h2 σ _ hr).1, (h2 σ _ hr).2⟩⟩

theorem VRs.app {σ : Sg} {v w : V} {a b : List Value} (h : VRs σ v a) (g : VRs σ w b) : VRs σ (appV w v) (a ++ b) := by
  induction a generalizing v with
  | nil => cases h; exact g
  | cons x a ih => cases h with
    | cons hx hr => exact .cons hx (ih hr)

theorem over0K_some {ys l : V} {k : KV} {r : Res} (e : over0K ys l k = some r) :
    ∃ x, k x = some r ∧ ∀ σ a b, VRs σ ys a → VRs σ l b → a.length ≤ b.length ∧ VRs σ x (a ++ b.drop a.length) := by
  induction ys generalizing l k <;> try (exact absurd e (by intro e; cases e))
  case nil => exact ⟨l, e, fun σ a b h g => by cases h; exact ⟨Nat.zero_le _, g⟩⟩
  case cons y rest _ ih =>
    cases l <;> try (exact absurd e (by intro e; cases e))
    case cons x rr =>
      obtain ⟨z, h1, h2⟩ := ih (l := rr) (k := fun s => k (.cons y s)) e
      exact ⟨.cons y z, h1, fun σ a b h g => by
        cases h with | cons hx hr => cases g with | cons gx gr => exact ⟨Nat.succ_le_succ (h2 σ _ _ hr gr).1, .cons hx (h2 σ _ _ hr gr).2⟩⟩

theorem overK_some {n : Nat} {ys l : V} {k : KV} {r : Res} (e : overK n ys l k = some r) :
    ∃ x, k x = some r ∧ ∀ σ a b, VRs σ ys a → VRs σ l b → n + a.length ≤ b.length ∧ VRs σ x (b.take n ++ (a ++ b.drop (n + a.length))) := by
  induction n generalizing l k with
  | zero =>
    obtain ⟨x, h1, h2⟩ := over0K_some e
    exact ⟨x, h1, fun σ a b h g => by simpa using h2 σ a b h g⟩
  | succ n ih =>
    cases l <;> try (exact absurd e (by intro e; cases e))
    case cons x rr =>
      obtain ⟨z, h1, h2⟩ := ih (l := rr) (k := fun s => k (.cons x s)) e
      exact ⟨.cons x z, h1, fun σ a b h g => by
        cases g with | cons gx gr =>
          obtain ⟨h3, h4⟩ := h2 σ _ _ h gr
          refine ⟨by simp only [List.length_cons]; omega, ?_⟩
          rw [show n + 1 + a.length = (n + a.length) + 1 from by omega, List.take_succ_cons, List.drop_succ_cons, List.cons_append]
          exact .cons gx h4⟩

/-- a value of one cell is no row of cells, and no many -/
def oneCell (v : Value) : Prop := v.cells = #[v]

theorem cellsK_some {v : V} {k : Nat → V → R} {r : Res} (e : cellsK v k = some r) :
    ∃ n l, k n l = some r ∧ ∀ σ x, VR σ v x → x.cells.size = n ∧ VRs σ l x.cells.toList ∧ (x = .agg x.cells ∨ x.cells = #[x] ∧ x.oneCell' = true) := by
  cases v <;> try (exact absurd e (by intro e; cases e))
  case a n l => exact ⟨n, l, e, fun σ x h => by cases h with | a g => exact ⟨rfl, g, .inl rfl⟩⟩
  all_goals exact ⟨1, _, e, fun σ x h => by
    have h' := h
    cases h <;> exact ⟨rfl, .cons h' .nil, .inr ⟨rfl, rfl⟩⟩⟩

theorem aggK_some {v : V} {k : Nat → V → R} {r : Res} (e : aggK v k = some r) :
    ∃ n l, k n l = some r ∧ ∀ σ x, VR σ v x → ∃ c : Array Value, x = .agg c ∧ c.size = n ∧ VRs σ l c.toList := by
  cases v <;> try (exact absurd e (by intro e; cases e))
  case a n l => exact ⟨n, l, e, fun σ x h => by cases h with | a g => exact ⟨_, rfl, rfl, g⟩⟩

/-- a part of a row -/
def PartOK (σ : Sg) (cs : List Value) (off n : Nat) (agg : Bool) (x : V) : Prop :=
  (agg = true → off + n ≤ cs.length ∧ VR σ x (.agg ((cs.drop off).take n).toArray)) ∧ (agg = false → ∃ y, cs[off]? = some y ∧ VR σ x y)

theorem VR.agg' {σ : Sg} {n : Nat} {l : V} {c : List Value} (h : VRs σ l c) (hn : c.length = n) : VR σ (.a n l) (.agg c.toArray) := by
  subst hn
  have := @VR.a σ l c.toArray (by simpa using h)
  simpa using this

theorem cutK_some {l : V} {off n : Nat} {k : KV} {r : Res} (e : cutK l off n k = some r) :
    ∃ x, k x = some r ∧ ∀ σ cs, VRs σ l cs → off + n ≤ cs.length ∧ VR σ x (.agg ((cs.drop off).take n).toArray) := by
  obtain ⟨y, e1, h1⟩ := dropK_some e
  obtain ⟨z, e2, h2⟩ := takeK_some e1
  refine ⟨_, e2, fun σ cs h => ?_⟩
  obtain ⟨g1, g2⟩ := h1 σ cs h
  obtain ⟨g3, g4⟩ := h2 σ _ g2
  rw [List.length_drop] at g3
  refine ⟨by omega, VR.agg' g4 (by rw [List.length_take, List.length_drop]; omega)⟩

theorem partK_some {m : Nat} {l : V} {off n : Nat} {agg : Bool} {k : KV} {r : Res} (e : partK m l off n agg k = some r) :
    ∃ x, k x = some r ∧ ∀ σ cs, VRs σ l cs → cs.length = m → PartOK σ cs off n agg x := by
  cases agg with
  | false =>
    obtain ⟨x, e1, h⟩ := nthK_some e
    exact ⟨x, e1, fun σ cs g _ => ⟨fun hh => (Bool.noConfusion hh), fun _ => h σ cs g⟩⟩
  | true =>
    cases off with
    | zero =>
      have e' : wholeK m l n k = some r := e
      unfold wholeK at e'
      cases hb : Nat.beq m n with
      | false =>
        rw [hb] at e'
        obtain ⟨x, e1, h⟩ := cutK_some (r := r) e'
        exact ⟨x, e1, fun σ cs g _ => ⟨fun _ => h σ cs g, fun h => by cases h⟩⟩
      | true =>
        rw [hb] at e'
        have hmn : m = n := Nat.eq_of_beq_eq_true hb
        subst hmn
        refine ⟨_, e', fun σ cs g hl => ⟨fun _ => ⟨by omega, ?_⟩, fun h => by cases h⟩⟩
        have : (cs.drop 0).take m = cs := by simp [← hl]
        rw [this]
        exact VR.agg' g hl
    | succ o =>
      obtain ⟨x, e1, h⟩ := cutK_some (r := r) e
      exact ⟨x, e1, fun σ cs g _ => ⟨fun _ => h σ cs g, fun h => by cases h⟩⟩

/-! ### the heap looked at -/
def H.gt (h : H) (id : Nat) : B := match h with | .mk _ t => t.get id
theorem H.cl_gt (h : H) (id : Nat) (hi : id < 65536) : h.cl id = h.gt id := by
  cases h; show (if id < 65536 then _ else _) = _; rw [if_pos hi]; rfl
theorem H.getK_gt (h : H) (id : Nat) (k : B → R) : h.getK id k = k (h.gt id) := by cases h; rfl

theorem atK_some {h : H} {id : Nat} {k : Nat → V → R} {r : Res} (e : atK h id k = some r) :
    ∃ m l, k m l = some r ∧ (h.gt id = .cells m l ∨ h.gt id = .tab m l) := by
  unfold atK at e
  rw [H.getK_gt] at e
  cases hb : h.gt id <;> rw [hb] at e <;> try (exact absurd e (by intro e; cases e))
  · exact ⟨_, _, e, .inl rfl⟩
  · exact ⟨_, _, e, .inr rfl⟩
theorem rowK_some {h : H} {id : Nat} {k : Nat → V → R} {r : Res} (e : rowK h id k = some r) : ∃ m l, k m l = some r ∧ h.gt id = .cells m l := by
  unfold rowK at e
  rw [H.getK_gt] at e
  cases hb : h.gt id <;> rw [hb] at e <;> try (exact absurd e (by intro e; cases e))
  exact ⟨_, _, e, rfl⟩
theorem mapK_some {h : H} {id : Nat} {k : V → R} {r : Res} (e : mapK h id k = some r) : ∃ es, k es = some r ∧ h.gt id = .map es := by
  unfold mapK at e
  rw [H.getK_gt] at e
  cases hb : h.gt id <;> rw [hb] at e <;> try (exact absurd e (by intro e; cases e))
  exact ⟨_, e, rfl⟩

/-- a row of cells, in the world -/
structure RowAt (σ : Sg) (w : World) (b sz m : Nat) (l : V) (C : Array Value) : Prop where
  obj : ∃ e fr, w.heap[b]? = some (.cells C e fr)
  size : C.size = sz
  few : m ≤ sz
  rel : VRs σ l (C.toList.take m)

theorem HeapOK.row {σ : Sg} {h : H} {w : World} (ok : HeapOK σ h.cl w) {id b sz m : Nat} {l : V} (hi : id < 65536) (hs : σ id = some (b, sz))
    (hg : h.gt id = .cells m l ∨ h.gt id = .tab m l) : ∃ C, RowAt σ w b sz m l C := by
  have hc := H.cl_gt h id hi
  rcases hg with hg | hg <;> rw [hg] at hc
  · obtain ⟨b', sz', o, h1, h2, h3⟩ := ok.ok id (by rw [hc]; intro h; cases h)
    rw [hs] at h1
    obtain ⟨rfl, rfl⟩ := Prod.mk.inj (Option.some.inj h1)
    rw [hc] at h3
    obtain ⟨C, e, fr, rfl, a1, a2, a3, _⟩ := h3
    exact ⟨C, ⟨e, fr, h2⟩, a1, a2, a3⟩
  · obtain ⟨b', sz', o, h1, h2, h3⟩ := ok.ok id (by rw [hc]; intro h; cases h)
    rw [hs] at h1
    obtain ⟨rfl, rfl⟩ := Prod.mk.inj (Option.some.inj h1)
    rw [hc] at h3
    obtain ⟨C, e, fr, rfl, a1, a2, a3⟩ := h3
    exact ⟨C, ⟨e, fr, h2⟩, a1, a2, a3 σ⟩

theorem RowAt.cell {σ : Sg} {w : World} {b sz m : Nat} {l : V} {C : Array Value} (h : RowAt σ w b sz m l C) (off : Nat) : w.cell? ⟨b, off, none⟩ = C[off]? := by
  obtain ⟨e, fr, ho⟩ := h.obj
  simp [World.cell?, ho]

theorem fz_drop {C : List Value} {o m d : Nat} : ((C.drop o).take m).drop d = (C.drop (o + d)).take (m - d) := by rw [List.drop_take, List.drop_drop]
theorem fz_len {C : List Value} {o m : Nat} (h : o + m ≤ C.length) : ((C.drop o).take m).length = m := by rw [List.length_take, List.length_drop]; omega
theorem VRs.lenV {σ : Sg} {xs : V} {cs : List Value} (h : VRs σ xs cs) : cs.length = lenV xs := by
  induction cs generalizing xs with
  | nil => cases h; rfl
  | cons a l ih => cases h with | cons hx hr => rw [List.length_cons, ih hr]; rfl
/-- a load -/
theorem loadK_some {n : Nat} {agg : Bool} {h : H} {v : V} {k : KV} {r : Res} (e : loadK n agg h v k = some r) :
    ∃ x, k x = some r ∧ ∀ σ w a, HeapOK σ h.cl w → VR σ v a → ∃ b off, a = .pointer (some ⟨b, off, none⟩) ∧
      (agg = true → ∃ cs : List Value, cs.length = n ∧ (∀ j y, cs[j]? = some y → w.cell? ⟨b, off + j, none⟩ = some y) ∧ VR σ x (.agg cs.toArray)) ∧
      (agg = false → ∃ y, w.cell? ⟨b, off, none⟩ = some y ∧ VR σ x y) := by
  cases v <;> try (exact absurd e (by intro e; cases e))
  case p id off =>
    obtain ⟨m, l, e1, hg⟩ := atK_some e
    obtain ⟨x, e2, hx⟩ := partK_some e1
    refine ⟨x, e2, fun σ w a ok ha => ?_⟩
    cases ha with
    | @p _ _ b sz hs hi =>
      obtain ⟨C, hC⟩ := ok.row hi hs hg
      have hlen : (C.toList.take m).length = m := by rw [List.length_take, Array.length_toList, hC.size]; have := hC.few; omega
      obtain ⟨p1, p2⟩ := hx σ _ hC.rel hlen
      refine ⟨b, off, rfl, fun ha => ?_, fun ha => ?_⟩
      · obtain ⟨q1, q2⟩ := p1 ha
        refine ⟨_, ?_, fun j y hj => ?_, q2⟩
        · rw [List.length_take, List.length_drop]; omega
        · rw [hC.cell]
          rw [List.getElem?_take] at hj
          split at hj
          · rw [List.getElem?_drop, List.getElem?_take] at hj
            split at hj
            · rw [Array.getElem?_toList] at hj; exact hj
            · cases hj
          · cases hj
      · obtain ⟨y, q1, q2⟩ := p2 ha
        refine ⟨y, ?_, q2⟩
        rw [hC.cell]
        rw [List.getElem?_take] at q1
        split at q1
        · rw [Array.getElem?_toList] at q1; exact q1
        · cases q1

  case q xs =>
    obtain ⟨x, e2, hx⟩ := partK_some (show partK (lenV xs) xs 0 n agg k = some r from e)
    refine ⟨x, e2, fun σ w a ok ha => ?_⟩
    cases ha with
    | @q b off m _ C hf hl hxs =>
      obtain ⟨⟨ee, fr, ho⟩, _⟩ := ok.fz b C hf
      have cell : ∀ o, w.cell? ⟨b, o, none⟩ = C[o]? := fun o => by simp [World.cell?, ho]
      obtain ⟨p1, p2⟩ := hx σ _ hxs hxs.lenV
      refine ⟨b, off, rfl, fun ha => ?_, fun ha => ?_⟩
      · obtain ⟨q1, q2⟩ := p1 ha
        refine ⟨_, ?_, fun j y hj => ?_, q2⟩
        · rw [List.length_take, List.length_drop]; omega
        · rw [cell]
          rw [List.getElem?_take] at hj
          split at hj
          · rw [List.drop_zero, List.getElem?_take] at hj
            split at hj
            · rw [List.getElem?_drop] at hj; exact hj
            · cases hj
          · cases hj
      · obtain ⟨y, q1, q2⟩ := p2 ha
        refine ⟨y, ?_, q2⟩
        rw [cell]
        rw [List.getElem?_take] at q1
        split at q1
        · rw [List.getElem?_drop, Nat.add_zero] at q1; exact q1
        · cases q1

end Go.Ev
namespace Go.Ev

theorem kindN_inj {j k : IntKind} (h : kindN j = kindN k) : j = k := by cases j <;> cases k <;> first | rfl | (exact absurd h (by decide))

theorem top_eq (k : IntKind) : topK (kindN k) = match k with | .i8 => 128 | .i16 => 32768 | .i32 => 2147483648 | .i64 => 9223372036854775808 | .u8 => 256 | .u16 => 65536 | .u32 => 4294967296 | .u64 => 18446744073709551616 := by cases k <;> rfl
theorem low_eq (k : IntKind) : lowK (kindN k) = match k with | .i8 => 128 | .i16 => 32768 | .i32 => 2147483648 | .i64 => 9223372036854775808 | _ => 0 := by cases k <;> rfl
theorem wrap_pos {k : IntKind} {m : Nat} (h : m < topK (kindN k)) : k.wrap (Int.ofNat m) = Int.ofNat m := by
  rw [top_eq] at h
  cases k <;> simp only at h <;> simp [IntKind.wrap, IntKind.bits, IntKind.signed] <;> (try split) <;> omega
theorem wrap_neg {k : IntKind} {m : Nat} (h : m < lowK (kindN k)) : k.wrap (Int.negSucc m) = Int.negSucc m := by
  rw [low_eq] at h
  cases k <;> simp only at h <;> first | (exact absurd h (Nat.not_lt_zero _)) | (simp only [IntKind.wrap, IntKind.bits, IntKind.signed]; simp; (try split) <;> omega)

theorem posK_some {c m : Nat} {k : KV} {r : Res} (e : posK c m k = some r) : m < topK c ∧ k (.i c m) = some r := by
  unfold posK at e
  cases hb : Nat.blt m (topK c) <;> rw [hb] at e
  · cases e
  · exact ⟨by simpa [Nat.blt_eq] using hb, by simpa using e⟩
theorem negK_some {c m : Nat} {k : KV} {r : Res} (e : negK c m k = some r) : m < lowK c ∧ k (.j c m) = some r := by
  unfold negK at e
  cases hb : Nat.blt m (lowK c) <;> rw [hb] at e
  · cases e
  · exact ⟨by simpa [Nat.blt_eq] using hb, by simpa using e⟩

/-- a number that a kind holds -/
def NumOK (c : Nat) (z : Int) (v : V) : Prop := ∀ k : IntKind, kindN k = c → k.wrap z = z ∧ ∀ σ, VR σ v (.int k z)
theorem posK_num {c m : Nat} {k : KV} {r : Res} (e : posK c m k = some r) : ∃ v, k v = some r ∧ NumOK c (Int.ofNat m) v := by
  obtain ⟨h1, h2⟩ := posK_some e
  exact ⟨_, h2, fun k hk => by subst hk; exact ⟨wrap_pos h1, fun σ => .i k m⟩⟩
theorem negK_num {c m : Nat} {k : KV} {r : Res} (e : negK c m k = some r) : ∃ v, k v = some r ∧ NumOK c (Int.negSucc m) v := by
  obtain ⟨h1, h2⟩ := negK_some e
  exact ⟨_, h2, fun k hk => by subst hk; exact ⟨wrap_neg h1, fun σ => .j k m⟩⟩
theorem subN_num {c m n : Nat} {k : KV} {r : Res} (e : subN c m n k = some r) : ∃ v, k v = some r ∧ NumOK c ((m : Int) - n) v := by
  unfold subN at e
  cases hb : Nat.ble n m <;> rw [hb] at e
  · have hlt : m < n := by
      rcases Nat.lt_or_ge m n with h | h
      · exact h
      · rw [Nat.ble_eq_true_of_le h] at hb; cases hb
    obtain ⟨v, h1, h2⟩ := negK_num (r := r) e
    refine ⟨v, h1, ?_⟩
    have : (m : Int) - n = Int.negSucc (Nat.pred (Nat.sub n m)) := by
      have : Nat.pred (Nat.sub n m) = n - m - 1 := rfl
      rw [this]; omega
    rw [this]; exact h2
  · have hle : n ≤ m := Nat.le_of_ble_eq_true hb
    obtain ⟨v, h1, h2⟩ := posK_num (r := r) e
    refine ⟨v, h1, ?_⟩
    have : (m : Int) - n = Int.ofNat (Nat.sub m n) := by
      show (m : Int) - n = ((m - n : Nat) : Int)
      omega
    rw [this]; exact h2

/-- what an operator's function tells is what the operator tells -/
def BinOK (P : Program) (t : TypeId) (op : BinOp) (f : BK) : Prop := ∀ a b k r, f a b k = some r → ∃ v, k v = some r ∧ ∀ σ x y, VR σ a x → VR σ b y →
  (∃ z, (∀ (w : World), (binOp op t x y).run P w = .ok z w) ∧ VR σ v z) ∧ (¬ ∃ c d, x = .agg c ∧ y = .agg d) ∧ ¬ (x = .nilIface ∧ y = .nilIface)

theorem beq_kind {j k : IntKind} {y : R} {r : Res} (e : bi (Nat.beq (kindN j) (kindN k)) y = some r) : j = k ∧ y = some r := by
  obtain ⟨h1, h2⟩ := bi_some.1 e
  exact ⟨kindN_inj (Nat.eq_of_beq_eq_true h1), h2⟩


theorem VR.int_i {σ : Sg} {c m : Nat} {x : Value} (h : VR σ (.i c m) x) : ∃ k, kindN k = c ∧ x = .int k (Int.ofNat m) := by cases h; exact ⟨_, rfl, rfl⟩
theorem VR.int_j {σ : Sg} {c m : Nat} {x : Value} (h : VR σ (.j c m) x) : ∃ k, kindN k = c ∧ x = .int k (Int.negSucc m) := by cases h; exact ⟨_, rfl, rfl⟩

abbrev BinGoal (P : Program) (t : TypeId) (op : BinOp) (v : V) (σ : Sg) (x y : Value) : Prop :=
  (∃ z, (∀ (w : World), (binOp op t x y).run P w = .ok z w) ∧ VR σ v z) ∧ (¬ ∃ c d, x = .agg c ∧ y = .agg d) ∧ ¬ (x = .nilIface ∧ y = .nilIface)

section
variable {P : Program} {t : TypeId}
theorem int_fin {op : BinOp} {v : V} {σ : Sg} {x y : Value} {c d : Nat} {za zb : Int} (hcd : Nat.beq c d = true) (hx : ∃ k, kindN k = c ∧ x = .int k za) (hy : ∃ k, kindN k = d ∧ y = .int k zb)
    (h : ∀ k : IntKind, kindN k = c → ∃ z, (∀ (w : World), (binOp op t (.int k za) (.int k zb)).run P w = .ok z w) ∧ VR σ v z) : BinGoal P t op v σ x y := by
  obtain ⟨k, hk, rfl⟩ := hx
  obtain ⟨k', hk', rfl⟩ := hy
  have : k' = k := kindN_inj (by rw [hk', hk]; exact (Nat.eq_of_beq_eq_true hcd).symm)
  subst this
  exact ⟨h _ hk, fun ⟨_, _, h, _⟩ => (by cases h), fun ⟨h, _⟩ => (by cases h)⟩

theorem arith_fin {op : BinOp} {f : Int → Int → Int} (hf : ∀ (P : Program) (t : TypeId) (k : IntKind) (a b : Int) (w : World), (binOp op t (.int k a) (.int k b)).run P w = .ok (.int k (k.wrap (f a b))) w)
    {v : V} {σ : Sg} {x y : Value} {c d : Nat} {za zb z : Int} (hz : z = f za zb) (hv : NumOK c z v) (hcd : Nat.beq c d = true) (hx : ∃ k, kindN k = c ∧ x = .int k za) (hy : ∃ k, kindN k = d ∧ y = .int k zb) : BinGoal P t op v σ x y :=
  int_fin hcd hx hy fun k hk => ⟨_, fun w => hf P t k za zb w, by rw [← hz, (hv k hk).1]; exact (hv k hk).2 σ⟩

theorem run_add (P : Program) (t : TypeId) (k : IntKind) (a b : Int) (w : World) : (binOp .add t (.int k a) (.int k b)).run P w = .ok (.int k (k.wrap (a + b))) w := by simp [binOp, Op.intArith]
theorem run_sub (P : Program) (t : TypeId) (k : IntKind) (a b : Int) (w : World) : (binOp .sub t (.int k a) (.int k b)).run P w = .ok (.int k (k.wrap (a - b))) w := by simp [binOp, Op.intArith]
theorem run_mul (P : Program) (t : TypeId) (k : IntKind) (a b : Int) (w : World) : (binOp .mul t (.int k a) (.int k b)).run P w = .ok (.int k (k.wrap (a * b))) w := by simp [binOp, Op.intArith]

theorem add_ok : BinOK P t .add addK := by
  intro a b k r e
  cases a <;> try (exact absurd e (by intro e; cases e))
  case i c m =>
    cases b <;> try (exact absurd e (by intro e; cases e))
    case i d n =>
      obtain ⟨h, e⟩ := bi_some.1 e
      obtain ⟨v, e, hv⟩ := posK_num e
      exact ⟨v, e, fun σ x y hx hy => arith_fin (f := (· + ·)) run_add (by rfl) hv h hx.int_i hy.int_i⟩
    case j d n =>
      obtain ⟨h, e⟩ := bi_some.1 e
      obtain ⟨v, e, hv⟩ := subN_num e
      exact ⟨v, e, fun σ x y hx hy => arith_fin (f := (· + ·)) run_add (by show (m : Int) - ((n + 1 : Nat) : Int) = (m : Int) + Int.negSucc n; omega) hv h hx.int_i hy.int_j⟩
  case j c m =>
    cases b <;> try (exact absurd e (by intro e; cases e))
    case i d n =>
      obtain ⟨h, e⟩ := bi_some.1 e
      obtain ⟨v, e, hv⟩ := subN_num e
      exact ⟨v, e, fun σ x y hx hy => arith_fin (f := (· + ·)) run_add (by show (n : Int) - ((m + 1 : Nat) : Int) = Int.negSucc m + (n : Int); omega) hv h hx.int_j hy.int_i⟩
    case j d n =>
      obtain ⟨h, e⟩ := bi_some.1 e
      obtain ⟨v, e, hv⟩ := negK_num e
      exact ⟨v, e, fun σ x y hx hy => arith_fin (f := (· + ·)) run_add (by show Int.negSucc (m + n + 1) = Int.negSucc m + Int.negSucc n; omega) hv h hx.int_j hy.int_j⟩
  case s n l =>
    cases b <;> try (exact absurd e (by intro e; cases e))
    case s m q =>
      have e' : (Nat.blt (Nat.add l q) 4294967296).rec (motive := fun _ => R) none (force (Nat.add n (Nat.mul m (Nat.pow 256 l))) fun n => force (Nat.add l q) fun l => k (.s n l)) = some r := e
      cases hb : Nat.blt (Nat.add l q) 4294967296 <;> rw [hb] at e'
      · cases e'
      · have hlt : l + q < 4294967296 := by have : Nat.add l q < 4294967296 := by simpa [Nat.blt_eq] using hb
                                            exact this
        refine ⟨_, by simpa using e', fun σ x y hx hy => ?_⟩
        cases hx with | s x => cases hy with | s y =>
          refine ⟨⟨.string (x ++ y), fun w => ?_, ?_⟩, fun ⟨_, _, h, _⟩ => (by cases h), fun ⟨h, _⟩ => (by cases h)⟩
          · have : ¬ (9223372036854775807 : Int) < (x.size : Int) + (y.size : Int) := by omega
            simp [binOp, Op.stringOp, IntKind.max, IntKind.bits, IntKind.signed, this]
          · have h1 := VR.s (σ := σ) (x ++ y)
            have e1 : (x ++ y).data.toList = x.data.toList ++ y.data.toList := by simp
            rw [e1, pk_append, ByteArray.size_append'] at h1
            have e2 : x.data.toList.length = x.size := Array.length_toList
            rw [e2] at h1
            exact h1

theorem sub_ok : BinOK P t .sub subK := by
  intro a b k r e
  cases a <;> try (exact absurd e (by intro e; cases e))
  case i c m =>
    cases b <;> try (exact absurd e (by intro e; cases e))
    case i d n =>
      obtain ⟨h, e⟩ := bi_some.1 e
      obtain ⟨v, e, hv⟩ := subN_num e
      exact ⟨v, e, fun σ x y hx hy => arith_fin (f := (· - ·)) run_sub (by rfl) hv h hx.int_i hy.int_i⟩
    case j d n =>
      obtain ⟨h, e⟩ := bi_some.1 e
      obtain ⟨v, e, hv⟩ := posK_num e
      exact ⟨v, e, fun σ x y hx hy => arith_fin (f := (· - ·)) run_sub (by show ((m + (n + 1) : Nat) : Int) = (m : Int) - Int.negSucc n; omega) hv h hx.int_i hy.int_j⟩
  case j c m =>
    cases b <;> try (exact absurd e (by intro e; cases e))
    case i d n =>
      obtain ⟨h, e⟩ := bi_some.1 e
      obtain ⟨v, e, hv⟩ := negK_num e
      exact ⟨v, e, fun σ x y hx hy => arith_fin (f := (· - ·)) run_sub (by show Int.negSucc (m + n) = Int.negSucc m - (n : Int); omega) hv h hx.int_j hy.int_i⟩
    case j d n =>
      obtain ⟨h, e⟩ := bi_some.1 e
      obtain ⟨v, e, hv⟩ := subN_num e
      exact ⟨v, e, fun σ x y hx hy => arith_fin (f := (· - ·)) run_sub (by show ((n + 1 : Nat) : Int) - ((m + 1 : Nat) : Int) = Int.negSucc m - Int.negSucc n; omega) hv h hx.int_j hy.int_j⟩


theorem cmp_fin {op : BinOp} {f : Int → Int → Bool} (hf : ∀ (P : Program) (t : TypeId) (k : IntKind) (a b : Int) (w : World), (binOp op t (.int k a) (.int k b)).run P w = .ok (.bool (f a b)) w)
    {q : Bool} {σ : Sg} {x y : Value} {c d : Nat} {za zb : Int} (hz : q = f za zb) (hcd : Nat.beq c d = true) (hx : ∃ k, kindN k = c ∧ x = .int k za) (hy : ∃ k, kindN k = d ∧ y = .int k zb) : BinGoal P t op (.b q) σ x y :=
  int_fin hcd hx hy fun k hk => ⟨_, fun w => hf P t k za zb w, by rw [← hz]; exact .b q⟩

theorem lt_gen {op : BinOp} {f : Int → Int → Bool} {g : Nat → Nat → Bool} {ij ji : Bool} (hf : ∀ (P : Program) (t : TypeId) (k : IntKind) (a b : Int) (w : World), (binOp op t (.int k a) (.int k b)).run P w = .ok (.bool (f a b)) w)
    (h1 : ∀ m n : Nat, g m n = f m n) (h2 : ∀ m n : Nat, ij = f m (Int.negSucc n)) (h3 : ∀ m n : Nat, ji = f (Int.negSucc m) n) (h4 : ∀ m n : Nat, g n m = f (Int.negSucc m) (Int.negSucc n)) : BinOK P t op (ltK g ij ji) := by
  intro a b k r e
  cases a <;> try (exact absurd e (by intro e; cases e))
  case i c m =>
    cases b <;> try (exact absurd e (by intro e; cases e))
    case i d n =>
      obtain ⟨h, e⟩ := bi_some.1 e
      exact ⟨_, e, fun σ x y hx hy => cmp_fin hf (h1 m n) h hx.int_i hy.int_i⟩
    case j d n =>
      obtain ⟨h, e⟩ := bi_some.1 e
      exact ⟨_, e, fun σ x y hx hy => cmp_fin hf (h2 m n) h hx.int_i hy.int_j⟩
  case j c m =>
    cases b <;> try (exact absurd e (by intro e; cases e))
    case i d n =>
      obtain ⟨h, e⟩ := bi_some.1 e
      exact ⟨_, e, fun σ x y hx hy => cmp_fin hf (h3 m n) h hx.int_j hy.int_i⟩
    case j d n =>
      obtain ⟨h, e⟩ := bi_some.1 e
      exact ⟨_, e, fun σ x y hx hy => cmp_fin hf (h4 m n) h hx.int_j hy.int_j⟩

theorem lss_ok : BinOK P t .lss (ltK Nat.blt false true) := lt_gen (f := fun a b => decide (a < b)) (fun P t k a b w => by simp [binOp, Op.intCmp])
  (fun m n => by rw [Bool.eq_iff_iff, Nat.blt_eq]; simp) (fun m n => by simp; omega) (fun m n => by simp; omega) (fun m n => by rw [Bool.eq_iff_iff, Nat.blt_eq]; simp; omega)
theorem leq_ok : BinOK P t .leq (ltK Nat.ble false true) := lt_gen (f := fun a b => decide (a ≤ b)) (fun P t k a b w => by simp [binOp, Op.intCmp])
  (fun m n => by rw [Bool.eq_iff_iff, Nat.ble_eq]; simp) (fun m n => by simp; omega) (fun m n => by simp; omega) (fun m n => by rw [Bool.eq_iff_iff, Nat.ble_eq]; simp; omega)
theorem gtr_ok : BinOK P t .gtr (ltK natGt true false) := lt_gen (f := fun a b => decide (a > b)) (fun P t k a b w => by simp [binOp, Op.intCmp])
  (fun m n => by unfold natGt; rw [Bool.eq_iff_iff, Nat.blt_eq]; simp) (fun m n => by simp; omega) (fun m n => by simp; omega) (fun m n => by unfold natGt; rw [Bool.eq_iff_iff, Nat.blt_eq]; simp; omega)
theorem geq_ok : BinOK P t .geq (ltK natGe true false) := lt_gen (f := fun a b => decide (a ≥ b)) (fun P t k a b w => by simp [binOp, Op.intCmp])
  (fun m n => by unfold natGe; rw [Bool.eq_iff_iff, Nat.ble_eq]; simp) (fun m n => by simp; omega) (fun m n => by simp; omega) (fun m n => by unfold natGe; rw [Bool.eq_iff_iff, Nat.ble_eq]; simp; omega)

theorem natK_some {g : Nat → Nat → Nat → KV → R} {a b : V} {k : KV} {r : Res} (e : natK g a b k = some r) : ∃ c m d n, a = .i c m ∧ b = .i d n ∧ Nat.beq c d = true ∧ g c m n k = some r := by
  cases a <;> try (exact absurd e (by intro e; cases e))
  cases b <;> try (exact absurd e (by intro e; cases e))
  obtain ⟨h, e⟩ := bi_some.1 e
  exact ⟨_, _, _, _, rfl, rfl, h, e⟩

theorem mul_ok : BinOK P t .mul (natK mulN) := by
  intro a b k r e
  obtain ⟨c, m, d, n, rfl, rfl, h, e⟩ := natK_some e
  obtain ⟨v, e, hv⟩ := posK_num e
  exact ⟨v, e, fun σ x y hx hy => arith_fin (f := (· * ·)) run_mul (by show ((m * n : Nat) : Int) = (m : Int) * n; simp) hv h hx.int_i hy.int_i⟩
theorem quo_ok : BinOK P t .quo (natK quoN) := by
  intro a b k r e
  obtain ⟨c, m, d, n, rfl, rfl, h, e⟩ := natK_some e
  cases n with
  | zero => cases e
  | succ j =>
    obtain ⟨v, e, hv⟩ := posK_num (r := r) e
    refine ⟨v, e, fun σ x y hx hy => int_fin h hx.int_i hy.int_i fun k hk => ⟨.int k (Int.ofNat (m / (j + 1))), fun w => ?_, ?_⟩⟩
    · have h0 : ¬ ((j : Int) + 1 = 0) := by omega
      have : (Int.ofNat m).tdiv (Int.ofNat (j + 1)) = Int.ofNat (m / (j + 1)) := rfl
      have h1 : ¬ (Int.ofNat (j + 1) = 0) := by intro h; cases h
      simp only [binOp, Op.intDiv, ne_eq, not_true_eq_false, if_false, h1, this]
      rw [Sem.run_pure]
      have := (hv k hk).1
      exact congrArg (fun z => Result.ok (Value.int k z) w) this
    · exact (hv k hk).2 σ
theorem rem_ok : BinOK P t .rem remK := by
  intro a b k r e
  cases b <;> try (exact absurd e (by intro e; cases e))
  case i d n =>
    cases a <;> try (exact absurd e (by intro e; cases e))
    case i c m =>
      obtain ⟨h, e⟩ := bi_some.1 e
      cases n with
      | zero => cases e
      | succ j =>
        have e' : force (Nat.mod m (Nat.succ j)) (fun q => k (.i c q)) = some r := e
        rw [force_eq] at e'
        refine ⟨.i c (m % (j + 1)), e', fun σ x y hx hy => int_fin h hx.int_i hy.int_i fun k hk => ⟨.int k (Int.ofNat (m % (j + 1))), fun w => ?_, ?_⟩⟩
        · have : (Int.ofNat m).tmod (Int.ofNat (j + 1)) = Int.ofNat (m % (j + 1)) := rfl
          have h1 : ¬ (Int.ofNat (j + 1) = 0) := by intro h; cases h
          simp only [binOp, Op.intDiv, ne_eq, not_true_eq_false, if_false, h1, this]
          rfl
        · subst hk; exact .i k _
    case r c m q =>
      obtain ⟨h, e⟩ := bi_some.1 e
      obtain ⟨h2, e2⟩ := bi_some.1 e
      obtain ⟨h3, e3⟩ := bi_some.1 e2
      have hmn : m = n := Nat.eq_of_beq_eq_true h2
      subst hmn
      have hpos : 0 < m := by simpa [Nat.blt_eq] using h3
      refine ⟨.i c q, e3, fun σ x y hx hy => ?_⟩
      cases hx with | r k m u hu =>
        refine int_fin h ⟨k, rfl, rfl⟩ hy.int_i fun k hk => ⟨.int k (Int.ofNat (u % m)), fun w => ?_, ?_⟩
        · have : (Int.ofNat u).tmod (Int.ofNat m) = Int.ofNat (u % m) := rfl
          have h1 : ¬ (Int.ofNat m = 0) := by intro h; cases h; omega
          simp only [binOp, Op.intDiv, ne_eq, not_true_eq_false, if_false, h1, this]
          rfl
        · rw [← hk]; exact .i k _

theorem smallK_some {c m n : Nat} {y : R} {r : Res} (e : smallK c m n y = some r) : m < 128 ∧ n < 128 ∧ y = some r := by
  obtain ⟨h1, e⟩ := bi_some.1 e
  obtain ⟨h2, e⟩ := bi_some.1 e
  exact ⟨by simpa [Nat.blt_eq] using h1, by simpa [Nat.blt_eq] using h2, e⟩


theorem land_lt {m n : Nat} (h : m < 128) : Nat.land m n < 128 := Nat.lt_of_le_of_lt (Nat.and_le_left (n := m) (m := n)) h
theorem bits_of {k : IntKind} {m : Nat} (h : m < 128) : (BitVec.ofInt k.bits (Int.ofNat m)).toNat = m := by
  have e : BitVec.ofInt k.bits (Int.ofNat m) = BitVec.ofNat k.bits m := by simp [BitVec.ofInt_natCast]
  rw [e, BitVec.toNat_ofNat]
  apply Nat.mod_eq_of_lt
  cases k <;> simp [IntKind.bits] <;> omega
theorem wrap_small (k : IntKind) {m : Nat} (h : m < 128) : k.wrap (m : Int) = (m : Int) := wrap_pos (by rw [top_eq]; cases k <;> simp <;> omega)

theorem or_ok : BinOK P t .or (natK orN) := by
  intro a b k r e
  obtain ⟨c, m, d, n, rfl, rfl, h, e⟩ := natK_some e
  obtain ⟨hm, hn, e⟩ := smallK_some e
  rw [force_eq] at e
  have hlt : Nat.lor m n < 128 := Nat.or_lt_two_pow (n := 7) hm hn
  refine ⟨_, e, fun σ x y hx hy => int_fin h hx.int_i hy.int_i fun k hk => ⟨.int k (Int.ofNat (Nat.lor m n)), fun w => ?_, by subst hk; exact .i k _⟩⟩
  have h1 : (BitVec.ofInt k.bits (Int.ofNat m) ||| BitVec.ofInt k.bits (Int.ofNat n)).toNat = Nat.lor m n := by
    rw [BitVec.toNat_or, bits_of hm, bits_of hn]; rfl
  simp only [binOp, Op.intBits, ne_eq, not_true_eq_false, if_false, h1]
  rw [Sem.run_pure, wrap_small k hlt]; rfl

theorem andJ_run {m n : Nat} (hm : m < 2) (hn : n < 2) (w : World) : (binOp .and t (.int .i64 (Int.ofNat m)) (.int .i64 (Int.negSucc n))).run P w = .ok (.int .i64 (Int.ofNat (m * (1 - n)))) w := by
  have : m = 0 ∨ m = 1 := by omega
  have : n = 0 ∨ n = 1 := by omega
  rcases ‹m = 0 ∨ m = 1› with rfl | rfl <;> rcases ‹n = 0 ∨ n = 1› with rfl | rfl <;> rfl
theorem andJ_run' {m n : Nat} (hm : m < 2) (hn : n < 2) (w : World) : (binOp .and t (.int .i64 (Int.negSucc n)) (.int .i64 (Int.ofNat m))).run P w = .ok (.int .i64 (Int.ofNat (m * (1 - n)))) w := by
  have : m = 0 ∨ m = 1 := by omega
  have : n = 0 ∨ n = 1 := by omega
  rcases ‹m = 0 ∨ m = 1› with rfl | rfl <;> rcases ‹n = 0 ∨ n = 1› with rfl | rfl <;> rfl

theorem andJ_some {c m n : Nat} {k : KV} {r : Res} (e : andJ c m n k = some r) : m < 2 ∧ n < 2 ∧ k (.i c (m * (1 - n))) = some r := by
  obtain ⟨h1, e⟩ := bi_some.1 e
  obtain ⟨h2, e⟩ := bi_some.1 e
  rw [force_eq] at e
  exact ⟨by simpa [Nat.blt_eq] using h1, by simpa [Nat.blt_eq] using h2, e⟩

theorem and_ok : BinOK P t .and andK := by
  intro a b k r e
  cases a <;> try (exact absurd e (by intro e; cases e))
  case i c m =>
    cases b <;> try (exact absurd e (by intro e; cases e))
    case i d n =>
      obtain ⟨h, e⟩ := bi_some.1 e
      obtain ⟨hm, hn, e⟩ := smallK_some e
      rw [force_eq] at e
      have hlt : Nat.land m n < 128 := land_lt hm
      refine ⟨_, e, fun σ x y hx hy => int_fin h hx.int_i hy.int_i fun k hk => ⟨.int k (Int.ofNat (Nat.land m n)), fun w => ?_, by subst hk; exact .i k _⟩⟩
      have h1 : (BitVec.ofInt k.bits (Int.ofNat m) &&& BitVec.ofInt k.bits (Int.ofNat n)).toNat = Nat.land m n := by
        rw [BitVec.toNat_and, bits_of hm, bits_of hn]; rfl
      simp only [binOp, Op.intBits, ne_eq, not_true_eq_false, if_false, h1]
      rw [Sem.run_pure, wrap_small k hlt]; rfl
    case j d n =>
      obtain ⟨h, e⟩ := bi_some.1 e
      obtain ⟨h3, e⟩ := bi_some.1 e
      obtain ⟨hm, hn, e⟩ := andJ_some e
      refine ⟨_, e, fun σ x y hx hy => int_fin h hx.int_i hy.int_j fun k hk => ?_⟩
      have : k = .i64 := kindN_inj (by rw [hk]; exact Nat.eq_of_beq_eq_true h3)
      subst this
      exact ⟨_, fun w => andJ_run hm hn w, by rw [← hk]; exact .i _ _⟩
  case j c m =>
    cases b <;> try (exact absurd e (by intro e; cases e))
    case i d n =>
      obtain ⟨h, e⟩ := bi_some.1 e
      obtain ⟨h3, e⟩ := bi_some.1 e
      obtain ⟨hm, hn, e⟩ := andJ_some e
      refine ⟨_, e, fun σ x y hx hy => int_fin h hx.int_j hy.int_i fun k hk => ?_⟩
      have : k = .i64 := kindN_inj (by rw [hk]; exact Nat.eq_of_beq_eq_true h3)
      subst this
      exact ⟨_, fun w => andJ_run' hm hn w, by rw [← hk]; exact .i _ _⟩

theorem shr_ok : BinOK P t .shr shrK := by
  intro a b k r e
  cases b <;> try (exact absurd e (by intro e; cases e))
  case i d n =>
    cases a <;> try (exact absurd e (by intro e; cases e))
    case i c m =>
      obtain ⟨h, e⟩ := bi_some.1 e
      have hn : n < 8 := by simpa [Nat.blt_eq] using h
      rw [force_eq] at e
      refine ⟨_, e, fun σ x y hx hy => ?_⟩
      obtain ⟨k, hk, rfl⟩ := hx.int_i
      obtain ⟨k', hk', rfl⟩ := hy.int_i
      refine ⟨⟨.int k (Int.ofNat (m / 2 ^ n)), fun w => ?_, by subst hk; exact .i k _⟩, fun ⟨_, _, h, _⟩ => (by cases h), fun ⟨h, _⟩ => (by cases h)⟩
      have h0 : ¬ (Int.ofNat n < 0) := Int.not_lt.2 (Int.natCast_nonneg n)
      have h1 : min (Int.ofNat n).toNat k.bits = n := by
        have : (Int.ofNat n).toNat = n := rfl
        rw [this]; apply Nat.min_eq_left; cases k <;> simp [IntKind.bits] <;> omega
      simp only [binOp, Op.shift, h0, if_false, h1]
      rw [Sem.run_pure]
      have h2 : (Int.ofNat m).fdiv (2 ^ n) = Int.ofNat (m / 2 ^ n) := by
        have : (2 ^ n : Int) = Int.ofNat (2 ^ n) := by simp
        rw [this]; exact (Int.ofNat_fdiv m (2 ^ n)).symm
      rw [h2]
theorem shl_ok : BinOK P t .shl shlK := by
  intro a b k r e
  cases b <;> try (exact absurd e (by intro e; cases e))
  case i d n =>
    cases a <;> try (exact absurd e (by intro e; cases e))
    case i c m =>
      obtain ⟨h, e⟩ := bi_some.1 e
      have hn : n < 8 := by simpa [Nat.blt_eq] using h
      obtain ⟨v, e, hv⟩ := posK_num e
      refine ⟨_, e, fun σ x y hx hy => ?_⟩
      obtain ⟨k, hk, rfl⟩ := hx.int_i
      obtain ⟨k', hk', rfl⟩ := hy.int_i
      refine ⟨⟨.int k (Int.ofNat (m * 2 ^ n)), fun w => ?_, (hv k hk).2 σ⟩, fun ⟨_, _, h, _⟩ => (by cases h), fun ⟨h, _⟩ => (by cases h)⟩
      have h0 : ¬ (Int.ofNat n < 0) := Int.not_lt.2 (Int.natCast_nonneg n)
      have h1 : min (Int.ofNat n).toNat k.bits = n := by
        have : (Int.ofNat n).toNat = n := rfl
        rw [this]; apply Nat.min_eq_left; cases k <;> simp [IntKind.bits] <;> omega
      simp only [binOp, Op.shift, h0, if_false, h1]
      rw [Sem.run_pure]
      have h2 : (Int.ofNat m * 2 ^ n : Int) = Int.ofNat (m * 2 ^ n) := by simp
      rw [h2]
      exact congrArg (fun z => Result.ok (Value.int k z) w) (hv k hk).1


/-- equal, or not, as the function tells -/
def EqGoal (P : Program) (t : TypeId) (q : Bool) (x y : Value) : Prop :=
  ((∀ w, (binOp .eql t x y).run P w = .ok (.bool q) w) ∧ (∀ w, (binOp .neq t x y).run P w = .ok (.bool (!q)) w)) ∧ (¬ ∃ c d, x = .agg c ∧ y = .agg d) ∧ ¬ (x = .nilIface ∧ y = .nilIface)

theorem eq_int {q : Bool} {σ : Sg} {x y : Value} {c d : Nat} {za zb : Int} (hz : q = (za == zb)) (hcd : Nat.beq c d = true) (hx : ∃ k, kindN k = c ∧ x = .int k za) (hy : ∃ k, kindN k = d ∧ y = .int k zb) : EqGoal P t q x y := by
  obtain ⟨k, hk, rfl⟩ := hx
  obtain ⟨k', hk', rfl⟩ := hy
  have : k' = k := kindN_inj (by rw [hk', hk]; exact (Nat.eq_of_beq_eq_true hcd).symm)
  subst this
  exact ⟨⟨fun w => by rw [hz]; simp [binOp, Op.intCmp], fun w => by rw [hz]; simp [binOp, Op.intCmp, bne]⟩, fun ⟨_, _, h, _⟩ => (by cases h), fun ⟨h, _⟩ => (by cases h)⟩

theorem eq_equal {q : Bool} {x y : Value} (h1 : ∀ d w, (Op.equalIn (d + 1) t x y).run P w = .ok q w)
    (h2 : binOp .eql t x y = (do pure (.bool (← Op.equal t x y)))) (h3 : binOp .neq t x y = (do pure (.bool (!(← Op.equal t x y)))))
    (h4 : ¬ ∃ c d, x = .agg c ∧ y = .agg d) (h5 : ¬ (x = .nilIface ∧ y = .nilIface)) : EqGoal P t q x y := by
  have h1' : ∀ w, (Op.equal t x y).run P w = .ok q w := h1 9999
  exact ⟨⟨fun w => by rw [h2, Sem.run_bind, h1']; rfl, fun w => by rw [h3, Sem.run_bind, h1']; rfl⟩, h4, h5⟩

theorem str_eq (a b : ByteArray) : (a.toList == b.toList) = ((Nat.beq a.size b.size).rec false (Nat.beq (pk a.data.toList) (pk b.data.toList)) : Bool) := by
  rw [ByteArray.toList_eq, ByteArray.toList_eq]
  have la : a.data.toList.length = a.size := Array.length_toList
  have lb : b.data.toList.length = b.size := Array.length_toList
  by_cases h : a.data.toList = b.data.toList
  · rw [h]
    have : a.size = b.size := by rw [← la, ← lb, h]
    rw [this]
    have e1 : Nat.beq b.size b.size = true := Nat.beq_refl _
    have e2 : Nat.beq (pk b.data.toList) (pk b.data.toList) = true := Nat.beq_refl _
    rw [e1, e2]; simp
  · have : (a.data.toList == b.data.toList) = false := by simpa using h
    rw [this]
    cases h1 : Nat.beq a.size b.size with
    | false => rfl
    | true =>
      cases h2 : Nat.beq (pk a.data.toList) (pk b.data.toList) with
      | false => rfl
      | true => exact absurd (pk_inj _ _ (by rw [la, lb]; exact Nat.eq_of_beq_eq_true h1) (Nat.eq_of_beq_eq_true h2)) h

theorem eqClass_spec {q : Nat} (h : eqClass P t = q) : (q = 0 → ∃ e, P.underlying t = some (.pointer e)) ∧ (q = 1 → ∃ e, P.underlying t = some (.slice e)) ∧ (q = 2 → ∃ k e, P.underlying t = some (.map k e)) ∧
    (q = 3 → ∃ a b c, P.underlying t = some (.func a b c)) ∧ (q = 5 → P.underlying t = some .bool) := by
  unfold eqClass at h
  split at h <;> subst h <;> simp_all

/-- nil, or not: whatever the program is -/
theorem eqz_some {tag q : Nat} {k : Bool → R} {a : V} {r : Res} (e : bi (Nat.beq tag q) (bi (Nat.blt tag 4) (nilEq tag k a)) = some r) :
    ∃ z, k z = some r ∧ ∀ P t, (q = 9 ∨ eqClass P t = q) → ∀ σ x y, VR σ a x → VR σ (.z tag) y → EqGoal P t z x y := by
  obtain ⟨h1, e1⟩ := bi_some.1 e
  obtain ⟨h2, e2⟩ := bi_some.1 e1
  have h1 : tag = q := Nat.eq_of_beq_eq_true h1
  have h2 : tag < 4 := by simpa [Nat.blt_eq] using h2
  subst h1
  clear e e1
  cases a <;> try (exact absurd e2 (by intro e; cases e))
  case z t2 =>
    obtain ⟨h, e⟩ := bi_some.1 e2
    refine ⟨true, e, fun P t hq σ x y hx hy => ?_⟩
    obtain ⟨c0, c1, c2, c3, _⟩ := eqClass_spec (hq.resolve_left (by omega))
    have ht : t2 = tag := Nat.eq_of_beq_eq_true h
    rw [ht] at hx
    cases hx with
    | z0 => cases hy; obtain ⟨e, he⟩ := c0 rfl; exact eq_equal (fun d w => by simp [Op.equalIn, underlying, he]) rfl rfl (fun ⟨_, _, h, _⟩ => (by cases h)) fun ⟨h, _⟩ => (by cases h)
    | z1 => cases hy; obtain ⟨e, he⟩ := c1 rfl; exact eq_equal (fun d w => by simp [Op.equalIn, underlying, he]) rfl rfl (fun ⟨_, _, h, _⟩ => (by cases h)) fun ⟨h, _⟩ => (by cases h)
    | z2 => cases hy; obtain ⟨k, e, he⟩ := c2 rfl; exact eq_equal (fun d w => by simp [Op.equalIn, underlying, he]) rfl rfl (fun ⟨_, _, h, _⟩ => (by cases h)) fun ⟨h, _⟩ => (by cases h)
    | z3 => cases hy; obtain ⟨k, e, f, he⟩ := c3 rfl; exact eq_equal (fun d w => by simp [Op.equalIn, underlying, he]) rfl rfl (fun ⟨_, _, h, _⟩ => (by cases h)) fun ⟨h, _⟩ => (by cases h)
    | z4 => omega
  case p id off =>
    obtain ⟨h, e⟩ := bi_some.1 e2
    refine ⟨false, e, fun P t hq σ x y hx hy => ?_⟩
    obtain ⟨c0, c1, c2, c3, _⟩ := eqClass_spec (hq.resolve_left (by omega))
    have ht : tag = 0 := Nat.eq_of_beq_eq_true h
    subst ht
    obtain ⟨el, he⟩ := c0 rfl
    cases hx; cases hy
    exact eq_equal (fun d w => by simp [Op.equalIn, underlying, he]) rfl rfl (fun ⟨_, _, h, _⟩ => (by cases h)) fun ⟨h, _⟩ => (by cases h)
  case q xs =>
    obtain ⟨h, e⟩ := bi_some.1 e2
    refine ⟨false, e, fun P t hq σ x y hx hy => ?_⟩
    obtain ⟨c0, c1, c2, c3, _⟩ := eqClass_spec (hq.resolve_left (by omega))
    have ht : tag = 0 := Nat.eq_of_beq_eq_true h
    subst ht
    obtain ⟨el, he⟩ := c0 rfl
    cases hx; cases hy
    exact eq_equal (fun d w => by simp [Op.equalIn, underlying, he]) rfl rfl (fun ⟨_, _, h, _⟩ => (by cases h)) fun ⟨h, _⟩ => (by cases h)
  case l id off len es =>
    obtain ⟨h, e⟩ := bi_some.1 e2
    refine ⟨false, e, fun P t hq σ x y hx hy => ?_⟩
    obtain ⟨c0, c1, c2, c3, _⟩ := eqClass_spec (hq.resolve_left (by omega))
    have ht : tag = 1 := Nat.eq_of_beq_eq_true h
    subst ht
    obtain ⟨el, he⟩ := c1 rfl
    cases hx <;> cases hy <;>
    exact eq_equal (fun d w => by simp [Op.equalIn, underlying, he]) rfl rfl (fun ⟨_, _, h, _⟩ => (by cases h)) fun ⟨h, _⟩ => (by cases h)
  case k es len xs =>
    obtain ⟨h, e⟩ := bi_some.1 e2
    refine ⟨false, e, fun P t hq σ x y hx hy => ?_⟩
    obtain ⟨c0, c1, c2, c3, _⟩ := eqClass_spec (hq.resolve_left (by omega))
    have ht : tag = 1 := Nat.eq_of_beq_eq_true h
    subst ht
    obtain ⟨el, he⟩ := c1 rfl
    cases hx <;> cases hy <;>
    exact eq_equal (fun d w => by simp [Op.equalIn, underlying, he]) rfl rfl (fun ⟨_, _, h, _⟩ => (by cases h)) fun ⟨h, _⟩ => (by cases h)
  case m id =>
    obtain ⟨h, e⟩ := bi_some.1 e2
    refine ⟨false, e, fun P t hq σ x y hx hy => ?_⟩
    obtain ⟨c0, c1, c2, c3, _⟩ := eqClass_spec (hq.resolve_left (by omega))
    have ht : tag = 2 := Nat.eq_of_beq_eq_true h
    subst ht
    obtain ⟨kk, el, he⟩ := c2 rfl
    cases hx; cases hy
    exact eq_equal (fun d w => by simp [Op.equalIn, underlying, he]) rfl rfl (fun ⟨_, _, h, _⟩ => (by cases h)) fun ⟨h, _⟩ => (by cases h)
  case f fn a b =>
    obtain ⟨h, e⟩ := bi_some.1 e2
    refine ⟨false, e, fun P t hq σ x y hx hy => ?_⟩
    obtain ⟨c0, c1, c2, c3, _⟩ := eqClass_spec (hq.resolve_left (by omega))
    have ht : tag = 3 := Nat.eq_of_beq_eq_true h
    subst ht
    obtain ⟨k1, k2, k3, he⟩ := c3 rfl
    cases hx; cases hy
    exact eq_equal (fun d w => by simp [Op.equalIn, underlying, he]) rfl rfl (fun ⟨_, _, h, _⟩ => (by cases h)) fun ⟨h, _⟩ => (by cases h)

theorem eqK_some {q : Nat} {a b : V} {k : Bool → R} {r : Res} (e : eqK q a b k = some r) : ∃ z, k z = some r ∧ ∀ P t, (q = 9 ∨ eqClass P t = q) → ∀ σ x y, VR σ a x → VR σ b y → EqGoal P t z x y := by
  cases a
  case i c m =>
    cases b <;> try (exact absurd e (by intro e; cases e))
    case i d n =>
      obtain ⟨h, e1⟩ := bi_some.1 e
      exact ⟨_, e1, fun P t _ σ x y hx hy => eq_int (σ := σ) (by rw [Bool.eq_iff_iff, Nat.beq_eq]; simp; omega) h hx.int_i hy.int_i⟩
    case j d n =>
      obtain ⟨h, e1⟩ := bi_some.1 e
      exact ⟨_, e1, fun P t _ σ x y hx hy => eq_int (σ := σ) (by simp) h hx.int_i hy.int_j⟩
  case j c m =>
    cases b <;> try (exact absurd e (by intro e; cases e))
    case i d n =>
      obtain ⟨h, e1⟩ := bi_some.1 e
      exact ⟨_, e1, fun P t _ σ x y hx hy => eq_int (σ := σ) (by simp) h hx.int_j hy.int_i⟩
    case j d n =>
      obtain ⟨h, e1⟩ := bi_some.1 e
      exact ⟨_, e1, fun P t _ σ x y hx hy => eq_int (σ := σ) (by rw [Bool.eq_iff_iff, Nat.beq_eq]; simp) h hx.int_j hy.int_j⟩
  case s n l =>
    cases b <;> try (exact absurd e (by intro e; cases e))
    case s m p =>
      have e' : k ((Nat.beq l p).rec false (Nat.beq n m)) = some r := by
        have e0 : (Nat.beq l p).rec (motive := fun _ => R) (k false) (k (Nat.beq n m)) = some r := e
        cases hb : Nat.beq l p <;> rw [hb] at e0 <;> exact e0
      refine ⟨_, e', fun P t _ σ x y hx hy => ?_⟩
      cases hx with | s x => cases hy with | s y =>
        rw [← str_eq]
        exact ⟨⟨fun w => by simp [binOp, Op.stringOp], fun w => by simp [binOp, Op.stringOp]⟩, fun ⟨_, _, h, _⟩ => (by cases h), fun ⟨h, _⟩ => (by cases h)⟩
  case b x0 =>
    cases b <;> try (exact absurd e (by intro e; cases e))
    case b y0 =>
      obtain ⟨h, e1⟩ := bi_some.1 e
      have h5 : q = 5 := Nat.eq_of_beq_eq_true h
      have e' : k (x0 == y0) = some r := by
        have e0 : x0.rec (motive := fun _ => R) (k (inot y0)) (k y0) = some r := e1
        cases x0 <;> cases y0 <;> exact e0
      refine ⟨_, e', fun P t hq σ x y hx hy => ?_⟩
      have hu := (eqClass_spec (hq.resolve_left (by omega))).2.2.2.2 h5
      cases hx; cases hy
      exact eq_equal (fun d w => by simp [Op.equalIn, underlying, hu]) rfl rfl (fun ⟨_, _, h, _⟩ => (by cases h)) fun ⟨h, _⟩ => (by cases h)
  all_goals (cases b <;> first | exact absurd e (by intro e; cases e) | exact eqz_some e)

theorem eq_ok : BinOK P t .eql (eqB (eqClass P t)) := by
  intro a b k r e
  obtain ⟨z, e, hz⟩ := eqK_some e
  exact ⟨_, e, fun σ x y hx hy => let ⟨h, g⟩ := hz P t (.inr rfl) σ x y hx hy; ⟨⟨_, h.1, .b z⟩, g⟩⟩
theorem ne_ok : BinOK P t .neq (neB (eqClass P t)) := by
  intro a b k r e
  obtain ⟨z, e, hz⟩ := eqK_some e
  exact ⟨_, e, fun σ x y hx hy => let ⟨h, g⟩ := hz P t (.inr rfl) σ x y hx hy; ⟨⟨_, h.2, by cases z <;> exact .b _⟩, g⟩⟩

theorem no_ok (op : BinOp) : BinOK P t op noB := fun a b k r e => by cases e
theorem binF_ok (op : BinOp) {f : BK} (h : binF P t op = .mk f) : BinOK P t op f := by
  cases op <;> simp only [binF, forceO_eq, Bf.mk.injEq] at h <;> subst h <;>
    first | exact add_ok | exact sub_ok | exact mul_ok | exact quo_ok | exact rem_ok | exact and_ok | exact or_ok | exact no_ok _ | exact shl_ok | exact shr_ok | exact eq_ok | exact ne_ok | exact lss_ok | exact leq_ok | exact gtr_ok | exact geq_ok
end
end Go.Ev
namespace Go.Ev

/-- package-level variables have their numbers -/
def Ctx (P : Program) (σ : Sg) : Prop := ∀ g, g < P.globals.size → ∃ sz, σ g = some (g, sz)
theorem Ctx.mono {P : Program} {σ τ : Sg} (h : Up σ τ) (c : Ctx P σ) : Ctx P τ := fun g hg => let ⟨sz, e⟩ := c g hg; ⟨sz, h _ _ e⟩

theorem selV_eq (d : D16) : selV d = .mk (N.get d) (N.set d) := by cases d <;> rfl
theorem selN_eq (d : D16) : selN d = .mk (N.get d) (N.set d) := by cases d <;> rfl

def Dead (f : F) : Prop := ∀ ih t h k, f ih t h k = none
theorem dead_of {f : F} (e : failC = .mk f) : Dead f := by cases e; exact fun _ _ _ _ => rfl
theorem bcl_inv {x : Bool} {c : Cl} {f : F} (e : bcl x c = .mk f) : Dead f ∨ x = true ∧ c = .mk f := by
  cases x
  · exact .inl (dead_of e)
  · exact .inr ⟨rfl, e⟩
theorem ocl_inv {α : Type} {x : Option α} {k : α → Cl} {f : F} (e : ocl x k = .mk f) : Dead f ∨ ∃ a, x = some a ∧ k a = .mk f := by
  cases x
  · exact .inl (dead_of e)
  · exact .inr ⟨_, rfl, e⟩

theorem cG_inv {nt n : Nat} {k : G → Cl} {f : F} (e : cG nt n k = .mk f) : Dead f ∨ n < nt ∧ k (fun t => getT t n) = .mk f := by
  rcases bcl_inv e with h | ⟨h1, h2⟩
  · exact .inl h
  · refine .inr ⟨by simpa [Nat.blt_eq] using h1, ?_⟩
    rw [selV_eq] at h2
    simp only at h2
    rw [selN_eq] at h2
    exact h2
theorem cS_inv {nt n : Nat} {k : S → Cl} {f : F} (e : cS nt n k = .mk f) : Dead f ∨ n < nt ∧ k (fun v t => setT t n v) = .mk f := by
  rcases bcl_inv e with h | ⟨h1, h2⟩
  · exact .inl h
  · refine .inr ⟨by simpa [Nat.blt_eq] using h1, ?_⟩
    rw [selV_eq] at h2
    simp only at h2
    rw [selN_eq] at h2
    exact h2

/-- what an operation's result does to the temporaries -/
def putT (t : T) (d : Option Tmp) (v : V) : T := match d with | none => t | some n => setT t n v
structure SOK (nt : Nat) (d : Option Tmp) (s : S) : Prop where
  eq : ∀ v t, s v t = putT t d v
  lt : ∀ n, d = some n → n < nt
theorem cD_inv {nt : Nat} {d : Option Tmp} {k : S → Cl} {f : F} (e : cD nt d k = .mk f) : Dead f ∨ ∃ s, SOK nt d s ∧ k s = .mk f := by
  cases d with
  | none => exact .inr ⟨_, ⟨fun v t => rfl, fun n h => by cases h⟩, e⟩
  | some n =>
    rcases cS_inv e with h | ⟨h1, h2⟩
    · exact .inl h
    · exact .inr ⟨_, ⟨fun v t => rfl, fun m h => by cases h; exact h1⟩, h2⟩

theorem TR.put {σ : Sg} {nt : Nat} {t : T} {a : Act} (h : TR σ nt t a.tmps) {d : Option Tmp} {v : V} {x : Value} (hd : ∀ n, d = some n → n < nt) (hv : VR σ v x) : TR σ nt (putT t d v) (a.put d x).tmps := by
  cases d with
  | none => exact h
  | some n =>
    have hn := hd n rfl
    refine ⟨?_, h.few, fun m hm => ?_⟩
    · show (a.tmps.setIfInBounds n x).size = nt; rw [Array.size_setIfInBounds]; exact h.size
    · show VR σ (getT (setT t n v) m) ((a.tmps.setIfInBounds n x).getD m undef)
      rw [getT_setT _ _ _ _ (Nat.lt_of_lt_of_le hn h.few) (Nat.lt_of_lt_of_le hm h.few)]
      by_cases e : m = n
      · subst e
        have hs : m < a.tmps.size := by rw [h.size]; exact hm
        simp [hs, hv]
      · rw [if_neg e]
        have : (a.tmps.setIfInBounds n x).getD m undef = a.tmps.getD m undef := by
          simp only [Array.getD_eq_getD_getElem?]
          rw [Array.getElem?_setIfInBounds_ne (Ne.symm e)]
        rw [this]
        exact h.at_ m hm

/-! ### constants -/
theorem mkI_ok {k : IntKind} {n : Int} {v : V} (e : mkI k n = some v) (σ : Sg) : VR σ v (.int k n) := by
  unfold mkI at e
  rw [forceO_eq] at e
  cases n <;> simp only [forceO_eq] at e <;> cases e
  · exact .i k _
  · exact .j k _
theorem mkS_ok {b : ByteArray} {v : V} (e : mkS (pk b.data.toList) (lenL b.data.toList) = some v) (σ : Sg) : VR σ v (.string b) := by
  unfold mkS at e
  rw [forceO_eq, forceO_eq, lenL_eq] at e
  have : b.data.toList.length = b.size := Array.length_toList
  rw [this] at e
  cases e
  exact .s b
theorem ofScalar_ok {x : Value} {v : V} (e : ofScalar x = some v) (σ : Sg) : VR σ v x := by
  unfold ofScalar at e
  split at e <;> first
    | (cases e; done)
    | exact mkI_ok e σ
    | exact mkS_ok e σ
    | (cases e; constructor)
theorem ofScalars_ok {l : List Value} {v : V} (e : ofScalars l = some v) (σ : Sg) : VRs σ v l := by
  induction l generalizing v with
  | nil => cases e; exact .nil
  | cons x l ih =>
    obtain ⟨a, h1, h2⟩ := ob_some.1 e
    obtain ⟨b, h3, h4⟩ := ob_some.1 h2
    cases h4
    exact .cons (ofScalar_ok h1 σ) (ih h3)
theorem ofValue_ok {x : Value} {v : V} (e : ofValue x = some v) (σ : Sg) : VR σ v x := by
  unfold ofValue at e
  split at e
  · obtain ⟨a, h1, h2⟩ := ob_some.1 e
    rw [forceO_eq, lenL_eq] at h2
    cases h2
    rw [show ∀ a : Array Value, a.toList.length = a.size from fun _ => Array.length_toList]
    exact .a (ofScalars_ok h1 σ)
  · split at e
    · rename_i h
      cases e
      have := Array.toList_eq_nil_iff.1 h
      rw [this]
      exact VR.undef σ
    · cases e
  · exact ofScalar_ok e σ

/-! ### operands -/
def GOK (P : Program) (nt : Nat) (x : Operand) (g : G) : Prop := ∀ (σ : Sg) (t : T) (a : Act), Ctx P σ → TR σ nt t a.tmps → VR σ (g t) (a.eval x)
theorem cO_inv {P : Program} {nt : Nat} {x : Operand} {k : G → Cl} {f : F} (e : cO P nt x k = .mk f) : Dead f ∨ ∃ g, GOK P nt x g ∧ k g = .mk f := by
  cases x with
  | tmp n =>
    rcases cG_inv e with h | ⟨h1, h2⟩
    · exact .inl h
    · exact .inr ⟨_, fun σ t a _ h => h.at_ n h1, h2⟩
  | const v =>
    rcases ocl_inv e with h | ⟨x, h1, h2⟩
    · exact .inl h
    · exact .inr ⟨_, fun σ t a _ _ => ofValue_ok h1 σ, h2⟩
  | global g =>
    rcases bcl_inv e with h | ⟨h1, h2⟩
    · exact .inl h
    · rcases bcl_inv h2 with h | ⟨h3, h4⟩
      · exact .inl h
      · refine .inr ⟨_, fun σ t a c _ => ?_, h4⟩
        obtain ⟨sz, hs⟩ := c g (by simpa [Nat.blt_eq] using h1)
        exact .p hs (by simpa [Nat.blt_eq] using h3)
  | func g => exact .inr ⟨_, fun σ t a _ _ => .f .nil .nil, e⟩

def GsOK (P : Program) (nt : Nat) (l : List Operand) (g : G) : Prop := ∀ (σ : Sg) (t : T) (a : Act), Ctx P σ → TR σ nt t a.tmps → VRs σ (g t) (l.map a.eval)
theorem cOs_inv {P : Program} {nt : Nat} {l : List Operand} {k : G → Cl} {f : F} (e : cOs P nt l k = .mk f) : Dead f ∨ ∃ g, GsOK P nt l g ∧ k g = .mk f := by
  induction l generalizing k with
  | nil => exact .inr ⟨_, fun σ t a _ _ => .nil, e⟩
  | cons x l ih =>
    rcases cO_inv e with h | ⟨g, hg, e1⟩
    · exact .inl h
    · rcases ih e1 with h | ⟨r, hr, e2⟩
      · exact .inl h
      · exact .inr ⟨_, fun σ t a c h => .cons (hg σ t a c h) (hr σ t a c h), e2⟩

/-! ### operations that need no heap -/
/-- what such an operation's closure tells -/
def PureF (P : Program) (nt : Nat) (op : Op) (s : S) (f : F) : Prop := ∀ ih t h k r, f ih t h k = some r → ∃ v, k (s v t) h = some r ∧
  ∀ (σ : Sg) (a : Act), Ctx P σ → TR σ nt t a.tmps → ∀ (dst : Option Tmp) (ty : TypeId) (pos : String) (after : Array Edge) (gd : Option (Nat × Bool)), ∃ v', (∀ w, (execOp a.eval ⟨dst, op, ty, pos, after, gd⟩).run P w = .ok (.value v') w) ∧ VR σ v v'
theorem PureF.dead {P : Program} {nt : Nat} {op : Op} {s : S} {f : F} (h : Dead f) : PureF P nt op s f := fun ih t hh k r e => by rw [h] at e; cases e

section
variable {P : Program} {nt : Nat} {s : S} {f : F}

theorem oMove_ok {x : Operand} {op : Op} (hop : op = .move x ∨ op = .assign x) (e : oMove x P nt s = .mk f) : PureF P nt op s f := by
  rcases cO_inv e with h | ⟨g, hg, e1⟩
  · exact PureF.dead h
  · cases e1
    intro ih t h k r er
    refine ⟨_, er, fun σ a c ht dst ty pos after gd => ⟨a.eval x, fun w => ?_, hg σ t a c ht⟩⟩
    rcases hop with rfl | rfl <;> rfl

theorem boolK_some {v : V} {k : Bool → R} {r : Res} (e : boolK v k = some r) : ∃ x, v = .b x ∧ k x = some r := by
  cases v <;> try (exact absurd e (by intro e; cases e))
  exact ⟨_, rfl, e⟩
theorem numK_some {v : V} {k : Nat → R} {r : Res} (e : numK v k = some r) : ∃ c n, v = .i c n ∧ k n = some r := by
  cases v <;> try (exact absurd e (by intro e; cases e))
  exact ⟨_, _, rfl, e⟩
theorem tupK_some {v : V} {k : KV} {r : Res} (e : tupK v k = some r) : ∃ l, v = .t l ∧ k l = some r := by
  cases v <;> try (exact absurd e (by intro e; cases e))
  exact ⟨_, rfl, e⟩
theorem ptrK_some {v : V} {k : Nat → Nat → R} {r : Res} (e : ptrK v k = some r) : ∃ id off, v = .p id off ∧ k id off = some r := by
  cases v <;> try (exact absurd e (by intro e; cases e))
  exact ⟨_, _, rfl, e⟩
theorem strK_some {v : V} {k : Nat → Nat → R} {r : Res} (e : strK v k = some r) : ∃ n l, v = .s n l ∧ k n l = some r := by
  cases v <;> try (exact absurd e (by intro e; cases e))
  exact ⟨_, _, rfl, e⟩
theorem mapidK_some {v : V} {k : Nat → R} {r : Res} (e : mapidK v k = some r) : ∃ id, v = .m id ∧ k id = some r := by
  cases v <;> try (exact absurd e (by intro e; cases e))
  exact ⟨_, rfl, e⟩

theorem oPick_ok {x y z : Operand} (e : oPick x y z P nt s = .mk f) : PureF P nt (.pick x y z) s f := by
  rcases cO_inv e with h | ⟨gx, hx, e1⟩
  · exact PureF.dead h
  rcases cO_inv e1 with h | ⟨gy, hy, e2⟩
  · exact PureF.dead h
  rcases cO_inv e2 with h | ⟨gz, hz, e3⟩
  · exact PureF.dead h
  cases e3
  intro ih t h k r er
  obtain ⟨b, hb, e4⟩ := boolK_some er
  cases b with
  | true =>
    refine ⟨_, e4, fun σ a c ht dst ty pos after gd => ⟨a.eval y, fun w => ?_, hy σ t a c ht⟩⟩
    have h1 := hx σ t a c ht
    rw [hb] at h1
    cases hv : a.eval x <;> rw [hv] at h1 <;> cases h1
    simp [execOp, hv, asBool]
  | false =>
    refine ⟨_, e4, fun σ a c ht dst ty pos after gd => ⟨a.eval z, fun w => ?_, hz σ t a c ht⟩⟩
    have h1 := hx σ t a c ht
    rw [hb] at h1
    cases hv : a.eval x <;> rw [hv] at h1 <;> cases h1
    simp [execOp, hv, asBool]

theorem eqGuard_run {op : BinOp} {t : TypeId} {x y : Operand} {a b : Value} (h1 : ¬ ∃ c d, a = .agg c ∧ b = .agg d) (h2 : ¬ (a = .nilIface ∧ b = .nilIface)) (w : World) :
    (eqGuard op t x y a b).run P w = .ok () w := by
  unfold eqGuard
  repeat' split
  all_goals first
    | rfl
    | (exact absurd ⟨rfl, rfl⟩ h2)
    | (exact absurd ⟨_, _, rfl, rfl⟩ h1)
    | (simp_all; done)

theorem oBin_ok {op : BinOp} {xt yt : TypeId} {x y : Operand} (e : oBin op xt x y yt P nt s = .mk f) : PureF P nt (.binOp op xt x y yt) s f := by
  rcases cO_inv e with h | ⟨gx, hx, e1⟩
  · exact PureF.dead h
  rcases cO_inv e1 with h | ⟨gy, hy, e2⟩
  · exact PureF.dead h
  cases hf : binF P xt op with
  | mk bf =>
    rw [hf] at e2
    cases e2
    intro ih t h k r er
    obtain ⟨v, e3, hv⟩ := binF_ok op hf _ _ _ _ er
    refine ⟨v, e3, fun σ a c ht dst ty pos after gd => ?_⟩
    obtain ⟨⟨z, hz, hvz⟩, g1, g2⟩ := hv σ _ _ (hx σ t a c ht) (hy σ t a c ht)
    refine ⟨z, fun w => ?_, hvz⟩
    simp only [execOp, Sem.run_bind, eqGuard_run g1 g2, hz, Result.andThen_ok, Sem.run_pure]

end
end Go.Ev
end
