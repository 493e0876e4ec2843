/-
  THE ABSTRACT MACHINE: a deterministic evaluator of the model's code over an abstract heap. Objects have names; a slice knows
  how many cells its row had when it was made. No tape, no capacities, no order of evaluation.
-/
import GoSem.Dispatch
import GoSem.Machine.Return
namespace Go.Am

/-- A map from numbers. -/
inductive T (α : Type) where
  | e
  | n (l : T α) (v : Option α) (r : T α)

namespace T
variable {α : Type}
def get : T α → Nat → Option α
  | .e, _ => none
  | .n l v r, k =>
    match k with
    | 0 => v
    | k + 1 => bif Nat.beq (k % 2) 0 then l.get (k / 2) else r.get (k / 2)
def setF : Nat → T α → Nat → α → T α
  | 0, t, _, _ => t
  | f + 1, .e, k, x =>
    match k with
    | 0 => .n .e (some x) .e
    | k + 1 => bif Nat.beq (k % 2) 0 then .n (setF f .e (k / 2) x) none .e else .n .e none (setF f .e (k / 2) x)
  | f + 1, .n l v r, k, x =>
    match k with
    | 0 => .n l (some x) r
    | k + 1 => bif Nat.beq (k % 2) 0 then .n (setF f l (k / 2) x) v r else .n l v (setF f r (k / 2) x)
def set (t : T α) (k : Nat) (x : α) : T α := setF (k + 1) t k x
def del : T α → Nat → T α
  | .e, _ => .e
  | .n l v r, k =>
    match k with
    | 0 => .n l none r
    | k + 1 => bif Nat.beq (k % 2) 0 then .n (del l (k / 2)) v r else .n l v (del r (k / 2))
end T

/-- An object. -/
inductive Ob where
  | row (cells : List Value) (n minv : Nat)
  | map (es : List (Value × Value × Nat)) (clock : Nat)
  | iter (s : ByteArray) (pos : Nat)
  | dead
  | ro (cells : List Value)         -- cells that are only read: what was handed in

/-- A state: the heap, the next name, the least name that was written. -/
structure St where
  heap : T Ob
  next : Nat
  low : Nat

/-- An answer, or why there is none. -/
inductive R (α : Type) where
  | ok (a : α)
  | no (why : String)

namespace R
variable {α β : Type}
def bind (x : R α) (f : α → R β) : R β :=
  match x with
  | .ok a => f a
  | .no w => .no w
end R

/-- An operand: a slot, or a value without addresses. -/
inductive Opd where
  | tmp (t : Nat)
  | const (v : Value)

/-- Kinds of values that are compared by what they are. -/
inductive CK where
  | int
  | str
  | bool

/-- Kinds of values that may be nil. -/
inductive NK where
  | ptr
  | sl
  | map
  | func
  | iface

/-- An operation, its types looked up. -/
inductive AOp where
  | mv (x : Opd)
  | pick (c a b : Opd)
  | alloc (zs : List Value)
  | box (x : Opd)
  | build (zs : List Value) (parts : List (Nat × Nat × Opd))
  | buildSlice (k : Nat) (len : Nat) (zs : List Value) (parts : List (Nat × Nat × Opd))
  | load (agg : Bool) (n : Nat) (x : Opd)
  | store (n : Nat) (a x : Opd)
  | nilCheck (x : Opd)
  | bin (op : BinOp) (x y : Opd)
  | eqNil (nk : NK) (neg : Bool) (x y : Opd)
  | eqBool (neg : Bool) (x y : Opd)
  | eqAgg (neg : Bool) (at_ : List (Nat × CK)) (x y : Opd)
  | eqIface (neg : Bool) (tys : List (Nat × CK)) (x y : Opd)
  | un (op : UnOp) (x : Opd)
  | toInt (k : IntKind) (x : Opd)
  | sameStr (x : Opd)
  | strToBytes (x : Opd)
  | bytesToStr (x : Opd)
  | strToRunes (x : Opd)
  | runesToStr (x : Opd)
  | mkIface (t : Nat) (x : Opd)
  | mkFunc (fn : Fn) (first captured : List Opd)
  | mkMap
  | mkSlice (k bytes : Nat) (zs : List Value) (l c : Opd)
  | sliceStr (x : Opd) (lo hi : Option Opd)
  | sliceSl (k : Nat) (x : Opd) (lo hi mx : Option Opd)
  | sliceArr (n k : Nat) (x : Opd) (lo hi : Option Opd)
  | fieldAddr (off : Nat) (x : Opd)
  | field (agg : Bool) (off n : Nat) (x : Opd)
  | indexSl (k : Nat) (x i : Opd)
  | indexArr (len k : Nat) (x i : Opd)
  | indexStr (x i : Opd)
  | indexVal (agg : Bool) (len k : Nat) (x i : Opd)
  | lookup (ck : CK) (zero : Value) (ok : Bool) (m k : Opd)
  | mapSet (ck : CK) (m k v : Opd)
  | mapEntry (ck : CK) (zero : Value) (m k : Opd)
  | entryStore (m s v : Opd)
  | rangeStr (x : Opd)
  | nextStr (x : Opd)
  | assertT (t : Nat) (ok : Bool) (zero : Value) (x : Opd)
  | extract (i : Nat) (x : Opd)
  | call (f : Nat) (args : List Opd)
  | callV (f : Opd) (args : List Opd)
  | invoke (name : String) (recv : Opd) (args : List Opd)
  | append (k bytes : Nat) (zs : List Value) (s x : Opd)
  | appendN (k bytes : Nat) (zs : List Value) (s x : Opd)
  | lenSl (x : Opd)
  | lenStr (x : Opd)
  | lenMap (x : Opd)
  | capSl (x : Opd)
  | copy (k : Nat) (d s : Opd)
  | clearSl (k : Nat) (zs : List Value) (x : Opd)
  | clearMap (x : Opd)
  | delete (ck : CK) (m k : Opd)
  | max (xs : List Opd)
  | min (xs : List Opd)
  | mapsClone (x : Opd)
  | fail

inductive Kind where
  | pure
  | make
  | load
  | store
  | other
  deriving DecidableEq

/-- An operation in its place: where its value goes, its guard (slot, wanted), the bits of all that stand ahead. -/
structure AOper where
  dst : Option Nat
  guard : Option (Nat × Bool)
  anc : Nat
  op : AOp

inductive ACode where
  | skip
  | region (ops : List AOper)
  | draw (ops : List AOper)
  | seq (a b : ACode)
  | cond (c : Opd) (a b : ACode)
  | block (id : Nat) (c : ACode)
  | loop (c : ACode)
  | exit (id : Nat)
  | ret
  | none (why : String)

inductive ARes where
  | tmp (t : Nat)
  | cell (t : Nat) (agg : Bool) (n : Nat)

structure AFunc where
  ntmps : Nat
  results : List ARes
  body : ACode

-- lists
def lget {α : Type} : List α → Nat → Option α
  | [], _ => none
  | x :: l, i =>
    match i with
    | 0 => some x
    | i + 1 => lget l i
def lset {α : Type} : List α → Nat → α → List α
  | [], _, _ => []
  | x :: l, i, v =>
    match i with
    | 0 => v :: l
    | i + 1 => x :: lset l i v
/-- vs written into l from i on. -/
def lput (l : List Value) (i : Nat) (vs : List Value) : List Value :=
  l.take i ++ vs ++ l.drop (i + vs.length)

def vcells : Value → List Value
  | .agg cs => cs.toList
  | v => [v]

def one (v : Value) : Bool :=
  match v with
  | .agg _ => false
  | .tuple _ => false
  | _ => true

def opd (tm : T Value) : Opd → Value
  | .tmp t =>
    match tm.get t with
    | some v => v
    | none => undef
  | .const v => v

/-- A new row. -/
def newRow (cells : List Value) (n : Nat) (s : St) : Nat × St :=
  (s.next, { heap := s.heap.set s.next (.row cells n 0), next := s.next + 1, low := s.low })
def ptrTo (g n : Nat) : Value := .pointer (some ⟨g, 0, some n⟩)

/-- The cells from i on, n of them, as seen by version v. -/
def readCells (s : St) (g i v n : Nat) : R (List Value) :=
  match s.heap.get g with
  | some (.row cells _ minv) =>
    bif Nat.ble minv v && Nat.ble (i + n) v then .ok ((cells.drop i).take n) else .no "read: stale or out of range"
  | some (.ro cells) => bif Nat.ble v cells.length && Nat.ble (i + n) v then .ok ((cells.drop i).take n) else .no "read: out of range"
  | some .dead => .no "read: dead"
  | _ => .no "read: no row"
def readOne (s : St) (g i v : Nat) : R Value :=
  match s.heap.get g with
  | some (.row cells _ minv) =>
    bif Nat.ble minv v && Nat.blt i v then
      match lget cells i with
      | some x => .ok x
      | none => .no "read: no cell"
    else .no "read: stale or out of range"
  | some (.ro cells) =>
    bif Nat.ble v cells.length && Nat.blt i v then
      match lget cells i with
      | some x => .ok x
      | none => .no "read: no cell"
    else .no "read: out of range"
  | some .dead => .no "read: dead"
  | _ => .no "read: no row"
def writeCells (s : St) (g i v : Nat) (vs : List Value) : R St :=
  match s.heap.get g with
  | some (.row cells n minv) =>
    bif Nat.ble minv v && Nat.beq v n && Nat.ble (i + vs.length) n then
      .ok { heap := s.heap.set g (.row (lput cells i vs) n n), next := s.next, low := Nat.min s.low g }
    else .no "write: stale or out of range"
  | some .dead => .no "write: dead"
  | _ => .no "write: no row"

def fillParts : List Value → List (Nat × List Value) → List Value
  | zs, [] => zs
  | zs, (off, vs) :: rest => fillParts (lput zs off vs) rest
def partsOk (n : Nat) (tm : T Value) : List (Nat × Nat × Opd) → R (List (Nat × List Value))
  | [] => .ok []
  | (off, size, x) :: rest =>
    let vs := vcells (opd tm x)
    bif Nat.beq vs.length size && Nat.ble (off + size) n && vs.all one then
      match partsOk n tm rest with
      | .ok l => .ok ((off, vs) :: l)
      | .no w => .no w
    else .no "part"

def keyEq : CK → Value → Value → Option Bool
  | .int, .int k a, .int k' b => bif decide (k = k') then some (a == b) else none
  | .str, .string a, .string b => some (a == b)
  | .bool, .bool a, .bool b => some (a == b)
  | _, _, _ => none
def findKey (ck : CK) (k : Value) : List (Value × Value × Nat) → Nat → R (Option (Nat × Value × Nat))
  | [], _ => .ok none
  | (k', v, b) :: es, i =>
    match keyEq ck k k' with
    | some true => .ok (some (i, v, b))
    | some false => findKey ck k es (i + 1)
    | none => .no "key"
def isKey : CK → Value → Bool
  | .int, .int _ _ => true
  | .str, .string _ => true
  | .bool, .bool _ => true
  | _, _ => false
/-- A value that is compared by what it is. -/
def isScal : Value → Bool
  | .int _ _ => true
  | .string _ => true
  | .bool _ => true
  | _ => false

def strLess : List UInt8 → List UInt8 → Bool
  | _, [] => false
  | [], _ :: _ => true
  | a :: x, b :: y => Nat.blt a.toNat b.toNat || (Nat.beq a.toNat b.toNat && strLess x y)

def cmpInt (op : BinOp) (x y : Int) : Option Bool :=
  match op with
  | .eql => some (x == y)
  | .neq => some (x != y)
  | .lss => some (decide (x < y))
  | .leq => some (decide (x ≤ y))
  | .gtr => some (decide (x > y))
  | .geq => some (decide (x ≥ y))
  | _ => none

def binop (op : BinOp) (x y : Value) : R Value :=
  match x, y with
  | .int k a, .int k' b =>
    match op with
    | .shl => bif decide (b < 0) then .no "shift" else .ok (.int k (k.wrap (a * 2 ^ (Nat.min b.toNat k.bits))))
    | .shr => bif decide (b < 0) then .no "shift" else .ok (.int k (a.fdiv (2 ^ (Nat.min b.toNat k.bits))))
    | _ =>
      bif decide (k = k') then
        match op with
        | .add => .ok (.int k (k.wrap (a + b)))
        | .sub => .ok (.int k (k.wrap (a - b)))
        | .mul => .ok (.int k (k.wrap (a * b)))
        | .quo => bif decide (b = 0) then .no "divide" else .ok (.int k (k.wrap (a.tdiv b)))
        | .rem => bif decide (b = 0) then .no "divide" else .ok (.int k (a.tmod b))
        | .and => .ok (.int k (k.wrap (BitVec.ofInt k.bits a &&& BitVec.ofInt k.bits b).toNat))
        | .or => .ok (.int k (k.wrap (BitVec.ofInt k.bits a ||| BitVec.ofInt k.bits b).toNat))
        | .xor => .ok (.int k (k.wrap (BitVec.ofInt k.bits a ^^^ BitVec.ofInt k.bits b).toNat))
        | .andNot => .ok (.int k (k.wrap (BitVec.ofInt k.bits a &&& ~~~ (BitVec.ofInt k.bits b)).toNat))
        | _ =>
          match cmpInt op a b with
          | some c => .ok (.bool c)
          | none => .no "int op"
      else .no "kinds"
  | .string a, .string b =>
    match op with
    | .add => bif Nat.blt (a.size + b.size) (2 ^ 62) then .ok (.string (a ++ b)) else .no "string length"
    | .eql => .ok (.bool (a == b))
    | .neq => .ok (.bool (!(a == b)))
    | .lss => .ok (.bool (strLess a.data.toList b.data.toList))
    | .leq => .ok (.bool (strLess a.data.toList b.data.toList || a == b))
    | .gtr => .ok (.bool (!(strLess a.data.toList b.data.toList || a == b)))
    | .geq => .ok (.bool (!(strLess a.data.toList b.data.toList)))
    | _ => .no "string op"
  | _, _ => .no "binop"

def isNil : NK → Value → Option Bool
  | .ptr, .pointer a => some a.isNone
  | .sl, .slice a _ _ => some a.isNone
  | .map, .map a => some a.isNone
  | .func, .nilFunc => some true
  | .func, .func _ _ _ => some false
  | .iface, .nilIface => some true
  | .iface, .iface _ _ => some false
  | _, _ => none
def eqAt (xs ys : List Value) : List (Nat × CK) → R Bool
  | [] => .ok true
  | (i, ck) :: rest =>
    match lget xs i, lget ys i with
    | some x, some y =>
      match keyEq ck x y with
      | some true => eqAt xs ys rest
      | some false => .ok false
      | none => .no "eqAgg: cell"
    | _, _ => .no "eqAgg: no cell"

def ckOf : List (Nat × CK) → Nat → Option CK
  | [], _ => none
  | (t, c) :: r, t' => bif Nat.beq t t' then some c else ckOf r t'

def asNat (n : Int) : Option Nat :=
  match n with
  | .ofNat k => some k
  | .negSucc _ => none

def bound (x : Value) (y : Nat) : R Nat :=
  match x with
  | .int _ n =>
    match asNat n with
    | some k => bif Nat.ble k y then .ok k else .no "bounds"
    | none => .no "bounds"
  | _ => .no "bounds: no int"
def optBound (tm : T Value) (d : Nat) (y : Nat) : Option Opd → R Nat
  | none => .ok d
  | some o => bound (opd tm o) y

def bytesOf : List Value → Option (List UInt8)
  | [] => some []
  | .int .u8 n :: rest =>
    match bytesOf rest with
    | some l => some (UInt8.ofNat n.toNat :: l)
    | none => none
  | _ :: _ => none
def runesOf : List Value → Option (List Int)
  | [] => some []
  | .int .i32 n :: rest =>
    match runesOf rest with
    | some l => some (n :: l)
    | none => none
  | _ :: _ => none
def repl (zs : List Value) : Nat → List Value
  | 0 => []
  | n + 1 => zs ++ repl zs n
def u8s (s : ByteArray) : List Value := s.data.toList.map fun b => .int .u8 b.toNat

/-- The cells of what is appended: of a slice, of a string. -/
def srcCells (k : Nat) (s : St) (x : Value) : R (Nat × List Value) :=
  match x with
  | .slice none _ _ => .ok (0, [])
  | .slice (some ⟨g, i, some v⟩) n m =>
    bif Nat.beq n 0 then .ok (0, []) else
    bif Nat.beq (m / 2) k then
      match readCells s g i v (n * k) with
      | .ok l => .ok (n, l)
      | .no w => .no w
    else .no "append: element size"
  | .string b => bif Nat.beq k 1 then .ok (b.size, u8s b) else .no "append: string"
  | _ => .no "append: source"

def mostElems : Nat := 2 ^ 32

def appendCells (k bytes : Nat) (s : St) (x : Value) (m : Nat) (new : List Value) : R (Value × St) :=
  match x with
  | .slice none 0 0 =>
    bif Nat.beq m 0 then .ok (x, s) else
    bif Nat.blt m mostElems && Nat.ble bytes 4096 then
      let (g, s) := newRow new (m * k) s
      .ok (.slice (some ⟨g, 0, some (m * k)⟩) m (2 * k), s)
    else .no "append: too much"
  | .slice (some ⟨g, i, some v⟩) n mt =>
    bif Nat.beq m 0 then .ok (x, s) else
    bif !(Nat.beq (mt / 2) k) then .no "append: element size" else
    bif !(Nat.blt (n + m) mostElems && Nat.ble bytes 4096) then .no "append: too much" else
    match s.heap.get g with
    | some (.row cells len minv) =>
      bif !(Nat.ble minv v) then .no "append: stale" else
      bif Nat.beq (mt % 2) 1 then                     -- its capacity is its length
        let (g', s) := newRow ((cells.drop i).take (n * k) ++ new) ((n + m) * k) s
        .ok (.slice (some ⟨g', 0, some ((n + m) * k)⟩) (n + m) (2 * k), s)
      else bif Nat.beq i 0 then
        bif Nat.beq (n * k) len then
          .ok (.slice (some ⟨g, 0, some ((n + m) * k)⟩) (n + m) (2 * k), { heap := s.heap.set g (.row (cells ++ new) ((n + m) * k) minv), next := s.next, low := Nat.min s.low g })
        else bif Nat.blt g 1000 then .no "append: upon what was handed in" else
          let g' := s.next
          .ok (.slice (some ⟨g', 0, some ((n + m) * k)⟩) (n + m) (2 * k),
            { heap := (s.heap.set g .dead).set g' (.row (cells.take (n * k) ++ new) ((n + m) * k) ((n + m) * k)), next := s.next + 1, low := Nat.min s.low g })
      else .no "append: not from the beginning"
    | _ => .no "append: no row"
  | _ => .no "append: no slice"

def max2 : Value → Value → R Value
  | .int k x, .int _ y => .ok (.int k (bif decide (y > x) then y else x))
  | _, _ => .no "max"
def min2 : Value → Value → R Value
  | .int k x, .int _ y => .ok (.int k (bif decide (y < x) then y else x))
  | _, _ => .no "min"
def foldR (f : Value → Value → R Value) : Value → List Value → R Value
  | x, [] => .ok x
  | x, y :: r =>
    match f x y with
    | .ok z => foldR f z r
    | .no w => .no w

inductive ANext where
  | val (v : Value) (s : St)
  | call (f : Nat) (args : List Value) (s : St)

def evs (tm : T Value) : List Opd → List Value
  | [] => []
  | x :: l => opd tm x :: evs tm l

def getMap (s : St) (g : Nat) : R (List (Value × Value × Nat) × Nat) :=
  match s.heap.get g with
  | some (.map es clock) => .ok (es, clock)
  | _ => .no "no map"
def setMap (s : St) (g : Nat) (es : List (Value × Value × Nat)) (clock : Nat) : St :=
  { heap := s.heap.set g (.map es clock), next := s.next, low := Nat.min s.low g }

def oneCells (l : List Value) : Bool := l.all one

/-- How a method is found at a type: the value itself is the receiver; what it points to (n cells, a struct or not); an interface value at a field of what it points to. -/
inductive Recv where
  | self (f : Nat)
  | deref (agg : Bool) (n f : Nat)
  | through (off : Nat)
/-- The methods of types that are called through interfaces. -/
abbrev Meths := List (Nat × String × Recv)
def methOf : Meths → Nat → String → Option Recv
  | [], _, _ => none
  | (t, n, f) :: r, t', n' => bif Nat.beq t t' && n == n' then some f else methOf r t' n'
def recvOf (ms : Meths) (s : St) (name : String) : Nat → Nat → Value → R (Nat × Value)
  | 0, _, _ => .no "invoke: depth"
  | d + 1, t, v =>
    match methOf ms t name with
    | some (.self f) => .ok (f, v)
    | some (.deref agg n f) =>
      match v with
      | .pointer (some ⟨g, i, some u⟩) =>
        bif agg then
          match readCells s g i u n with
          | .ok l => .ok (f, .agg ⟨l⟩)
          | .no w => .no w
        else
          match readOne s g i u with
          | .ok x => .ok (f, x)
          | .no w => .no w
      | _ => .no "invoke: nil"
    | some (.through off) =>
      match v with
      | .pointer (some ⟨g, i, some u⟩) =>
        match readOne s g (i + off) u with
        | .ok (.iface t' v') => recvOf ms s name d t' v'
        | .ok _ => .no "invoke: nil inside"
        | .no w => .no w
      | _ => .no "invoke: nil"
    | none => .no ("invoke " ++ name)

def aop (ms : Meths) (tm : T Value) (o : AOp) (s : St) : R ANext :=
  match o with
  | .mv x => .ok (.val (opd tm x) s)
  | .sameStr x =>
    match opd tm x with
    | .string b => .ok (.val (.string b) s)
    | _ => .no "sameStr"
  | .pick c a b =>
    match opd tm c with
    | .bool true => .ok (.val (opd tm a) s)
    | .bool false => .ok (.val (opd tm b) s)
    | _ => .no "pick"
  | .alloc zs =>
    let n := zs.length
    let (g, s) := newRow zs n s
    .ok (.val (ptrTo g n) s)
  | .box x =>
    let vs := vcells (opd tm x)
    bif vs.all one then
      let n := vs.length
      let (g, s) := newRow vs n s
      .ok (.val (ptrTo g n) s)
    else .no "box"
  | .build zs parts =>
    match partsOk zs.length tm parts with
    | .ok l => .ok (.val (.agg ⟨fillParts zs l⟩) s)
    | .no w => .no w
  | .buildSlice k len zs parts =>
    match partsOk zs.length tm parts with
    | .ok l =>
      let n := zs.length
      let (g, s) := newRow (fillParts zs l) n s
      .ok (.val (.slice (some ⟨g, 0, some n⟩) len (2 * k + 1)) s)
    | .no w => .no w
  | .load agg n x =>
    match opd tm x with
    | .pointer (some ⟨g, i, some v⟩) =>
      bif agg then
        match readCells s g i v n with
        | .ok l => .ok (.val (.agg ⟨l⟩) s)
        | .no w => .no w
      else
        match readOne s g i v with
        | .ok y => .ok (.val y s)
        | .no w => .no w
    | _ => .no "load: no address"
  | .store n a x =>
    match opd tm a with
    | .pointer (some ⟨g, i, some v⟩) =>
      let vs := vcells (opd tm x)
      bif Nat.beq vs.length n && vs.all one then
        match writeCells s g i v vs with
        | .ok s => .ok (.val undef s)
        | .no w => .no w
      else .no "store: size"
    | _ => .no "store: no address"
  | .nilCheck x =>
    match opd tm x with
    | .pointer (some a) => .ok (.val (.pointer (some a)) s)
    | .func (.func f) a b => .ok (.val (.func (.func f) a b) s)
    | .iface t v => .ok (.val (.iface t v) s)
    | _ => .no "nil"
  | .bin op x y =>
    match binop op (opd tm x) (opd tm y) with
    | .ok v => .ok (.val v s)
    | .no w => .no w
  | .eqNil nk neg x y =>
    match isNil nk (opd tm x), isNil nk (opd tm y) with
    | some true, some b => .ok (.val (.bool (b != neg)) s)
    | some false, some true => .ok (.val (.bool neg) s)
    | _, _ => .no "eqNil"
  | .eqBool neg x y =>
    match opd tm x, opd tm y with
    | .bool a, .bool b => .ok (.val (.bool ((a == b) != neg)) s)
    | _, _ => .no "eqBool"
  | .eqAgg neg at_ x y =>
    match opd tm x, opd tm y with
    | .agg xs, .agg ys =>
      match eqAt xs.toList ys.toList at_ with
      | .ok b => .ok (.val (.bool (b != neg)) s)
      | .no w => .no w
    | _, _ => .no "eqAgg"
  | .eqIface neg tys x y =>
    match opd tm x, opd tm y with
    | .nilIface, .iface _ _ => .ok (.val (.bool neg) s)
    | .iface _ _, .nilIface => .ok (.val (.bool neg) s)
    | .iface t v, .iface u w =>
      bif Nat.beq t u then
        match ckOf tys t with
        | some ck =>
          match keyEq ck v w with
          | some b => .ok (.val (.bool (b != neg)) s)
          | none => .no "eqIface: values"
        | none => .no "eqIface: type"
      else .ok (.val (.bool neg) s)
    | _, _ => .no "eqIface"
  | .un op x =>
    match op, opd tm x with
    | .neg, .int k n => .ok (.val (.int k (k.wrap (0 - n))) s)
    | .xor, .int k n => .ok (.val (.int k (k.wrap (BitVec.ofInt k.bits (if k.signed then -1 else k.max) ^^^ BitVec.ofInt k.bits n).toNat)) s)
    | .not, .bool b => .ok (.val (.bool (!b)) s)
    | _, _ => .no "unop"
  | .toInt k x =>
    match opd tm x with
    | .int _ n => .ok (.val (.int k (k.wrap n)) s)
    | _ => .no "toInt"
  | .strToBytes x =>
    match opd tm x with
    | .string b =>
      let n := b.size
      let (g, s) := newRow (u8s b) n s
      .ok (.val (.slice (some ⟨g, 0, some n⟩) n 2) s)
    | _ => .no "strToBytes"
  | .bytesToStr x =>
    match opd tm x with
    | .slice none _ _ => .ok (.val (.string .empty) s)
    | .slice (some ⟨g, i, some v⟩) n m =>
      bif Nat.beq (m / 2) 1 then
        bif Nat.beq n 0 then .ok (.val (.string .empty) s) else
        match readCells s g i v n with
        | .ok l =>
          match bytesOf l with
          | some b => .ok (.val (.string ⟨⟨b⟩⟩) s)
          | none => .no "bytesToStr: no byte"
        | .no w => .no w
      else .no "bytesToStr: element size"
    | _ => .no "bytesToStr"
  | .strToRunes x =>
    match opd tm x with
    | .string b =>
      let l := (Conv.runesFrom b b.size 0 #[]).toList
      let n := l.length
      let (g, s) := newRow l n s
      .ok (.val (.slice (some ⟨g, 0, some n⟩) n 2) s)
    | _ => .no "strToRunes"
  | .runesToStr x =>
    match opd tm x with
    | .slice none _ _ => .ok (.val (.string .empty) s)
    | .slice (some ⟨g, i, some v⟩) n m =>
      bif Nat.beq (m / 2) 1 then
        bif Nat.beq n 0 then .ok (.val (.string .empty) s) else
        match readCells s g i v n with
        | .ok l =>
          match runesOf l with
          | some rs => .ok (.val (.string (rs.foldl (fun s n => s ++ Utf8.encode n) ByteArray.empty)) s)
          | none => .no "runesToStr: no rune"
        | .no w => .no w
      else .no "runesToStr: element size"
    | _ => .no "runesToStr"
  | .mkIface t x => .ok (.val (.iface t (opd tm x)) s)
  | .mkFunc fn first captured => .ok (.val (.func fn ⟨evs tm first⟩ ⟨evs tm captured⟩) s)
  | .mkMap => .ok (.val (.map (some s.next)) { heap := s.heap.set s.next (.map [] 0), next := s.next + 1, low := s.low })
  | .mkSlice k bytes zs l c =>
    match opd tm l, opd tm c with
    | .int _ a, .int _ b =>
      match asNat a, asNat b with
      | some a, some b =>
        bif Nat.ble a b && Nat.blt b mostElems && Nat.ble bytes 4096 then
          let (g, s) := newRow (repl zs a) (a * k) s
          .ok (.val (.slice (some ⟨g, 0, some (a * k)⟩) a (2 * k + (bif Nat.beq a b then 1 else 0))) s)
        else .no "make: size"
      | _, _ => .no "make: size below 0"
    | _, _ => .no "make"
  | .sliceStr x lo hi =>
    match opd tm x with
    | .string b =>
      match optBound tm b.size b.size hi with
      | .ok h =>
        match optBound tm 0 h lo with
        | .ok l => .ok (.val (.string (b.extract l h)) s)
        | .no w => .no w
      | .no w => .no w
    | _ => .no "sliceStr"
  | .sliceSl k x lo hi mx =>
    match opd tm x with
    | .slice none 0 0 =>
      match optBound tm 0 0 mx, optBound tm 0 0 hi, optBound tm 0 0 lo with
      | .ok _, .ok _, .ok _ => .ok (.val (.slice none 0 0) s)
      | _, _, _ => .no "slice: nil"
    | .slice (some ⟨g, i, some v⟩) n m =>
      bif !(Nat.beq (m / 2) k) then .no "slice: element size" else
      match mx with
      | none =>
        match optBound tm n n hi with
        | .ok h =>
          match optBound tm 0 h lo with
          | .ok l => .ok (.val (.slice (some ⟨g, i + l * k, some v⟩) (h - l) (2 * k + (bif Nat.beq (m % 2) 1 && Nat.beq h n then 1 else 0))) s)
          | .no w => .no w
        | .no w => .no w
      | some o =>
        match bound (opd tm o) n with
        | .ok m' =>
          match optBound tm n m' hi with
          | .ok h =>
            bif !(Nat.beq h m') then .no "slice: a capacity beyond its length" else
            match optBound tm 0 h lo with
            | .ok l => .ok (.val (.slice (some ⟨g, i + l * k, some v⟩) (h - l) (2 * k + 1)) s)
            | .no w => .no w
          | .no w => .no w
        | .no w => .no w
    | _ => .no "slice"
  | .sliceArr n k x lo hi =>
    match opd tm x with
    | .pointer (some ⟨g, i, some v⟩) =>
      bif Nat.ble (i + n * k) v then
        match optBound tm n n hi with
        | .ok h =>
          match optBound tm 0 h lo with
          | .ok l => .ok (.val (.slice (some ⟨g, i + l * k, some v⟩) (h - l) (2 * k + (bif Nat.beq h n then 1 else 0))) s)
          | .no w => .no w
        | .no w => .no w
      else .no "sliceArr: range"
    | _ => .no "sliceArr"
  | .fieldAddr off x =>
    match opd tm x with
    | .pointer (some ⟨g, i, some v⟩) => .ok (.val (.pointer (some ⟨g, i + off, some v⟩)) s)
    | _ => .no "fieldAddr"
  | .field agg off n x =>
    match opd tm x with
    | .agg cs =>
      bif agg then .ok (.val (.agg ⟨(cs.toList.drop off).take n⟩) s)
      else
        match lget cs.toList off with
        | some v => .ok (.val v s)
        | none => .no "field: no cell"
    | _ => .no "field"
  | .indexSl k x i =>
    match opd tm x, opd tm i with
    | .slice (some ⟨g, b, some v⟩) n m, .int _ j =>
      match asNat j with
      | some j =>
        bif Nat.blt j n && Nat.beq (m / 2) k then .ok (.val (.pointer (some ⟨g, b + j * k, some v⟩)) s) else .no "index: range"
      | none => .no "index: below 0"
    | _, _ => .no "indexSl"
  | .indexArr len k x i =>
    match opd tm x, opd tm i with
    | .pointer (some ⟨g, b, some v⟩), .int _ j =>
      match asNat j with
      | some j => bif Nat.blt j len then .ok (.val (.pointer (some ⟨g, b + j * k, some v⟩)) s) else .no "index: range"
      | none => .no "index: below 0"
    | _, _ => .no "indexArr"
  | .indexStr x i =>
    match opd tm x, opd tm i with
    | .string b, .int _ j =>
      match asNat j with
      | some j =>
        match lget b.data.toList j with
        | some c => .ok (.val (.int .u8 c.toNat) s)
        | none => .no "index: range"
      | none => .no "index: below 0"
    | _, _ => .no "indexStr"
  | .indexVal agg len k x i =>
    match opd tm x, opd tm i with
    | .agg cs, .int _ j =>
      match asNat j with
      | some j =>
        bif Nat.blt j len then
          bif agg then .ok (.val (.agg ⟨(cs.toList.drop (j * k)).take k⟩) s)
          else
            match lget cs.toList (j * k) with
            | some v => .ok (.val v s)
            | none => .no "index: no cell"
        else .no "index: range"
      | none => .no "index: below 0"
    | _, _ => .no "indexVal"
  | .lookup ck zero ok m k =>
    let key := opd tm k
    bif !(isKey ck key) then .no "lookup: key" else
    match opd tm m with
    | .map none => .ok (.val (bif ok then .tuple #[zero, .bool false] else zero) s)
    | .map (some g) =>
      match getMap s g with
      | .ok (es, _) =>
        match findKey ck key es 0 with
        | .ok (some (_, v, _)) => .ok (.val (bif ok then .tuple #[v, .bool true] else v) s)
        | .ok none => .ok (.val (bif ok then .tuple #[zero, .bool false] else zero) s)
        | .no w => .no w
      | .no w => .no w
    | _ => .no "lookup"
  | .mapSet ck m k v =>
    let key := opd tm k
    bif !(isKey ck key) then .no "mapSet: key" else
    match opd tm m with
    | .map (some g) =>
      match getMap s g with
      | .ok (es, clock) =>
        match findKey ck key es 0 with
        | .ok (some (i, _, b)) => .ok (.val undef (setMap s g (lset es i (key, opd tm v, b)) clock))
        | .ok none => .ok (.val undef (setMap s g (es ++ [(key, opd tm v, clock)]) (clock + 1)))
        | .no w => .no w
      | .no w => .no w
    | _ => .no "mapSet"
  | .mapEntry ck zero m k =>
    let key := opd tm k
    bif !(isKey ck key) then .no "mapEntry: key" else
    match opd tm m with
    | .map (some g) =>
      match getMap s g with
      | .ok (es, clock) =>
        match findKey ck key es 0 with
        | .ok (some (i, v, b)) => .ok (.val (.tuple #[v, .int .i64 b]) (setMap s g (lset es i (key, v, b)) clock))
        | .ok none => .ok (.val (.tuple #[zero, .int .i64 clock]) (setMap s g (es ++ [(key, zero, clock)]) (clock + 1)))
        | .no w => .no w
      | .no w => .no w
    | _ => .no "mapEntry"
  | .entryStore m st v =>
    match opd tm m, opd tm st with
    | .map (some g), .int _ b =>
      match getMap s g with
      | .ok (es, clock) =>
        match es.findIdx? (fun e => (e.2.2 : Int) == b) with
        | some i =>
          match lget es i with
          | some (k, _, b) => .ok (.val undef (setMap s g (lset es i (k, opd tm v, b)) clock))
          | none => .no "entryStore"
        | none => .no "entryStore: gone"
      | .no w => .no w
    | _, _ => .no "entryStore"
  | .rangeStr x =>
    match opd tm x with
    | .string b => .ok (.val (.pointer (some ⟨s.next, 0, some 0⟩)) { heap := s.heap.set s.next (.iter b 0), next := s.next + 1, low := s.low })
    | _ => .no "rangeStr"
  | .nextStr x =>
    match opd tm x with
    | .pointer (some ⟨g, 0, some 0⟩) =>
      match s.heap.get g with
      | some (.iter b pos) =>
        bif Nat.blt pos b.size then
          let (c, width) := Utf8.decode b pos
          .ok (.val (.tuple #[.bool true, .int .i64 pos, .int .i32 c]) { heap := s.heap.set g (.iter b (pos + width)), next := s.next, low := Nat.min s.low g })
        else .ok (.val (.tuple #[.bool false]) s)
      | _ => .no "nextStr: no iterator"
    | _ => .no "nextStr"
  | .assertT t ok zero x =>
    match opd tm x with
    | .nilIface => bif ok then .ok (.val (.tuple #[zero, .bool false]) s) else .no "assert: nil"
    | .iface u v =>
      bif Nat.beq u t then .ok (.val (bif ok then .tuple #[v, .bool true] else v) s)
      else bif ok then .ok (.val (.tuple #[zero, .bool false]) s) else .no "assert: type"
    | _ => .no "assert"
  | .extract i x =>
    match opd tm x with
    | .tuple vs =>
      match lget vs.toList i with
      | some v => .ok (.val v s)
      | none => .no "extract"
    | _ => .no "extract: no tuple"
  | .call f args => .ok (.call f (evs tm args) s)
  | .callV f args =>
    match opd tm f with
    | .func (.func fn) first captured => .ok (.call fn (first.toList ++ evs tm args ++ captured.toList) s)
    | _ => .no "callV"
  | .invoke name recv args =>
    match opd tm recv with
    | .iface t v =>
      match recvOf ms s name 4 t v with
      | .ok (f, x) => .ok (.call f (x :: evs tm args) s)
      | .no w => .no w
    | _ => .no "invoke"
  | .append k bytes _ sl x =>
    match srcCells k s (opd tm x) with
    | .ok (m, new) =>
      match appendCells k bytes s (opd tm sl) m new with
      | .ok (v, s) => .ok (.val v s)
      | .no w => .no w
    | .no w => .no w
  | .appendN k bytes zs sl x =>
    match opd tm x with
    | .int _ n =>
      match asNat n with
      | some m =>
        match appendCells k bytes s (opd tm sl) m (repl zs m) with
        | .ok (v, s) => .ok (.val v s)
        | .no w => .no w
      | none => .no "append: below 0"
    | _ => .no "appendN"
  | .lenSl x =>
    match opd tm x with
    | .slice _ n _ => .ok (.val (.int .i64 n) s)
    | _ => .no "len"
  | .lenStr x =>
    match opd tm x with
    | .string b => .ok (.val (.int .i64 b.size) s)
    | _ => .no "len"
  | .lenMap x =>
    match opd tm x with
    | .map none => .ok (.val (.int .i64 0) s)
    | .map (some g) =>
      match getMap s g with
      | .ok (es, _) => .ok (.val (.int .i64 es.length) s)
      | .no w => .no w
    | _ => .no "len"
  | .capSl x =>
    match opd tm x with
    | .slice none n _ => bif Nat.beq n 0 then .ok (.val (.int .i64 0) s) else .no "cap"
    | .slice _ n m => bif Nat.beq (m % 2) 1 then .ok (.val (.int .i64 n) s) else .no "cap: open"
    | _ => .no "cap"
  | .copy k d x =>
    match srcCells k s (opd tm x) with
    | .ok (l, cells) =>
      match opd tm d with
      | .slice none _ _ => .ok (.val (.int .i64 0) s)
      | .slice (some ⟨g, i, some v⟩) n m =>
        bif !(Nat.beq (m / 2) k) then .no "copy: element size" else
        let c := Nat.min l n
        bif Nat.beq c 0 then .ok (.val (.int .i64 0) s) else
        match writeCells s g i v (cells.take (c * k)) with
        | .ok s => .ok (.val (.int .i64 c) s)
        | .no w => .no w
      | _ => .no "copy"
    | .no w => .no w
  | .clearSl k zs x =>
    match opd tm x with
    | .slice none _ _ => .ok (.val (.tuple #[]) s)
    | .slice (some ⟨g, i, some v⟩) n m =>
      bif Nat.beq n 0 then .ok (.val (.tuple #[]) s) else
      bif !(Nat.beq (m / 2) k) then .no "clear: element size" else
      match writeCells s g i v (repl zs n) with
      | .ok s => .ok (.val (.tuple #[]) s)
      | .no w => .no w
    | _ => .no "clear"
  | .clearMap x =>
    match opd tm x with
    | .map none => .ok (.val (.tuple #[]) s)
    | .map (some g) =>
      match getMap s g with
      | .ok (_, clock) => .ok (.val (.tuple #[]) (setMap s g [] clock))
      | .no w => .no w
    | _ => .no "clear"
  | .delete ck m k =>
    let key := opd tm k
    bif !(isKey ck key) then .no "delete: key" else
    match opd tm m with
    | .map none => .ok (.val (.tuple #[]) s)
    | .map (some g) =>
      match getMap s g with
      | .ok (es, clock) =>
        match findKey ck key es 0 with
        | .ok (some (i, _, _)) => .ok (.val (.tuple #[]) (setMap s g (es.take i ++ es.drop (i + 1)) clock))
        | .ok none => .ok (.val (.tuple #[]) s)
        | .no w => .no w
      | .no w => .no w
    | _ => .no "delete"
  | .max xs =>
    match evs tm xs with
    | [] => .no "max"
    | x :: r =>
      match foldR max2 x r with
      | .ok v => .ok (.val v s)
      | .no w => .no w
  | .min xs =>
    match evs tm xs with
    | [] => .no "min"
    | x :: r =>
      match foldR min2 x r with
      | .ok v => .ok (.val v s)
      | .no w => .no w
  | .mapsClone x =>
    match opd tm x with
    | .iface t (.map (some g)) =>
      match getMap s g with
      | .ok (es, clock) => .ok (.val (.iface t (.map (some s.next))) { heap := s.heap.set s.next (.map es clock), next := s.next + 1, low := s.low })
      | .no w => .no w
    | _ => .no "mapsClone"
  | .fail => .no "an operation that is not known"

/-- Which operations look at nothing but slots. -/
def AOp.kind : AOp → Kind
  | .load .. => .load
  | .store .. => .store
  | .alloc _ => .make
  | .box _ => .make
  | .buildSlice .. => .make
  | .strToBytes _ => .make
  | .bytesToStr _ => .other
  | .strToRunes _ => .make
  | .runesToStr _ => .other
  | .mkMap => .make
  | .mkSlice .. => .make
  | .lookup .. => .other
  | .mapSet .. => .other
  | .mapEntry .. => .other
  | .entryStore .. => .other
  | .rangeStr _ => .make
  | .nextStr _ => .other
  | .call .. => .other
  | .callV .. => .other
  | .invoke .. => .other
  | .append .. => .other
  | .appendN .. => .other
  | .lenMap _ => .other
  | .copy .. => .other
  | .clearSl .. => .other
  | .clearMap _ => .other
  | .delete .. => .other
  | .mapsClone _ => .other
  | _ => .pure

inductive AExit where
  | normal
  | exit (id : Nat)
  | ret

abbrev CallK := Nat → List Value → St → R (Value × St)

def put (tm : T Value) (d : Option Nat) (v : Value) : T Value :=
  match d with
  | some d => tm.set d v
  | none => tm

/-- One operation; whether it is wanted. -/
def wanted (tm : T Value) : Option (Nat × Bool) → Bool
  | none => true
  | some (t, b) =>
    match tm.get t with
    | some (.bool c) => c == b
    | _ => false
def runOp (ms : Meths) (call : CallK) (tm : T Value) (o : AOp) (s : St) : R (Value × St) :=
  match aop ms tm o s with
  | .ok (.val v s) => .ok (v, s)
  | .ok (.call f args s) => call f args s
  | .no w => .no w

def runOps (ms : Meths) (call : CallK) : List AOper → T Value → St → R (T Value × St)
  | [], tm, s => .ok (tm, s)
  | o :: rest, tm, s =>
    bif wanted tm o.guard then
      match runOp ms call tm o.op s with
      | .ok (v, s) => runOps ms call rest (put tm o.dst v) s
      | .no w => .no w
    else runOps ms call rest (put tm o.dst undef) s

/-- What an operation of a region whose order is open has done: it read or wrote cells (of an object, from a place on, as a version sees it, so many); it called, and perhaps made objects; it changed what was there. -/
inductive Done where
  | read (g i u n : Nat)
  | wrote (g i u n : Nat)
  | quiet
  | effect

def spanOf (agg : Bool) (n : Nat) : Nat := bif agg then n else 1
def target (tm : T Value) : Opd → Option (Nat × Nat × Nat)
  | o =>
    match opd tm o with
    | .pointer (some ⟨g, i, some u⟩) => some (g, i, u)
    | _ => none

def apartCells (g i u n g' i' u' n' : Nat) : Bool := !(Nat.beq g g') || (Nat.beq u u' && (Nat.ble (i + n) i' || Nat.ble (i' + n') i))

/-- May two operations that are not ordered come in any order? (a: the earlier one, b: the later one.) -/
def Done.apart : Done → Done → Bool
  | .read .., .read .. => true
  | .read g i u n, .wrote g' i' u' n' => apartCells g i u n g' i' u' n'
  | .wrote g i u n, .read g' i' u' n' => apartCells g i u n g' i' u' n'
  | .wrote g i u n, .wrote g' i' u' n' => apartCells g i u n g' i' u' n'
  | .read .., .quiet => true
  | .quiet, .read .. => true
  | .quiet, .quiet => true
  | _, _ => false

/-- A row whose cells are as many as it says. -/
def rowOk (s : St) (g : Nat) : Bool :=
  match s.heap.get g with
  | some (.row cells n _) => Nat.beq cells.length n
  | _ => false

def bit (m i : Nat) : Bool := Nat.testBit m i

def allApart (anc : Nat) (d : Done) : List (Nat × Done) → Bool
  | [] => true
  | (j, x) :: rest => (bit anc j || x.apart d) && allApart anc d rest

/-- What stands at the names from a on, n of them, laid into another heap. -/
def layFrom (src : T Ob) : Nat → Nat → T Ob → T Ob
  | _, 0, dst => dst
  | a, n + 1, dst =>
    match src.get a with
    | some o => layFrom src (a + 1) n (dst.set a o)
    | none => layFrom src (a + 1) n dst

/-- What has been made in this region: by which operation, from which name on, how many. -/
abbrev Made := List (Nat × Nat × Nat)
def allAhead (anc : Nat) : Made → Bool
  | [] => true
  | (j, _, _) :: r => bit anc j && allAhead anc r
/-- No name that has been made by an operation that does not stand ahead. -/
def known (anc g : Nat) : Made → Bool
  | [] => true
  | (j, a, n) :: r => (bit anc j || Nat.blt g a || Nat.ble (a + n) g) && known anc g r
def hide : Nat → Nat → T Ob → T Ob
  | _, 0, h => h
  | a, n + 1, h => hide (a + 1) n (h.del a)
/-- The heap without what has been made by operations that do not stand ahead. -/
def seenBy (anc : Nat) : Made → T Ob → T Ob
  | [], h => h
  | (j, a, n) :: r, h => bif bit anc j then seenBy anc r h else seenBy anc r (hide a n h)
def madeBy (i start next : Nat) (qs : Made) : Made := bif Nat.beq start next then qs else (i, start, next - start) :: qs

def runDraw (ms : Meths) (call : CallK) : Nat → List AOper → List (Nat × Done) → Made → T Value → St → R (T Value × St)
  | _, [], _, _, tm, s => .ok (tm, s)
  | i, o :: rest, ds, qs, tm, s =>
    bif wanted tm o.guard then
      match o.op.kind with
      | .pure =>
        match runOp ms call tm o.op s with
        | .ok (v, s) => runDraw ms call (i + 1) rest ds qs (put tm o.dst v) s
        | .no w => .no w
      | .make =>
        match runOp ms call tm o.op s with
        | .ok (v, s') => runDraw ms call (i + 1) rest ds (madeBy i s.next s'.next qs) (put tm o.dst v) s'
        | .no w => .no w
      | .load =>
        match o.op with
        | .load agg n x =>
          match target tm x with
          | some (g, k, u) =>
            bif allApart o.anc (.read g k u (spanOf agg n)) ds && known o.anc g qs then
              match runOp ms call tm o.op s with
              | .ok (v, s) => runDraw ms call (i + 1) rest ((i, .read g k u (spanOf agg n)) :: ds) qs (put tm o.dst v) s
              | .no w => .no w
            else .no "draw: a load"
          | none => .no "draw: load"
        | _ => .no "draw: load"
      | .store =>
        match o.op with
        | .store n x _ =>
          match target tm x with
          | some (g, k, u) =>
            bif allApart o.anc (.wrote g k u n) ds && known o.anc g qs && rowOk s g then
              match runOp ms call tm o.op s with
              | .ok (v, s) => runDraw ms call (i + 1) rest ((i, .wrote g k u n) :: ds) qs (put tm o.dst v) s
              | .no w => .no w
            else .no "draw: a store"
          | none => .no "draw: store"
        | _ => .no "draw: store"
      | .other =>
        let start := s.next
        bif allAhead o.anc qs then
          match runOp ms call tm o.op { heap := s.heap, next := start, low := start } with
          | .ok (v, s') =>
            bif Nat.ble start s'.low then
              bif allApart o.anc .quiet ds then
                runDraw ms call (i + 1) rest ((i, .quiet) :: ds) (madeBy i start s'.next qs) (put tm o.dst v) { heap := s'.heap, next := s'.next, low := s.low }
              else .no "draw: a call"
            else
              bif allApart o.anc .effect ds then
                runDraw ms call (i + 1) rest ((i, .effect) :: ds) (madeBy i start s'.next qs) (put tm o.dst v) { heap := s'.heap, next := s'.next, low := Nat.min s.low s'.low }
              else .no "draw: an effect"
          | .no w => .no w
        else
          match runOp ms call tm o.op { heap := seenBy o.anc qs s.heap, next := start, low := start } with
          | .ok (v, s') =>
            bif Nat.ble start s'.low && allApart o.anc .quiet ds then
              runDraw ms call (i + 1) rest ((i, .quiet) :: ds) (madeBy i start s'.next qs) (put tm o.dst v)
                { heap := layFrom s'.heap start (s'.next - start) s.heap, next := s'.next, low := s.low }
            else .no "draw: an effect"
          | .no w => .no w
    else runDraw ms call (i + 1) rest ds qs (put tm o.dst undef) s

def loopN (f : T Value → St → R (AExit × T Value × St)) : Nat → T Value → St → R (AExit × T Value × St)
  | 0, _, _ => .no "loop: fuel"
  | n + 1, tm, s =>
    match f tm s with
    | .ok (.normal, tm, s) => loopN f n tm s
    | r => r

def exec (ms : Meths) (call : CallK) (k : Nat) : ACode → T Value → St → R (AExit × T Value × St)
  | .skip, tm, s => .ok (.normal, tm, s)
  | .region ops, tm, s =>
    match runOps ms call ops tm s with
    | .ok (tm, s) => .ok (.normal, tm, s)
    | .no w => .no w
  | .draw ops, tm, s =>
    match runDraw ms call 0 ops [] [] tm s with
    | .ok (tm, s) => .ok (.normal, tm, s)
    | .no w => .no w
  | .seq a b, tm, s =>
    match exec ms call k a tm s with
    | .ok (.normal, tm, s) => exec ms call k b tm s
    | r => r
  | .cond c a b, tm, s =>
    match opd tm c with
    | .bool true => exec ms call k a tm s
    | .bool false => exec ms call k b tm s
    | _ => .no "cond"
  | .block id c, tm, s =>
    match exec ms call k c tm s with
    | .ok (.exit id', tm, s) => bif Nat.beq id id' then .ok (.normal, tm, s) else .ok (.exit id', tm, s)
    | r => r
  | .loop c, tm, s => loopN (exec ms call k c) k tm s
  | .exit id, tm, s => .ok (.exit id, tm, s)
  | .ret, tm, s => .ok (.ret, tm, s)
  | .none w, _, _ => .no w

def results (tm : T Value) (s : St) : List ARes → R (List Value)
  | [] => .ok []
  | .tmp t :: rest =>
    match results tm s rest with
    | .ok l => .ok (opd tm (.tmp t) :: l)
    | .no w => .no w
  | .cell t agg n :: rest =>
    match opd tm (.tmp t) with
    | .pointer (some ⟨g, i, some v⟩) =>
      let x : R Value :=
        bif agg then
          match readCells s g i v n with
          | .ok l => .ok (.agg ⟨l⟩)
          | .no w => .no w
        else readOne s g i v
      match x with
      | .ok x =>
        match results tm s rest with
        | .ok l => .ok (x :: l)
        | .no w => .no w
      | .no w => .no w
    | _ => .no "result: no address"

def tmpsFrom : List Value → Nat → T Value → T Value
  | [], _, t => t
  | v :: l, i, t => tmpsFrom l (i + 1) (t.set i v)

/-- The keys of a map, sorted. -/
def keyLe : Value → Value → Bool
  | .int _ a, .int _ b => decide (a ≤ b)
  | .string a, .string b => !(strLess b.data.toList a.data.toList)
  | _, _ => true
def insertKey (x : Value) : List Value → List Value
  | [] => [x]
  | y :: l => bif keyLe x y then x :: y :: l else y :: insertKey x l
def sortKeys : List Value → List Value
  | [] => []
  | x :: l => insertKey x (sortKeys l)

/-- Born one after another, before the clock. -/
def bornOk (clock : Nat) : Nat → List (Value × Value × Nat) → Bool
  | _, [] => true
  | lo, e :: r => Nat.ble lo e.2.2 && Nat.blt e.2.2 clock && bornOk clock (e.2.2 + 1) r
def keyFine : CK → Value → Bool
  | .int, .int .i64 n => decide (-9223372036854775808 ≤ n) && decide (n ≤ 9223372036854775807)
  | .str, .string b => Nat.ble b.size (2 ^ 40)
  | _, _ => false
def otherKeys (ck : CK) (k : Value) : List (Value × Value × Nat) → Bool
  | [] => true
  | e :: r =>
    match keyEq ck k e.1 with
    | some false => otherKeys ck k r
    | _ => false
def keysFine (ck : CK) : List (Value × Value × Nat) → Bool
  | [] => true
  | e :: r => keyFine ck e.1 && otherKeys ck e.1 r && keysFine ck r

def sortedKeys (ck : CK) (fs : List Nat) (args : List Value) (s : St) : R (Value × St) :=
  match args with
  | [.func (.func f) first cap] =>
    bif !(fs.contains f && first.toList.isEmpty) then .no "keys: another sequence" else
    match cap.toList with
    | [.pointer (some ⟨g, 0, some v⟩)] =>
      bif Nat.blt g 1000 then .no "keys: handed in" else
      match readOne s g 0 v with
      | .ok (.map (some m)) =>
        match getMap s m with
        | .ok (es, clock) =>
          bif bornOk clock 0 es && keysFine ck es && Nat.ble es.length (2 ^ 30) then
            match sortKeys (es.map (·.1)) with
            | [] => .ok (.slice none 0 0, s)
            | l =>
              let n := l.length
              let (g, s) := newRow l n s
              .ok (.slice (some ⟨g, 0, some n⟩) n 2, s)
          else .no "keys: a map that is not fine"
        | .no w => .no w
      | .ok _ => .no "keys: no map"
      | .no w => .no w
    | _ => .no "keys: closure"
  | _ => .no "keys"

def cloneStr (args : List Value) (s : St) : R (Value × St) :=
  match args with
  | [.string b] => bif Nat.ble b.size (2 ^ 40) then .ok (.string b, s) else .no "clone: too long"
  | _ => .no "clone"

/-- What a run leaves alone. -/
structure Fr (s s' : St) : Prop where
  le : s.next ≤ s'.next
  low : s'.low ≤ s.low
  same : ∀ g, g < s.next → g < s'.low → s'.heap.get g = s.heap.get g
  dom : ∀ g, ¬ (s.next ≤ g ∧ g < s'.next) → s.heap.get g = none → s'.heap.get g = none
  keep : ∀ g, s'.heap.get g = none → s.heap.get g = none


/-- What is known of a function. -/
inductive AFn where
  | code (f : AFunc)
  | keys (ck : CK) (fs : List Nat)  -- slices.Sorted at what maps.Keys handed back
  | clone                           -- a copy of a text
  | prim (g : List Value → St → R (Value × St)) (h : ∀ args s v s', g args s = .ok (v, s') → Fr s s')  -- shown elsewhere

def acall (tab : Nat → Option AFn) (ms : Meths) : Nat → CallK
  | 0 => fun _ _ _ => .no "fuel"
  | k + 1 => fun f args s =>
    match tab f with
    | some (.code fn) =>
      match exec ms (acall tab ms k) k fn.body (tmpsFrom args 0 .e) s with
      | .ok (.exit _, _, _) => .no "exit"
      | .ok (_, tm, s) =>
        match results tm s fn.results with
        | .ok [v] => .ok (v, s)
        | .ok l => .ok (.tuple ⟨l⟩, s)
        | .no w => .no w
      | .no w => .no ("F" ++ toString f ++ "/" ++ w)
    | some (.keys ck fs) => sortedKeys ck fs args s
    | some .clone => cloneStr args s
    | some (.prim g _) => g args s
    | none => .no ("no function " ++ toString f)

end Go.Am

/-
  THE ABSTRACT MACHINE: its maps and lists.
-/
namespace Go.Am
namespace T
variable {α : Type}
theorem get_e (k : Nat) : (T.e : T α).get k = none := rfl
theorem get_setF : ∀ (f : Nat) (t : T α) (k : Nat) (x : α) (j : Nat), k < f → (setF f t k x).get j = if j = k then some x else t.get j
  | 0, _, _, _, _, h => absurd h (Nat.not_lt_zero _)
  | f + 1, .e, 0, x, 0, _ => by simp [setF, get]
  | f + 1, .e, 0, x, j + 1, _ => by
    simp only [setF, get]
    cases Nat.beq (j % 2) 0 <;> simp
  | f + 1, .e, k + 1, x, 0, _ => by
    simp only [setF]
    cases Nat.beq (k % 2) 0 <;> simp [get]
  | f + 1, .e, k + 1, x, j + 1, h => by
    have hk : k / 2 < f := by omega
    simp only [setF]
    cases hb : Nat.beq (k % 2) 0 <;> cases hc : Nat.beq (j % 2) 0 <;> simp only [cond_true, cond_false, get, hc, get_setF f _ _ _ _ hk]
    · have e1 : k % 2 ≠ 0 := fun e => by simp [e] at hb
      have e2 : j % 2 ≠ 0 := fun e => by simp [e] at hc
      by_cases e : j = k
      · simp [e]
      · rw [if_neg (by omega), if_neg (by omega)]
    · have e1 : k % 2 ≠ 0 := fun e => by simp [e] at hb
      have e2 : j % 2 = 0 := by simpa using Nat.eq_of_beq_eq_true hc
      rw [if_neg (by omega)]
    · have e1 : k % 2 = 0 := by simpa using Nat.eq_of_beq_eq_true hb
      have e2 : j % 2 ≠ 0 := fun e => by simp [e] at hc
      rw [if_neg (by omega)]
    · have e1 : k % 2 = 0 := by simpa using Nat.eq_of_beq_eq_true hb
      have e2 : j % 2 = 0 := by simpa using Nat.eq_of_beq_eq_true hc
      by_cases e : j = k
      · simp [e]
      · rw [if_neg (by omega), if_neg (by omega)]
  | f + 1, .n l v r, 0, x, 0, _ => by simp [setF, get]
  | f + 1, .n l v r, 0, x, j + 1, _ => by
    simp only [setF, get]
    cases Nat.beq (j % 2) 0 <;> simp
  | f + 1, .n l v r, k + 1, x, 0, _ => by
    simp only [setF]
    cases Nat.beq (k % 2) 0 <;> simp [get]
  | f + 1, .n l v r, k + 1, x, j + 1, h => by
    have hk : k / 2 < f := by omega
    simp only [setF]
    cases hb : Nat.beq (k % 2) 0 <;> cases hc : Nat.beq (j % 2) 0 <;> simp only [cond_true, cond_false, get, hc, get_setF f _ _ _ _ hk]
    · have e1 : k % 2 ≠ 0 := fun e => by simp [e] at hb
      have e2 : j % 2 ≠ 0 := fun e => by simp [e] at hc
      by_cases e : j = k
      · simp [e]
      · rw [if_neg (by omega), if_neg (by omega)]
    · have e1 : k % 2 ≠ 0 := fun e => by simp [e] at hb
      have e2 : j % 2 = 0 := by simpa using Nat.eq_of_beq_eq_true hc
      rw [if_neg (by omega)]
    · have e1 : k % 2 = 0 := by simpa using Nat.eq_of_beq_eq_true hb
      have e2 : j % 2 ≠ 0 := fun e => by simp [e] at hc
      rw [if_neg (by omega)]
    · have e1 : k % 2 = 0 := by simpa using Nat.eq_of_beq_eq_true hb
      have e2 : j % 2 = 0 := by simpa using Nat.eq_of_beq_eq_true hc
      by_cases e : j = k
      · simp [e]
      · rw [if_neg (by omega), if_neg (by omega)]
theorem get_set (t : T α) (k : Nat) (x : α) (j : Nat) : (t.set k x).get j = if j = k then some x else t.get j :=
  get_setF (k + 1) t k x j (Nat.lt_succ_self k)
theorem get_set_same (t : T α) (k : Nat) (x : α) : (t.set k x).get k = some x := by rw [get_set, if_pos rfl]
theorem get_set_ne (t : T α) {k j : Nat} (x : α) (h : j ≠ k) : (t.set k x).get j = t.get j := by rw [get_set, if_neg h]
theorem get_del : ∀ (t : T α) (k j : Nat), (t.del k).get j = if j = k then none else t.get j
  | .e, k, j => by simp [del, get]
  | .n l v r, 0, 0 => by simp [del, get]
  | .n l v r, 0, j + 1 => by
    simp only [del, get]
    cases Nat.beq (j % 2) 0 <;> simp
  | .n l v r, k + 1, 0 => by
    simp only [del]
    cases Nat.beq (k % 2) 0 <;> simp [get]
  | .n l v r, k + 1, j + 1 => by
    simp only [del]
    cases hb : Nat.beq (k % 2) 0 <;> cases hc : Nat.beq (j % 2) 0 <;> simp only [cond_true, cond_false, get, hc, get_del]
    · have e1 : k % 2 ≠ 0 := fun e => by simp [e] at hb
      have e2 : j % 2 ≠ 0 := fun e => by simp [e] at hc
      by_cases e : j = k
      · simp [e]
      · rw [if_neg (by omega), if_neg (by omega)]
    · have e1 : k % 2 ≠ 0 := fun e => by simp [e] at hb
      have e2 : j % 2 = 0 := by simpa using Nat.eq_of_beq_eq_true hc
      rw [if_neg (by omega)]
    · have e1 : k % 2 = 0 := by simpa using Nat.eq_of_beq_eq_true hb
      have e2 : j % 2 ≠ 0 := fun e => by simp [e] at hc
      rw [if_neg (by omega)]
    · have e1 : k % 2 = 0 := by simpa using Nat.eq_of_beq_eq_true hb
      have e2 : j % 2 = 0 := by simpa using Nat.eq_of_beq_eq_true hc
      by_cases e : j = k
      · simp [e]
      · rw [if_neg (by omega), if_neg (by omega)]
end T

theorem lget_eq {α : Type} : ∀ (l : List α) (i : Nat), lget l i = l[i]?
  | [], _ => by simp [lget]
  | x :: l, 0 => by simp [lget]
  | x :: l, i + 1 => by simp [lget, lget_eq l i]
theorem lset_eq {α : Type} : ∀ (l : List α) (i : Nat) (v : α), lset l i v = l.set i v
  | [], _, _ => by simp [lset]
  | x :: l, 0, v => by simp [lset]
  | x :: l, i + 1, v => by simp [lset, lset_eq l i v]
theorem length_lput (l : List Value) (i : Nat) (vs : List Value) (h : i + vs.length ≤ l.length) : (lput l i vs).length = l.length := by
  simp [lput]; omega
theorem getElem?_lput (l : List Value) (i : Nat) (vs : List Value) (h : i + vs.length ≤ l.length) (j : Nat) :
    (lput l i vs)[j]? = if i ≤ j ∧ j < i + vs.length then vs[j - i]? else l[j]? := by
  have hi : (l.take i).length = i := by simp; omega
  unfold lput
  by_cases h1 : j < i
  · rw [if_neg (by omega), List.append_assoc, List.getElem?_append_left (by omega), List.getElem?_take_of_lt h1]
  · by_cases h2 : j < i + vs.length
    · rw [if_pos ⟨by omega, h2⟩, List.append_assoc, List.getElem?_append_right (by omega), hi, List.getElem?_append_left (by omega)]
    · rw [if_neg (by omega), List.getElem?_append_right (by simp; omega), List.getElem?_drop]
      congr 1
      simp
      omega
end Go.Am
