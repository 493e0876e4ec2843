/-
  FROM THE MODEL's CODE TO THE ABSTRACT MACHINE's: types looked up.
-/
import Derived.Test.YtdmijaofelgonaaGreatDoorAmA
import GoSem.Core.Region
namespace Go.Am

/-- A value that holds no address. -/
def plain : Value → Bool
  | .bool _ => true
  | .int _ _ => true
  | .string _ => true
  | .pointer none => true
  | .slice none 0 0 => true
  | .map none => true
  | .nilFunc => true
  | .nilIface => true
  | .func (.func _) a b => a.size == 0 && b.size == 0
  | _ => false
def plain1 : Value → Bool
  | .agg cs => cs.toList.all plain
  | .tuple vs => vs.size == 0
  | v => plain v

section
variable (P : Program)

def compOpd : Operand → Option Opd
  | .tmp t => some (.tmp t)
  | .const v => if plain1 v then some (.const v) else none
  | .global g =>
    match P.globals[g]? with
    | some gl =>
      match P.info? gl.type with
      | some i => some (.const (.pointer (some ⟨g, 0, some i.size⟩)))
      | none => none
    | none => none
  | .func f => some (.const (.func (.func f) #[] #[]))
def compOpds : List Operand → Option (List Opd)
  | [] => some []
  | x :: l => do pure ((← compOpd P x) :: (← compOpds l))
def compOpt : Option Operand → Option (Option Opd)
  | none => some none
  | some x => do pure (some (← compOpd P x))

def szOf (t : TypeId) : Option Nat := (P.info? t).map (·.size)
def aggOf (t : TypeId) : Option Bool :=
  match P.underlying t with
  | some (.struct _) => some true
  | some (.array _ _) => some true
  | some _ => some false
  | none => none
def zeroOf (t : TypeId) : Option Value :=
  match P.info? t with
  | some i =>
    match i.zero with
    | some v => if plain1 v && (vcells v).all one && Nat.beq (vcells v).length i.size then some v else none
    | none => none
  | none => none
def bytesOfT (t : TypeId) : Option Nat := (P.info? t).map (·.bytes)

def ckAt (t : TypeId) : Option CK :=
  match P.underlying t with
  | some .bool => some .bool
  | some (.int _) => some .int
  | some .string => some .str
  | _ => none
/-- The cells at which two structs are compared: of basic fields alone. -/
def eqCells : List Field → Option (List (Nat × CK))
  | [] => some []
  | f :: fs =>
    if f.name = "_" then none else
    match ckAt P f.type, eqCells fs with
    | some c, some l => some ((f.offset, c) :: l)
    | _, _ => none

def partsOf (fields : List (Nat × Nat)) : List (Nat × Operand) → Option (List (Nat × Nat × Opd))
  | [] => some []
  | (i, x) :: rest => do
    let (off, size) ← lget fields i
    pure ((off, size, ← compOpd P x) :: (← partsOf fields rest))
/-- A struct's places. -/
def placesOf : List Field → Option (List (Nat × Nat))
  | [] => some []
  | f :: fs =>
    match szOf P f.type, placesOf fs with
    | some k, some l => some ((f.offset, k) :: l)
    | _, _ => none
def partsAt (k : Nat) : List (Nat × Operand) → Option (List (Nat × Nat × Opd))
  | [] => some []
  | (i, x) :: rest => do pure ((i * k, k, ← compOpd P x) :: (← partsAt k rest))

/-- Types whose values may be compared inside an interface. -/
def ifaceTypes : List (Nat × CK) :=
  (List.range P.types.size).filterMap fun t =>
    match P.info? t, ckAt P t with
    | some i, some c => if i.comparable then some (t, c) else none
    | _, _ => none

def negOf : BinOp → Option Bool
  | .eql => some false
  | .neq => some true
  | _ => none
def nkOf' : TypeDesc → Option NK
  | .pointer _ => some .ptr
  | .slice _ => some .sl
  | .map _ _ => some .map
  | .func _ _ _ => some .func
  | _ => none
def isConst : Operand → Bool
  | .const _ => true
  | _ => false
def isIntConst : Operand → Bool
  | .const (.int _ _) => true
  | _ => false

def compOp (o : Oper) : Option AOp := do
  match o.op with
  | .move x => pure (.mv (← compOpd P x))
  | .assign x => pure (.mv (← compOpd P x))
  | .pick c a b => pure (.pick (← compOpd P c) (← compOpd P a) (← compOpd P b))
  | .alloc e => do
    let z ← zeroOf P e
    pure (.alloc (vcells z))
  | .box _ x => pure (.box (← compOpd P x))
  | .build t parts =>
    let z ← zeroOf P t
    match P.underlying t with
    | some (.struct fields) =>
      let l ← placesOf P fields.toList
      pure (.build (vcells z) (← partsOf P l parts.toList))
    | some (.array _ e) => do
      pure (.build (vcells z) (← partsAt P (← szOf P e) parts.toList))
    | _ => none
  | .buildSlice t len parts =>
    match P.underlying t with
    | some (.slice e) =>
      let k ← szOf P e
      if k = 0 || len * k > 2 ^ 20 then none else
      let z ← zeroOf P e
      pure (.buildSlice k len (repl (vcells z) len) (← partsAt P k parts.toList))
    | _ => none
  | .load t x => pure (.load (← aggOf P t) (← szOf P t) (← compOpd P x))
  | .store t a x => pure (.store (← szOf P t) (← compOpd P a) (← compOpd P x))
  | .nilCheck x => pure (.nilCheck (← compOpd P x))
  | .binOp op t x y _ =>
    let a ← compOpd P x
    let b ← compOpd P y
    match P.underlying t with
    | some (.int _) => pure (.bin op a b)
    | some .string => pure (.bin op a b)
    | some .bool =>
      let neg ← negOf op
      pure (.eqBool neg a b)
    | some (.interface ms) =>
      let neg ← negOf op
      if isConst x || isConst y then pure (.eqNil .iface neg a b)
      else if ms.size = 0 then none else pure (.eqIface neg (ifaceTypes P) a b)
    | some (.struct fs) =>
      let neg ← negOf op
      if P.eqGuardType P.depth t then none else
      if P.stoodInHeld t then none else
      pure (.eqAgg neg (← eqCells P fs.toList) a b)
    | some d =>
      let neg ← negOf op
      let nk ← nkOf' d
      pure (.eqNil nk neg a b)
    | none => none
  | .unOp op _ x => pure (.un op (← compOpd P x))
  | .convert src dst x =>
    let a ← compOpd P x
    match P.underlying src, P.underlying dst with
    | some (.int _), some (.int k) => pure (.toInt k a)
    | some .string, some .string => pure (.sameStr a)
    | some .string, some (.slice e) =>
      match P.underlying e with
      | some (.int .u8) => pure (.strToBytes a)
      | _ => none
    | some (.slice e), some .string =>
      match P.underlying e with
      | some (.int .u8) => pure (.bytesToStr a)
      | _ => none
    | _, _ => none
  | .makeInterface t x =>
    match P.underlying t with
    | some (.interface _) => none
    | some _ => pure (.mkIface t (← compOpd P x))
    | none => none
  | .makeFunc (.func f) a b => pure (.mkFunc (.func f) (← compOpds P a.toList) (← compOpds P b.toList))
  | .makeFunc (.method n) a b => pure (.mkFunc (.method n) (← compOpds P a.toList) (← compOpds P b.toList))
  | .makeMap _ none => pure .mkMap
  | .makeMap t (some r) =>
    match P.underlying t with
    | some (.map _ _) => if isIntConst r then pure .mkMap else none
    | _ => none
  | .makeSlice t l c =>
    match P.underlying t with
    | some (.slice e) =>
      let k ← szOf P e
      if k = 0 then none else
      pure (.mkSlice k (← bytesOfT P e) (vcells (← zeroOf P e)) (← compOpd P l) (← compOpd P c))
    | _ => none
  | .slice t x lo hi none =>
    let a ← compOpd P x
    let lo ← compOpt P lo
    let hi ← compOpt P hi
    match P.underlying t with
    | some .string => pure (.sliceStr a lo hi)
    | some (.slice e) =>
      let k ← szOf P e
      if k = 0 then none else pure (.sliceSl k a lo hi none)
    | some (.array n e) =>
      let k ← szOf P e
      if k = 0 then none else pure (.sliceArr n k a lo hi)
    | _ => none
  | .slice t x lo (some hi) (some mx) =>
    let a ← compOpd P x
    let lo ← compOpt P lo
    let hi ← compOpd P hi
    let mx ← compOpd P mx
    match P.underlying t with
    | some (.slice e) =>
      let k ← szOf P e
      if k = 0 then none else pure (.sliceSl k a lo (some hi) (some mx))
    | _ => none
  | .fieldAddr t x f =>
    match P.underlying t with
    | some (.struct fields) =>
      let fd ← lget fields.toList f
      if (← szOf P fd.type) = 0 then none else pure (.fieldAddr fd.offset (← compOpd P x))
    | _ => none
  | .field t x f =>
    match P.underlying t with
    | some (.struct fields) =>
      let fd ← lget fields.toList f
      pure (.field (← aggOf P fd.type) fd.offset (← szOf P fd.type) (← compOpd P x))
    | _ => none
  | .indexAddr t x i =>
    match P.underlying t with
    | some (.slice e) =>
      let k ← szOf P e
      if k = 0 then none else pure (.indexSl k (← compOpd P x) (← compOpd P i))
    | some (.array n e) =>
      let k ← szOf P e
      if k = 0 then none else pure (.indexArr n k (← compOpd P x) (← compOpd P i))
    | _ => none
  | .index t x i =>
    match P.underlying t with
    | some .string => pure (.indexStr (← compOpd P x) (← compOpd P i))
    | some (.array n e) => pure (.indexVal (← aggOf P e) n (← szOf P e) (← compOpd P x) (← compOpd P i))
    | _ => none
  | .lookup t m k ok =>
    match P.underlying t with
    | some (.map kt e) =>
      pure (.lookup (← ckAt P kt) (← zeroOf P e) ok (← compOpd P m) (← compOpd P k))
    | _ => none
  | .mapUpdate t m k v =>
    match P.underlying t with
    | some (.map kt _) =>
      pure (.mapSet (← ckAt P kt) (← compOpd P m) (← compOpd P k) (← compOpd P v))
    | _ => none
  | .insert t m k v =>
    match P.underlying t with
    | some (.map kt _) =>
      pure (.mapSet (← ckAt P kt) (← compOpd P m) (← compOpd P k) (← compOpd P v))
    | _ => none
  | .typeAssert x _ t ok =>
    match P.underlying t with
    | some (.interface _) => none
    | some _ =>
      if ok then pure (.assertT t true (← zeroOf P t) (← compOpd P x))
      else pure (.assertT t false undef (← compOpd P x))
    | none => none
  | .extract x i => pure (.extract i (← compOpd P x))
  | .call { callee := .value (.func f), args, .. } =>
    match P.funcs[f]? with
    | some fn =>
      if fn.body.isSome then
        if fn.name == "runtime.NumGoroutine" then none else pure (.call f (← compOpds P args.toList))
      else none
    | none => none
  | .call { callee := .value (.tmp t), args, .. } => pure (.callV (.tmp t) (← compOpds P args.toList))
  | .call { callee := .builtin b, args, argTypes } =>
    let xs ← compOpds P args.toList
    match b, xs, argTypes.toList with
    | .append, [s, x], [t, tx] =>
      match P.underlying t, P.underlying tx with
      | some (.slice e), some d =>
        let k ← szOf P e
        if k = 0 then none else
        let z ← zeroOf P e
        match d with
        | .int _ =>
          let bb ← bytesOfT P e
          if 4096 < bb then none else pure (.appendN k bb (vcells z) s x)
        | .slice _ => pure (.append k (← bytesOfT P e) (vcells z) s x)
        | .string => pure (.append k (← bytesOfT P e) (vcells z) s x)
        | _ => none
      | _, _ => none
    | .len, [x], [t] =>
      match P.underlying t with
      | some (.slice _) => pure (.lenSl x)
      | some .string => pure (.lenStr x)
      | some (.map _ _) => pure (.lenMap x)
      | some (.array n _) => pure (.mv (.const (.int .i64 n)))
      | _ => none
    | .cap, [x], [t] =>
      match P.underlying t with
      | some (.slice _) => pure (.capSl x)
      | _ => none
    | .copy, [d, s], [t, _] =>
      match P.underlying t with
      | some (.slice e) => do
        let k ← szOf P e
        if k = 0 then none else pure (.copy k d s)
      | _ => none
    | .clear, [x], [t] =>
      match P.underlying t with
      | some (.slice e) => do
        let k ← szOf P e
        if k = 0 then none else pure (.clearSl k (vcells (← zeroOf P e)) x)
      | some (.map _ _) => pure (.clearMap x)
      | _ => none
    | .delete, [m, k], [t, _] =>
      match P.underlying t with
      | some (.map kt _) =>
        pure (.delete (← ckAt P kt) m k)
      | _ => none
    | .max, xs, _ => pure (.max xs)
    | .min, xs, _ => pure (.min xs)
    | _, _, _ => none
  | _ => none

/-- How the methods of a type are found. -/
def methsAt (t : TypeId) : List (Nat × String × Recv) :=
  match P.info? t with
  | none => []
  | some i => i.methods.toList.filterMap fun m =>
    match m.path.toList, m.func, P.underlying t with
    | [], some (f, true), some (.pointer _) => some (t, m.name, .self f)
    | [], some (f, false), some (.pointer e) =>
      match aggOf P e, szOf P e with
      | some a, some n => some (t, m.name, .deref a n f)
      | _, _ => none
    | [], some (f, false), some _ => some (t, m.name, .self f)
    | [st], none, _ =>
      if st.deref then
        match P.underlying st.struct with
        | some (.struct fields) =>
          match lget fields.toList st.index with
          | some fd => if szOf P fd.type = some 1 then some (t, m.name, .through fd.offset) else none
          | none => none
        | _ => none
      else none
    | _, _, _ => none
def methsOf : Meths := (List.range P.types.size).flatMap (methsAt P)

def ancOf (ops : Array Oper) (i : Nat) : Nat := (Region.before ops).getD i 0

def compGuard (ops : Array Oper) : Option (Nat × Bool) → Option (Option (Nat × Bool))
  | none => some none
  | some (j, b) =>
    match ops[j]? with
    | some o =>
      match o.dst with
      | some d => some (some (d, b))
      | none => none
    | none => none

def okDst (d : Option Nat) (n : Nat) : Bool :=
  match d with
  | some d => decide (d < n)
  | none => true

def compOps (ops : Array Oper) (draw : Bool) (n : Nat) : List Oper → List Nat → Option (List AOper)
  | [], _ => some []
  | o :: rest, ancs => do
    let g ← compGuard ops o.guard
    let a := (compOp P o).getD .fail
    if okDst o.dst n then
      pure ({ dst := o.dst, guard := g, anc := if draw then ancs.headD 0 else 0, op := a } :: (← compOps ops draw n rest ancs.tail))
    else none

/-- Which slots an operation looks at. -/
def opdReads : Opd → List Nat
  | .tmp t => [t]
  | .const _ => []
def optReads : Option Opd → List Nat
  | some x => opdReads x
  | none => []
def opdsReads : List Opd → List Nat
  | [] => []
  | x :: l => opdReads x ++ opdsReads l
def partsReads : List (Nat × Nat × Opd) → List Nat
  | [] => []
  | (_, _, x) :: l => opdReads x ++ partsReads l
def readsOf : AOp → List Nat
  | .mv x => opdReads x
  | .pick c a b => opdReads c ++ (opdReads a ++ opdReads b)
  | .alloc _ => []
  | .box x => opdReads x
  | .build _ l => partsReads l
  | .buildSlice _ _ _ l => partsReads l
  | .load _ _ x => opdReads x
  | .store _ a x => opdReads a ++ opdReads x
  | .nilCheck x => opdReads x
  | .bin _ x y => opdReads x ++ opdReads y
  | .eqNil _ _ x y => opdReads x ++ opdReads y
  | .eqBool _ x y => opdReads x ++ opdReads y
  | .eqAgg _ _ x y => opdReads x ++ opdReads y
  | .eqIface _ _ x y => opdReads x ++ opdReads y
  | .un _ x => opdReads x
  | .toInt _ x => opdReads x
  | .sameStr x => opdReads x
  | .strToBytes x => opdReads x
  | .bytesToStr x => opdReads x
  | .strToRunes x => opdReads x
  | .runesToStr x => opdReads x
  | .mkIface _ x => opdReads x
  | .mkFunc _ a b => opdsReads a ++ opdsReads b
  | .mkMap => []
  | .mkSlice _ _ _ l c => opdReads l ++ opdReads c
  | .sliceStr x a b => opdReads x ++ (optReads a ++ optReads b)
  | .sliceSl _ x a b c => opdReads x ++ (optReads a ++ (optReads b ++ optReads c))
  | .sliceArr _ _ x a b => opdReads x ++ (optReads a ++ optReads b)
  | .fieldAddr _ x => opdReads x
  | .field _ _ _ x => opdReads x
  | .indexSl _ x i => opdReads x ++ opdReads i
  | .indexArr _ _ x i => opdReads x ++ opdReads i
  | .indexStr x i => opdReads x ++ opdReads i
  | .indexVal _ _ _ x i => opdReads x ++ opdReads i
  | .lookup _ _ _ m k => opdReads m ++ opdReads k
  | .mapSet _ m k v => opdReads m ++ (opdReads k ++ opdReads v)
  | .mapEntry _ _ m k => opdReads m ++ opdReads k
  | .entryStore m s v => opdReads m ++ (opdReads s ++ opdReads v)
  | .rangeStr x => opdReads x
  | .nextStr x => opdReads x
  | .assertT _ _ _ x => opdReads x
  | .extract _ x => opdReads x
  | .call _ l => opdsReads l
  | .callV f l => opdReads f ++ opdsReads l
  | .invoke _ r l => opdReads r ++ opdsReads l
  | .append _ _ _ s x => opdReads s ++ opdReads x
  | .appendN _ _ _ s x => opdReads s ++ opdReads x
  | .lenSl x => opdReads x
  | .lenStr x => opdReads x
  | .lenMap x => opdReads x
  | .capSl x => opdReads x
  | .copy _ d s => opdReads d ++ opdReads s
  | .clearSl _ _ x => opdReads x
  | .clearMap x => opdReads x
  | .delete _ m k => opdReads m ++ opdReads k
  | .max l => opdsReads l
  | .min l => opdsReads l
  | .mapsClone x => opdReads x
  | .fail => []
def slotsOf (o : AOper) : List Nat :=
  match o.guard with
  | some (t, _) => t :: readsOf o.op
  | none => readsOf o.op
def memN (t : Nat) : List Nat → Bool
  | [] => false
  | u :: l => Nat.beq t u || memN t l
def freeOf (d : Option Nat) (o : AOper) : Bool :=
  match d with
  | some d => !(memN d (slotsOf o)) && (match o.dst with | some e => !(Nat.beq d e) | none => true)
  | none => true
def pairOk (a b : AOper) : Bool := freeOf a.dst b && freeOf b.dst a
def laterOk (i : Nat) (o : AOper) : List AOper → Bool
  | [] => true
  | b :: r => (bit b.anc i || pairOk o b) && laterOk i o r
def drawOk : Nat → List AOper → Bool
  | _, [] => true
  | i, o :: r => laterOk i o r && drawOk (i + 1) r

/-- What an operation waits for stands before it in the text. -/
def edgesOk : Nat → List Oper → Bool
  | _, [] => true
  | i, o :: r => (o.after.toList.all fun e => !(Region.binds .any e) || Nat.blt e.on i) && edgesOk (i + 1) r

def comp (n : Nat) : Code → ACode
  | .skip => .skip
  | .region _ ops draw =>
    match compOps P ops draw n ops.toList (Region.before ops).toList with
    | some l => if draw then (if drawOk 0 l && edgesOk 0 ops.toList then .draw l else .none "draw") else .region l
    | none => .none "region"
  | .seq a b => .seq (comp n a) (comp n b)
  | .cond c a b =>
    match compOpd P c with
    | some c => .cond c (comp n a) (comp n b)
    | none => .none "cond"
  | .block id c => .block id (comp n c)
  | .loop c => .loop (comp n c)
  | .exit id => .exit id
  | .ret => .ret
  | _ => .none "code"

def compRes : List ResultVar → Option (List ARes)
  | [] => some []
  | .tmp t :: r => do pure (.tmp t :: (← compRes r))
  | .cell t ty :: r => do pure (.cell t (← aggOf P ty) (← szOf P ty) :: (← compRes r))

def compFn (fn : Func) : Option AFunc := do
  let b ← fn.body
  let r ← compRes P fn.results.toList
  pure { ntmps := fn.ntmps, results := r, body := comp P fn.ntmps b }

end
end Go.Am
