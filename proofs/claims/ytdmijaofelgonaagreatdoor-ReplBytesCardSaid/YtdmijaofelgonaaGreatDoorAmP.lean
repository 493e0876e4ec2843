/-
  THE ABSTRACT MACHINE: runs with variables in them, by rules. Slots are known by a list; what a piece of code comes to is told by a condition on how it ends.
-/
import Derived.Test.YtdmijaofelgonaaGreatDoorAmO
namespace Go.Am

abbrev Env := List (Nat × Value)
def envAt : Env → Nat → Option Value
  | [], _ => none
  | (t, v) :: r, t' => bif Nat.beq t t' then some v else envAt r t'
/-- The slots hold what the list says. -/
def Ag (tm : T Value) (env : Env) : Prop := ∀ t v, envAt env t = some v → tm.get t = some v
def opE (env : Env) : Opd → Option Value
  | .tmp t => envAt env t
  | .const v => some v
def evsE (env : Env) : List Opd → Option (List Value)
  | [] => some []
  | x :: l =>
    match opE env x, evsE env l with
    | some v, some vs => some (v :: vs)
    | _, _ => none
def ext (env : Env) (d : Option Nat) (v : Value) : Env :=
  match d with
  | some d => (d, v) :: env
  | none => env
def wantE (env : Env) : Option (Nat × Bool) → Option Bool
  | none => some true
  | some (t, b) =>
    match envAt env t with
    | some (.bool c) => some (c == b)
    | some _ => some false
    | none => none
theorem opE_ok {tm : T Value} {env : Env} {x : Opd} {v : Value} (h : Ag tm env) (hx : opE env x = some v) : opd tm x = v := by
  cases x with
  | tmp t => simp only [opE] at hx; simp only [opd, h t v hx]
  | const w => simp only [opE, Option.some.injEq] at hx; simp only [opd, hx]
theorem evsE_ok {tm : T Value} {env : Env} (h : Ag tm env) : ∀ {l : List Opd} {vs : List Value}, evsE env l = some vs → evs tm l = vs
  | [], vs, hl => by simp only [evsE, Option.some.injEq] at hl; simp only [evs, hl]
  | x :: l, vs, hl => by
    simp only [evsE] at hl
    split at hl
    · rename_i v ws h1 h2
      simp only [Option.some.injEq] at hl
      simp only [evs, opE_ok h h1, evsE_ok h h2, hl]
    · cases hl
theorem ag_put {tm : T Value} {env : Env} (h : Ag tm env) (d : Option Nat) (v : Value) : Ag (put tm d v) (ext env d v) := by
  cases d with
  | none => exact h
  | some d =>
    intro t w hw
    simp only [ext, envAt] at hw
    cases hb : Nat.beq d t with
    | true =>
      rw [hb, cond_true] at hw
      have e := Nat.eq_of_beq_eq_true hb
      subst e
      simp only [put, T.get_set_same, hw]
    | false =>
      rw [hb, cond_false] at hw
      have e : t ≠ d := fun e => by rw [e, Nat.beq_refl] at hb; cases hb
      simp only [put, T.get_set_ne _ _ e]
      exact h t w hw
theorem wantE_ok {tm : T Value} {env : Env} {g : Option (Nat × Bool)} {b : Bool} (h : Ag tm env) (hg : wantE env g = some b) : wanted tm g = b := by
  cases g with
  | none => simp only [wantE, Option.some.injEq] at hg; simp only [wanted, hg]
  | some p =>
    obtain ⟨t, c⟩ := p
    simp only [wantE] at hg
    split at hg
    · rename_i x hx
      simp only [Option.some.injEq] at hg
      simp only [wanted, h t _ hx, hg]
    · rename_i x hx hv
      simp only [Option.some.injEq] at hg
      simp only [wanted, h t _ hv]
      split
      · rename_i y hy; cases hy; exact absurd rfl (hx _)
      · exact hg
    · cases hg
/-- What is known in one list is known in another. -/
def Sub (a b : Env) : Prop := ∀ t v, envAt a t = some v → envAt b t = some v
theorem sub_nil (b : Env) : Sub [] b := fun t v h => by cases h
theorem sub_cons {a b : Env} {t : Nat} {v : Value} (h : envAt b t = some v) (hs : Sub a b) : Sub ((t, v) :: a) b := by
  intro u w hw
  simp only [envAt] at hw
  cases hb : Nat.beq t u with
  | true => rw [hb, cond_true] at hw; have e := Nat.eq_of_beq_eq_true hb; subst e; rw [h, ← hw]
  | false => rw [hb, cond_false] at hw; exact hs u w hw
theorem sub_refl (a : Env) : Sub a a := fun _ _ h => h
theorem ag_sub {tm : T Value} {a b : Env} (h : Ag tm b) (hs : Sub a b) : Ag tm a := fun t v ht => h t v (hs t v ht)

-- operations
structure Op1 (ms : Meths) (call : CallK) (env : Env) (op : AOp) (s : St) (v : Value) (s' : St) : Prop where
  run : ∀ tm, Ag tm env → runOp ms call tm op s = .ok (v, s')
section ops
variable {ms : Meths} {call : CallK} {env : Env} {s s' : St} {x y c a b z : Opd} {v w u r : Value} {g i n m k len mv j : Nat} {cells : List Value} {bs : ByteArray}
theorem o_mv (hx : opE env x = some v) : Op1 ms call env (.mv x) s v s := .mk fun tm h => by simp only [runOp, aop, opE_ok h hx]
theorem o_sameStr (hx : opE env x = some (.string bs)) : Op1 ms call env (.sameStr x) s (.string bs) s := .mk fun tm h => by simp only [runOp, aop, opE_ok h hx]
theorem o_pick_t (hc : opE env c = some (.bool true)) (hx : opE env a = some v) : Op1 ms call env (.pick c a b) s v s := .mk fun tm h => by simp only [runOp, aop, opE_ok h hc, opE_ok h hx]
theorem o_pick_f (hc : opE env c = some (.bool false)) (hx : opE env b = some v) : Op1 ms call env (.pick c a b) s v s := .mk fun tm h => by simp only [runOp, aop, opE_ok h hc, opE_ok h hx]
theorem o_bin {op : BinOp} (hx : opE env x = some v) (hy : opE env y = some w) (hb : binop op v w = .ok u) : Op1 ms call env (.bin op x y) s u s := .mk fun tm h => by simp only [runOp, aop, opE_ok h hx, opE_ok h hy, hb]
theorem o_eqNil {nk : NK} {neg p q : Bool} (hx : opE env x = some v) (hy : opE env y = some w) (h1 : isNil nk v = some p) (h2 : isNil nk w = some q) (h3 : (p || q) = true) :
    Op1 ms call env (.eqNil nk neg x y) s (.bool ((p && q) != neg)) s := .mk fun tm h => by
  cases p <;> cases q <;> simp_all [runOp, aop, opE_ok h hx, opE_ok h hy]
theorem o_eqBool {neg p q : Bool} (hx : opE env x = some (.bool p)) (hy : opE env y = some (.bool q)) : Op1 ms call env (.eqBool neg x y) s (.bool ((p == q) != neg)) s := .mk fun tm h => by
  simp only [runOp, aop, opE_ok h hx, opE_ok h hy]
theorem o_eqAgg {neg q : Bool} {at_ : List (Nat × CK)} {xs ys : List Value} (hx : opE env x = some (.agg ⟨xs⟩)) (hy : opE env y = some (.agg ⟨ys⟩)) (he : eqAt xs ys at_ = .ok q) :
    Op1 ms call env (.eqAgg neg at_ x y) s (.bool (q != neg)) s := .mk fun tm h => by
  simp only [runOp, aop, opE_ok h hx, opE_ok h hy, he]
theorem o_not {p : Bool} (hx : opE env x = some (.bool p)) : Op1 ms call env (.un .not x) s (.bool (!p)) s := .mk fun tm h => by simp only [runOp, aop, opE_ok h hx]
theorem o_neg {kd : IntKind} {p : Int} (hx : opE env x = some (.int kd p)) : Op1 ms call env (.un .neg x) s (.int kd (kd.wrap (0 - p))) s := .mk fun tm h => by simp only [runOp, aop, opE_ok h hx]
theorem o_toInt {kd kd' : IntKind} {p : Int} (hx : opE env x = some (.int kd' p)) : Op1 ms call env (.toInt kd x) s (.int kd (kd.wrap p)) s := .mk fun tm h => by simp only [runOp, aop, opE_ok h hx]
theorem o_nilCheck {p : Addr} (hx : opE env x = some (.pointer (some p))) : Op1 ms call env (.nilCheck x) s (.pointer (some p)) s := .mk fun tm h => by simp only [runOp, aop, opE_ok h hx]
theorem o_nilFunc {f : Nat} {p q : Array Value} (hx : opE env x = some (.func (.func f) p q)) : Op1 ms call env (.nilCheck x) s (.func (.func f) p q) s := .mk fun tm h => by simp only [runOp, aop, opE_ok h hx]
theorem o_nilIface {t : Nat} (hx : opE env x = some (.iface t v)) : Op1 ms call env (.nilCheck x) s (.iface t v) s := .mk fun tm h => by simp only [runOp, aop, opE_ok h hx]
theorem o_fieldAddr {off : Nat} (hx : opE env x = some (.pointer (some ⟨g, i, some n⟩))) : Op1 ms call env (.fieldAddr off x) s (.pointer (some ⟨g, i + off, some n⟩)) s := .mk fun tm h => by simp only [runOp, aop, opE_ok h hx]
theorem o_field {off : Nat} {cs : List Value} (hx : opE env x = some (.agg ⟨cs⟩)) (hv : lget cs off = some v) : Op1 ms call env (.field false off n x) s v s := .mk fun tm h => by simp only [runOp, aop, opE_ok h hx, cond_false, hv]
theorem o_fieldN {off : Nat} {cs l : List Value} (hx : opE env x = some (.agg ⟨cs⟩)) (hv : (cs.drop off).take n = l) : Op1 ms call env (.field true off n x) s (.agg ⟨l⟩) s := .mk fun tm h => by simp only [runOp, aop, opE_ok h hx, cond_true, hv]
theorem o_extract {cs : List Value} (hx : opE env x = some (.tuple ⟨cs⟩)) (hv : lget cs i = some v) : Op1 ms call env (.extract i x) s v s := .mk fun tm h => by simp only [runOp, aop, opE_ok h hx, hv]
theorem o_lenStr (hx : opE env x = some (.string bs)) : Op1 ms call env (.lenStr x) s (.int .i64 bs.size) s := .mk fun tm h => by simp only [runOp, aop, opE_ok h hx]
theorem o_lenSl {l : Option Addr} (hx : opE env x = some (.slice l n m)) : Op1 ms call env (.lenSl x) s (.int .i64 n) s := .mk fun tm h => by simp only [runOp, aop, opE_ok h hx]
theorem o_mkIface {t : Nat} (hx : opE env x = some v) : Op1 ms call env (.mkIface t x) s (.iface t v) s := .mk fun tm h => by simp only [runOp, aop, opE_ok h hx]
theorem o_mkFunc {fn : Fn} {first cap : List Opd} {l1 l2 : List Value} (h1 : evsE env first = some l1) (h2 : evsE env cap = some l2) : Op1 ms call env (.mkFunc fn first cap) s (.func fn ⟨l1⟩ ⟨l2⟩) s := .mk fun tm h => by
  simp only [runOp, aop, evsE_ok h h1, evsE_ok h h2]
theorem o_indexStr {kd : IntKind} {c : UInt8} (hx : opE env x = some (.string bs)) (hi : opE env y = some (.int kd (Int.ofNat j))) (hc : lget bs.data.toList j = some c) : Op1 ms call env (.indexStr x y) s (.int .u8 c.toNat) s := .mk fun tm h => by
  simp only [runOp, aop, opE_ok h hx, opE_ok h hi, asNat, hc]
theorem o_indexSl {kd : IntKind} {u : Nat} (hx : opE env x = some (.slice (some ⟨g, i, some u⟩) n m)) (hi : opE env y = some (.int kd (Int.ofNat j))) (hj : j < n) (hm : Nat.beq (m / 2) k = true) :
    Op1 ms call env (.indexSl k x y) s (.pointer (some ⟨g, i + j * k, some u⟩)) s := .mk fun tm h => by
  have e : Nat.blt j n = true := Nat.ble_eq_true_of_le hj
  simp only [runOp, aop, opE_ok h hx, opE_ok h hi, asNat, e, hm, Bool.and_true, cond_true]
theorem o_min {o1 o2 : Opd} {kd kd' : IntKind} {p q : Int} (hx : opE env o1 = some (.int kd p)) (hy : opE env o2 = some (.int kd' q)) : Op1 ms call env (.min [o1, o2]) s (.int kd (bif decide (q < p) then q else p)) s := .mk fun tm h => by
  simp only [runOp, aop, evs, opE_ok h hx, opE_ok h hy, foldR, min2]
theorem o_max {o1 o2 : Opd} {kd kd' : IntKind} {p q : Int} (hx : opE env o1 = some (.int kd p)) (hy : opE env o2 = some (.int kd' q)) : Op1 ms call env (.max [o1, o2]) s (.int kd (bif decide (q > p) then q else p)) s := .mk fun tm h => by
  simp only [runOp, aop, evs, opE_ok h hx, opE_ok h hy, foldR, max2]
/-- A part of a text. lo, hi: what bounds come to. -/
def boE (env : Env) (d : Nat) : Option Opd → Option Nat
  | none => some d
  | some o =>
    match opE env o with
    | some (.int _ n) => asNat n
    | _ => none
theorem boE_ok {tm : T Value} {d y n : Nat} {o : Option Opd} (h : Ag tm env) (ho : boE env d o = some n) (hn : n ≤ y) : optBound tm d y o = .ok n := by
  cases o with
  | none => simp only [boE, Option.some.injEq] at ho; simp only [optBound, ho]
  | some o =>
    simp only [boE] at ho
    split at ho
    · rename_i kd q hq
      have e : Nat.ble n y = true := Nat.ble_eq_true_of_le hn
      simp only [optBound, opE_ok h hq, bound, ho, e, cond_true]
    · cases ho
theorem o_sliceStr {lo hi : Option Opd} {l r : Nat} (hx : opE env x = some (.string bs)) (hh : boE env bs.size hi = some r) (hl : boE env 0 lo = some l) (h1 : r ≤ bs.size) (h2 : l ≤ r) :
    Op1 ms call env (.sliceStr x lo hi) s (.string (bs.extract l r)) s := .mk fun tm h => by
  simp only [runOp, aop, opE_ok h hx, boE_ok h hh h1, boE_ok h hl h2]
-- lists said cell by cell
def nfl {α : Type} : List α → Option (List α)
  | [] => some []
  | x :: l =>
    match nfl l with
    | some l' => some (x :: l')
    | none => none
theorem nfl_eq {α : Type} : ∀ (l : List α), nfl l = some l
  | [] => rfl
  | x :: l => by simp only [nfl, nfl_eq l]
theorem nfl_ok {α : Type} {l l' : List α} (h : nfl l = some l') : l = l' := by rw [nfl_eq] at h; exact Option.some.inj h
-- numbers that stay in their range, comparisons that are known
theorem wrap_i64 {z : Int} (h1 : -9223372036854775808 ≤ z) (h2 : z < 9223372036854775808) : IntKind.wrap .i64 z = z := by
  show (if (true && decide (z % 18446744073709551616 ≥ 9223372036854775808)) = true then z % 18446744073709551616 - 18446744073709551616 else z % 18446744073709551616) = z
  simp only [Bool.true_and, decide_eq_true_eq]
  split <;> omega
theorem wrap_u64 {z : Int} (h1 : 0 ≤ z) (h2 : z < 18446744073709551616) : IntKind.wrap .u64 z = z := by
  simp only [IntKind.wrap, IntKind.signed, IntKind.bits]
  simp
  omega
theorem wrap_u64_eq (z : Int) : IntKind.wrap .u64 z = z % 18446744073709551616 := by
  simp only [IntKind.wrap, IntKind.signed, IntKind.bits]
  simp
theorem wrap_u8 {z : Int} (h1 : 0 ≤ z) (h2 : z < 256) : IntKind.wrap .u8 z = z := by
  simp only [IntKind.wrap, IntKind.signed, IntKind.bits]
  simp
  omega
section nums
variable {p q : Int}
theorem o_add (hx : opE env x = some (.int .i64 p)) (hy : opE env y = some (.int .i64 q)) (h1 : -9223372036854775808 ≤ p + q) (h2 : p + q < 9223372036854775808) : Op1 ms call env (.bin .add x y) s (.int .i64 (p + q)) s :=
  o_bin hx hy (by simp [binop, wrap_i64 h1 h2])
theorem o_sub (hx : opE env x = some (.int .i64 p)) (hy : opE env y = some (.int .i64 q)) (h1 : -9223372036854775808 ≤ p - q) (h2 : p - q < 9223372036854775808) : Op1 ms call env (.bin .sub x y) s (.int .i64 (p - q)) s :=
  o_bin hx hy (by simp [binop, wrap_i64 h1 h2])
theorem o_mul (hx : opE env x = some (.int .i64 p)) (hy : opE env y = some (.int .i64 q)) (h1 : -9223372036854775808 ≤ p * q) (h2 : p * q < 9223372036854775808) : Op1 ms call env (.bin .mul x y) s (.int .i64 (p * q)) s :=
  o_bin hx hy (by simp [binop, wrap_i64 h1 h2])
theorem o_add_u (hx : opE env x = some (.int .u64 p)) (hy : opE env y = some (.int .u64 q)) (h1 : 0 ≤ p + q) (h2 : p + q < 18446744073709551616) : Op1 ms call env (.bin .add x y) s (.int .u64 (p + q)) s :=
  o_bin hx hy (by simp [binop, wrap_u64 h1 h2])
theorem o_mul_u (hx : opE env x = some (.int .u64 p)) (hy : opE env y = some (.int .u64 q)) (h1 : 0 ≤ p * q) (h2 : p * q < 18446744073709551616) : Op1 ms call env (.bin .mul x y) s (.int .u64 (p * q)) s :=
  o_bin hx hy (by simp [binop, wrap_u64 h1 h2])
theorem o_sub_u (hx : opE env x = some (.int .u64 p)) (hy : opE env y = some (.int .u64 q)) (h1 : 0 ≤ p - q) (h2 : p - q < 18446744073709551616) : Op1 ms call env (.bin .sub x y) s (.int .u64 (p - q)) s :=
  o_bin hx hy (by simp [binop, wrap_u64 h1 h2])
theorem o_to_i64 {kd : IntKind} (hx : opE env x = some (.int kd p)) (h1 : -9223372036854775808 ≤ p) (h2 : p < 9223372036854775808) : Op1 ms call env (.toInt .i64 x) s (.int .i64 p) s := by
  have := o_toInt (ms := ms) (call := call) (s := s) (kd := .i64) hx
  rwa [wrap_i64 h1 h2] at this
theorem o_to_u64 {kd : IntKind} (hx : opE env x = some (.int kd p)) (h1 : 0 ≤ p) (h2 : p < 18446744073709551616) : Op1 ms call env (.toInt .u64 x) s (.int .u64 p) s := by
  have := o_toInt (ms := ms) (call := call) (s := s) (kd := .u64) hx
  rwa [wrap_u64 h1 h2] at this
theorem o_to_u8 {kd : IntKind} (hx : opE env x = some (.int kd p)) (h1 : 0 ≤ p) (h2 : p < 256) : Op1 ms call env (.toInt .u8 x) s (.int .u8 p) s := by
  have := o_toInt (ms := ms) (call := call) (s := s) (kd := .u8) hx
  rwa [wrap_u8 h1 h2] at this
theorem o_and127 (hx : opE env x = some (.int .u64 p)) (hy : opE env y = some (.int .u64 127)) (h1 : 0 ≤ p) (h2 : p < 18446744073709551616) : Op1 ms call env (.bin .and x y) s (.int .u64 (p % 128)) s :=
  o_bin hx hy (by
    obtain ⟨c, rfl⟩ := Int.eq_ofNat_of_zero_le h1
    have e : (BitVec.ofInt 64 (c : Int) &&& BitVec.ofInt 64 127).toNat = c % 128 := by
      have e1 : (BitVec.ofInt 64 (c : Int)).toNat = c := by
        rw [BitVec.toNat_ofInt]
        omega
      have e2 : (BitVec.ofInt 64 (127 : Int)).toNat = 127 := rfl
      rw [BitVec.toNat_and, e1, e2]
      exact Nat.and_two_pow_sub_one_eq_mod c 7
    show R.ok (Value.int .u64 (IntKind.wrap .u64 ((BitVec.ofInt 64 (c : Int) &&& BitVec.ofInt 64 127).toNat : Int))) = _
    rw [e, wrap_u64 (by omega) (by omega)]
    rfl)
theorem o_to_u8_mod {kd : IntKind} (hx : opE env x = some (.int kd p)) : Op1 ms call env (.toInt .u8 x) s (.int .u8 (p % 256)) s := by
  have := o_toInt (ms := ms) (call := call) (s := s) (kd := .u8) hx
  have e : IntKind.wrap .u8 p = p % 256 := by simp only [IntKind.wrap, IntKind.signed, IntKind.bits]; simp
  rwa [e] at this
/-- A comparison of whole numbers, as a condition. -/
def cmpP : BinOp → Int → Int → Prop
  | .eql, p, q => p = q
  | .neq, p, q => p ≠ q
  | .lss, p, q => p < q
  | .leq, p, q => p ≤ q
  | .gtr, p, q => q < p
  | .geq, p, q => q ≤ p
  | _, _, _ => False
def isCmp : BinOp → Bool
  | .eql => true | .neq => true | .lss => true | .leq => true | .gtr => true | .geq => true
  | _ => false
theorem o_cmp_t {kd : IntKind} {op : BinOp} (hx : opE env x = some (.int kd p)) (hy : opE env y = some (.int kd q)) (hc : isCmp op = true) (h : cmpP op p q) : Op1 ms call env (.bin op x y) s (.bool true) s :=
  o_bin hx hy (by cases op <;> simp_all [isCmp, cmpP, binop, cmpInt])
theorem o_cmp_f {kd : IntKind} {op : BinOp} (hx : opE env x = some (.int kd p)) (hy : opE env y = some (.int kd q)) (hc : isCmp op = true) (h : ¬ cmpP op p q) : Op1 ms call env (.bin op x y) s (.bool false) s :=
  o_bin hx hy (by cases op <;> simp_all [isCmp, cmpP, binop, cmpInt])
end nums
-- the heap
theorem o_load (hx : opE env x = some (.pointer (some ⟨g, i, some n⟩))) (h : s.heap.get g = some (.row cells len mv)) (hm : mv ≤ n) (hi : i < n) (hv : lget cells i = some v) :
    Op1 ms call env (.load false m x) s v s := .mk fun tm ha => by
  have e1 : Nat.ble mv n = true := Nat.ble_eq_true_of_le hm
  have e2 : Nat.blt i n = true := Nat.ble_eq_true_of_le hi
  simp only [runOp, aop, opE_ok ha hx, cond_false, readOne, h, e1, e2, Bool.and_self, cond_true, hv]
theorem o_loadN {l : List Value} (hx : opE env x = some (.pointer (some ⟨g, i, some n⟩))) (h : s.heap.get g = some (.row cells len mv)) (hm : mv ≤ n) (hi : i + m ≤ n) (hv : (cells.drop i).take m = l) :
    Op1 ms call env (.load true m x) s (.agg ⟨l⟩) s := .mk fun tm ha => by
  have e1 : Nat.ble mv n = true := Nat.ble_eq_true_of_le hm
  have e2 : Nat.ble (i + m) n = true := Nat.ble_eq_true_of_le hi
  simp only [runOp, aop, opE_ok ha hx, cond_true, readCells, h, e1, e2, Bool.and_self, hv]
theorem o_loadS (hx : opE env x = some (.pointer (some ⟨g, i, some n⟩))) (h : DD.Sees (s.heap.get g) n cells) (hi : i < n) (hv : lget cells i = some v) :
    Op1 ms call env (.load false m x) s v s := by
  rcases h with ⟨len, mv, h, hm⟩ | ⟨h, hm⟩
  · exact o_load hx h hm hi hv
  · refine .mk fun tm ha => ?_
    have e1 : Nat.ble n cells.length = true := Nat.ble_eq_true_of_le hm
    have e2 : Nat.blt i n = true := Nat.ble_eq_true_of_le hi
    simp only [runOp, aop, opE_ok ha hx, cond_false, readOne, h, e1, e2, Bool.and_self, cond_true, hv]
theorem o_loadNS {l : List Value} (hx : opE env x = some (.pointer (some ⟨g, i, some n⟩))) (h : DD.Sees (s.heap.get g) n cells) (hi : i + m ≤ n) (hv : (cells.drop i).take m = l) :
    Op1 ms call env (.load true m x) s (.agg ⟨l⟩) s := by
  rcases h with ⟨len, mv, h, hm⟩ | ⟨h, hm⟩
  · exact o_loadN hx h hm hi hv
  · refine .mk fun tm ha => ?_
    have e1 : Nat.ble n cells.length = true := Nat.ble_eq_true_of_le hm
    have e2 : Nat.ble (i + m) n = true := Nat.ble_eq_true_of_le hi
    simp only [runOp, aop, opE_ok ha hx, cond_true, readCells, h, e1, e2, Bool.and_self, hv]
theorem o_store {vs : List Value} (hx : opE env x = some (.pointer (some ⟨g, i, some n⟩))) (hy : opE env y = some v) (hvs : vcells v = vs) (hl : (Nat.beq vs.length m && vs.all one) = true)
    (h : s.heap.get g = some (.row cells n mv)) (hm : mv ≤ n) (hi : i + vs.length ≤ n) :
    Op1 ms call env (.store m x y) s undef ⟨s.heap.set g (.row (lput cells i vs) n n), s.next, Nat.min s.low g⟩ := .mk fun tm ha => by
  have e1 : Nat.ble mv n = true := Nat.ble_eq_true_of_le hm
  have e2 : Nat.ble (i + vs.length) n = true := Nat.ble_eq_true_of_le hi
  simp only [runOp, aop, opE_ok ha hx, opE_ok ha hy, hvs, hl, cond_true, writeCells, h, e1, Nat.beq_refl, e2, Bool.and_self]
theorem o_alloc {zs : List Value} (hn : zs.length = n) : Op1 ms call env (.alloc zs) s (.pointer (some ⟨s.next, 0, some n⟩)) ⟨s.heap.set s.next (.row zs n 0), s.next + 1, s.low⟩ := .mk fun tm ha => by subst hn; rfl
theorem o_box {vs : List Value} (hx : opE env x = some v) (hvs : nfl (vcells v) = some vs) (hl : vs.all one = true) (hn : vs.length = n) : Op1 ms call env (.box x) s (.pointer (some ⟨s.next, 0, some n⟩)) ⟨s.heap.set s.next (.row vs n 0), s.next + 1, s.low⟩ := .mk fun tm ha => by
  simp only [runOp, aop, opE_ok ha hx, nfl_ok hvs, hl, cond_true, newRow, hn, ptrTo]
theorem o_strToBytes (hx : opE env x = some (.string bs)) : Op1 ms call env (.strToBytes x) s (.slice (some ⟨s.next, 0, some bs.size⟩) bs.size 2) ⟨s.heap.set s.next (.row (u8s bs) bs.size 0), s.next + 1, s.low⟩ := .mk fun tm ha => by
  simp only [runOp, aop, opE_ok ha hx, newRow]
theorem o_bytesToStr {l : List Value} {bl : List UInt8} (hx : opE env x = some (.slice (some ⟨g, i, some n⟩) m 2)) (hm0 : m ≠ 0) (h : s.heap.get g = some (.row cells len mv)) (hm : mv ≤ n) (hi : i + m ≤ n) (hl : (cells.drop i).take m = l) (hb : bytesOf l = some bl) :
    Op1 ms call env (.bytesToStr x) s (.string ⟨⟨bl⟩⟩) s := .mk fun tm ha => by
  have e1 : Nat.ble mv n = true := Nat.ble_eq_true_of_le hm
  have e2 : Nat.ble (i + m) n = true := Nat.ble_eq_true_of_le hi
  have e3 : Nat.beq m 0 = false := by cases m with | zero => exact absurd rfl hm0 | succ m => rfl
  simp only [runOp, aop, opE_ok ha hx, e3, readCells, h, e1, e2, Bool.and_self, cond_true, cond_false, hl, hb, show Nat.beq (2 / 2) 1 = true from rfl]
theorem o_bytesToStr_none (hx : opE env x = some (.slice none n m)) : Op1 ms call env (.bytesToStr x) s (.string .empty) s := .mk fun tm ha => by
  simp only [runOp, aop, opE_ok ha hx]
def partsE (env : Env) (n : Nat) : List (Nat × Nat × Opd) → Option (List (Nat × List Value))
  | [] => some []
  | (off, size, x) :: rest =>
    match opE env x with
    | none => none
    | some v =>
      bif Nat.beq (vcells v).length size && Nat.ble (off + size) n && (vcells v).all one then
        match partsE env n rest with
        | some l => some ((off, vcells v) :: l)
        | none => none
      else none
theorem partsE_ok {n : Nat} {tm : T Value} (h : Ag tm env) : ∀ {l : List (Nat × Nat × Opd)} {r : List (Nat × List Value)}, partsE env n l = some r → partsOk n tm l = .ok r
  | [], r, hl => by simp only [partsE, Option.some.injEq] at hl; simp only [partsOk, hl]
  | (off, size, x) :: rest, r, hl => by
    simp only [partsE] at hl
    split at hl
    · cases hl
    · rename_i v hv
      cases hb : (Nat.beq (vcells v).length size && Nat.ble (off + size) n && (vcells v).all one) with
      | false => rw [hb] at hl; cases hl
      | true =>
        rw [hb, cond_true] at hl
        split at hl
        · rename_i l' hl'
          simp only [Option.some.injEq] at hl
          simp only [partsOk, opE_ok h hv, hb, cond_true, partsE_ok h hl', hl]
        · cases hl
theorem o_build {zs cs : List Value} {parts : List (Nat × Nat × Opd)} {l : List (Nat × List Value)} (hp : partsE env zs.length parts = some l) (hf : nfl (fillParts zs l) = some cs) : Op1 ms call env (.build zs parts) s (.agg ⟨cs⟩) s := .mk fun tm h => by
  simp only [runOp, aop, partsE_ok h hp, nfl_ok hf]
theorem o_buildSlice {zs cs : List Value} {parts : List (Nat × Nat × Opd)} {l : List (Nat × List Value)} {k q : Nat} (hp : partsE env zs.length parts = some l) (hf : nfl (fillParts zs l) = some cs) (hn : zs.length = n) :
    Op1 ms call env (.buildSlice k q zs parts) s (.slice (some ⟨s.next, 0, some n⟩) q (2 * k + 1)) ⟨s.heap.set s.next (.row cs n 0), s.next + 1, s.low⟩ := .mk fun tm h => by
  subst hn
  simp only [runOp, aop, partsE_ok h hp, nfl_ok hf, newRow]
/-- A store into a row whose cells are told. -/
theorem o_storeN {vs cells' : List Value} (hx : opE env x = some (.pointer (some ⟨g, i, some n⟩))) (hy : opE env y = some v) (hvs : vcells v = vs) (hl : (Nat.beq vs.length m && vs.all one) = true)
    (h : s.heap.get g = some (.row cells n mv)) (hm : mv ≤ n) (hi : i + vs.length ≤ n) (hc : nfl (lput cells i vs) = some cells') :
    Op1 ms call env (.store m x y) s undef ⟨s.heap.set g (.row cells' n n), s.next, Nat.min s.low g⟩ := by
  rw [← nfl_ok hc]
  exact o_store hx hy hvs hl h hm hi
-- appending
theorem src_row {u : Nat} {new : List Value} (hsrc : s.heap.get g = some (.row cells len mv)) (h0 : n ≠ 0) (hk : Nat.beq (m / 2) k = true) (hm : mv ≤ u) (hi : i + n * k ≤ u) (hn : (cells.drop i).take (n * k) = new) :
    srcCells k s (.slice (some ⟨g, i, some u⟩) n m) = .ok (n, new) := by
  have e0 : Nat.beq n 0 = false := by cases n with | zero => exact absurd rfl h0 | succ n => rfl
  have e1 : Nat.ble mv u = true := Nat.ble_eq_true_of_le hm
  have e2 : Nat.ble (i + n * k) u = true := Nat.ble_eq_true_of_le hi
  simp only [srcCells, e0, cond_false, hk, cond_true, readCells, hsrc, e1, e2, Bool.and_self, hn]
theorem o_append_nil {zs new : List Value} {bytes : Nat} (hx : opE env x = some (.slice none 0 0)) (hy : opE env y = some v) (hsrc : srcCells k s v = .ok (m, new)) (h0 : m ≠ 0) (hm : m < 4294967296) (hb : Nat.ble bytes 4096 = true) :
    Op1 ms call env (.append k bytes zs x y) s (.slice (some ⟨s.next, 0, some (m * k)⟩) m (2 * k)) ⟨s.heap.set s.next (.row new (m * k) 0), s.next + 1, s.low⟩ := .mk fun tm ha => by
  have e0 : Nat.beq m 0 = false := by cases m with | zero => exact absurd rfl h0 | succ n => rfl
  have e1 : Nat.blt m mostElems = true := Nat.ble_eq_true_of_le hm
  simp only [runOp, aop, opE_ok ha hx, opE_ok ha hy, hsrc, appendCells, e0, cond_false, e1, hb, Bool.and_self, cond_true, newRow]
theorem o_append_end {zs new : List Value} {bytes l : Nat} (hx : opE env x = some (.slice (some ⟨g, 0, some l⟩) n (2 * k))) (hy : opE env y = some v) (hsrc : srcCells k s v = .ok (m, new)) (h0 : m ≠ 0) (hm : n + m < 4294967296) (hb : Nat.ble bytes 4096 = true)
    (h : s.heap.get g = some (.row cells l mv)) (hmv : mv ≤ l) (hl : n * k = l) :
    Op1 ms call env (.append k bytes zs x y) s (.slice (some ⟨g, 0, some ((n + m) * k)⟩) (n + m) (2 * k)) ⟨s.heap.set g (.row (cells ++ new) ((n + m) * k) mv), s.next, Nat.min s.low g⟩ := .mk fun tm ha => by
  have e0 : Nat.beq m 0 = false := by cases m with | zero => exact absurd rfl h0 | succ n => rfl
  have e1 : Nat.blt (n + m) mostElems = true := Nat.ble_eq_true_of_le hm
  have e2 : Nat.beq (2 * k / 2) k = true := by rw [Nat.mul_div_cancel_left k (by decide)]; exact Nat.beq_refl _
  have e3 : Nat.beq (2 * k % 2) 1 = false := by rw [Nat.mul_mod_right]; rfl
  have e4 : Nat.ble mv l = true := Nat.ble_eq_true_of_le hmv
  have e5 : Nat.beq (n * k) l = true := by rw [hl]; exact Nat.beq_refl _
  simp only [runOp, aop, opE_ok ha hx, opE_ok ha hy, hsrc, appendCells, e0, cond_false, e1, hb, Bool.and_self, Bool.not_true, e2, h, e4, e3, Nat.beq_refl, cond_true, e5]
theorem o_call {f : Nat} {args : List Opd} {l : List Value} (ha : evsE env args = some l) (hc : call f l s = .ok (v, s')) : Op1 ms call env (.call f args) s v s' := .mk fun tm h => by
  simp only [runOp, aop, evsE_ok h ha, hc]
theorem o_callV {f : Nat} {fo : Opd} {first cap : List Value} {args : List Opd} {l : List Value} (hf : opE env fo = some (.func (.func f) ⟨first⟩ ⟨cap⟩)) (ha : evsE env args = some l) (hc : call f (first ++ l ++ cap) s = .ok (v, s')) :
    Op1 ms call env (.callV fo args) s v s' := .mk fun tm h => by
  simp only [runOp, aop, opE_ok h hf, evsE_ok h ha, hc]
end ops

-- a region in the text's order
structure RW (ms : Meths) (call : CallK) (ops : List AOper) (env : Env) (s : St) (Q : Env → St → Prop) : Prop where
  run : ∀ tm, Ag tm env → ∃ tm' s' env', runOps ms call ops tm s = .ok (tm', s') ∧ Ag tm' env' ∧ Q env' s'
section reg
variable {ms : Meths} {call : CallK} {env : Env} {s s' : St} {d : Nat} {gd : Option (Nat × Bool)} {anc : Nat} {op : AOp} {rest : List AOper} {v v' : Value} {Q : Env → St → Prop}
theorem r_nil (h : Q env s) : RW ms call [] env s Q := .mk fun tm ha => ⟨tm, s, env, rfl, ha, h⟩
theorem r_op (hw : wantE env gd = some true) (ho : Op1 ms call env op s v s') (h : RW ms call rest ((d, v) :: env) s' Q) : RW ms call (⟨some d, gd, anc, op⟩ :: rest) env s Q := .mk fun tm ha => by
  obtain ⟨tm', s1, env', h1, h2⟩ := h.run (put tm (some d) v) (ag_put ha (some d) v)
  exact ⟨tm', s1, env', by simp only [runOps, wantE_ok ha hw, cond_true, ho.run tm ha, h1], h2⟩
theorem r_opn (hw : wantE env gd = some true) (ho : Op1 ms call env op s v s') (h : RW ms call rest env s' Q) : RW ms call (⟨none, gd, anc, op⟩ :: rest) env s Q := .mk fun tm ha => by
  obtain ⟨tm', s1, env', h1, h2⟩ := h.run tm ha
  exact ⟨tm', s1, env', by simp only [runOps, wantE_ok ha hw, cond_true, ho.run tm ha, put, h1], h2⟩
theorem r_skipn (hw : wantE env gd = some false) (h : RW ms call rest env s Q) : RW ms call (⟨none, gd, anc, op⟩ :: rest) env s Q := .mk fun tm ha => by
  obtain ⟨tm', s1, env', h1, h2⟩ := h.run tm ha
  exact ⟨tm', s1, env', by simp only [runOps, wantE_ok ha hw, cond_false, put, h1], h2⟩
/-- The value said in other words. -/
theorem r_as (v' : Value) (hw : wantE env gd = some true) (ho : Op1 ms call env op s v s') (hv : v = v') (h : RW ms call rest ((d, v') :: env) s' Q) : RW ms call (⟨some d, gd, anc, op⟩ :: rest) env s Q :=
  r_op hw ho (hv ▸ h)
theorem r_skip (hw : wantE env gd = some false) (h : RW ms call rest ((d, undef) :: env) s Q) : RW ms call (⟨some d, gd, anc, op⟩ :: rest) env s Q := .mk fun tm ha => by
  obtain ⟨tm', s1, env', h1, h2⟩ := h.run (put tm (some d) undef) (ag_put ha (some d) undef)
  exact ⟨tm', s1, env', by simp only [runOps, wantE_ok ha hw, cond_false, h1], h2⟩
theorem r_call {f : Nat} {args : List Opd} {l : List Value} {P : Value → St → Prop} (hw : wantE env gd = some true) (ha : evsE env args = some l) (hc : ∃ v s', call f l s = .ok (v, s') ∧ P v s')
    (h : ∀ v s', P v s' → RW ms call rest ((d, v) :: env) s' Q) : RW ms call (⟨some d, gd, anc, .call f args⟩ :: rest) env s Q := by
  obtain ⟨v, s', h1, h2⟩ := hc
  exact r_op hw (o_call ha h1) (h v s' h2)
theorem r_callV {f : Nat} {fo : Opd} {first cap : List Value} {args : List Opd} {l : List Value} {P : Value → St → Prop} (hw : wantE env gd = some true) (hf : opE env fo = some (.func (.func f) ⟨first⟩ ⟨cap⟩)) (ha : evsE env args = some l)
    (hc : ∃ v s', call f (first ++ l ++ cap) s = .ok (v, s') ∧ P v s') (h : ∀ v s', P v s' → RW ms call rest ((d, v) :: env) s' Q) : RW ms call (⟨some d, gd, anc, .callV fo args⟩ :: rest) env s Q := by
  obtain ⟨v, s', h1, h2⟩ := hc
  exact r_op hw (o_callV hf ha h1) (h v s' h2)
end reg

-- a region whose order is open
structure DW (ms : Meths) (call : CallK) (i : Nat) (ops : List AOper) (ds : List (Nat × Done)) (qs : Made) (env : Env) (s : St) (Q : Env → St → Prop) : Prop where
  run : ∀ tm, Ag tm env → ∃ tm' s' env', runDraw ms call i ops ds qs tm s = .ok (tm', s') ∧ Ag tm' env' ∧ Q env' s'
section draw
variable {ms : Meths} {call : CallK} {env : Env} {s s' : St} {d : Nat} {gd : Option (Nat × Bool)} {anc i : Nat} {op : AOp} {rest : List AOper} {v v' : Value} {Q : Env → St → Prop} {ds : List (Nat × Done)} {qs : Made}
theorem d_nil (h : Q env s) : DW ms call i [] ds qs env s Q := .mk fun tm ha => ⟨tm, s, env, by simp only [runDraw], ha, h⟩
theorem dw_skip (hw : wantE env gd = some false) (h : DW ms call (i + 1) rest ds qs ((d, undef) :: env) s Q) : DW ms call i (⟨some d, gd, anc, op⟩ :: rest) ds qs env s Q := .mk fun tm ha => by
  obtain ⟨tm', s1, env', h1, h2⟩ := h.run (put tm (some d) undef) (ag_put ha (some d) undef)
  exact ⟨tm', s1, env', by simp only [runDraw, wantE_ok ha hw, cond_false, h1], h2⟩
theorem dw_pure (hk : op.kind = .pure) (hw : wantE env gd = some true) (ho : Op1 ms call env op s v s) (h : DW ms call (i + 1) rest ds qs ((d, v) :: env) s Q) : DW ms call i (⟨some d, gd, anc, op⟩ :: rest) ds qs env s Q := .mk fun tm ha => by
  obtain ⟨tm', s1, env', h1, h2⟩ := h.run (put tm (some d) v) (ag_put ha (some d) v)
  exact ⟨tm', s1, env', by simp only [runDraw, wantE_ok ha hw, cond_true, hk, ho.run tm ha, h1], h2⟩
theorem dw_as (v' : Value) (hk : op.kind = .pure) (hw : wantE env gd = some true) (ho : Op1 ms call env op s v s) (hv : v = v') (h : DW ms call (i + 1) rest ds qs ((d, v') :: env) s Q) : DW ms call i (⟨some d, gd, anc, op⟩ :: rest) ds qs env s Q :=
  dw_pure hk hw ho (hv ▸ h)
theorem dw_make (hk : op.kind = .make) (hw : wantE env gd = some true) (ho : Op1 ms call env op s v s') (hn : s'.next = s.next + 1) (h : DW ms call (i + 1) rest ds ((i, s.next, 1) :: qs) ((d, v) :: env) s' Q) :
    DW ms call i (⟨some d, gd, anc, op⟩ :: rest) ds qs env s Q := .mk fun tm ha => by
  obtain ⟨tm', s1, env', h1, h2⟩ := h.run (put tm (some d) v) (ag_put ha (some d) v)
  have e : madeBy i s.next s'.next qs = (i, s.next, 1) :: qs := by
    have : Nat.beq s.next (s.next + 1) = false := by
      cases hb : Nat.beq s.next (s.next + 1) with
      | false => rfl
      | true => exact absurd (Nat.eq_of_beq_eq_true hb) (by omega)
    simp only [madeBy, hn, this, cond_false]
    rw [show s.next + 1 - s.next = 1 by omega]
  exact ⟨tm', s1, env', by simp only [runDraw, wantE_ok ha hw, cond_true, hk, ho.run tm ha, e, h1], h2⟩
theorem dw_load {x : Opd} {agg : Bool} {n g j u : Nat} (hw : wantE env gd = some true) (ho : Op1 ms call env (.load agg n x) s v s) (hx : opE env x = some (.pointer (some ⟨g, j, some u⟩)))
    (hb : (allApart anc (.read g j u (spanOf agg n)) ds && known anc g qs) = true) (h : DW ms call (i + 1) rest ((i, .read g j u (spanOf agg n)) :: ds) qs ((d, v) :: env) s Q) :
    DW ms call i (⟨some d, gd, anc, .load agg n x⟩ :: rest) ds qs env s Q := .mk fun tm ha => by
  obtain ⟨tm', s1, env', h1, h2⟩ := h.run (put tm (some d) v) (ag_put ha (some d) v)
  have ht : target tm x = some (g, j, u) := by simp only [target, opE_ok ha hx]
  exact ⟨tm', s1, env', by simp only [runDraw, wantE_ok ha hw, cond_true, AOp.kind, ht, hb, ho.run tm ha, h1], h2⟩
theorem dw_quiet (hk : op.kind = .other) (hw : wantE env gd = some true) (ha : allAhead anc qs = true) (ho : Op1 ms call env op ⟨s.heap, s.next, s.next⟩ v s') (hl : s.next ≤ s'.low) (hd : allApart anc .quiet ds = true)
    (h : DW ms call (i + 1) rest ((i, .quiet) :: ds) (madeBy i s.next s'.next qs) ((d, v) :: env) ⟨s'.heap, s'.next, s.low⟩ Q) :
    DW ms call i (⟨some d, gd, anc, op⟩ :: rest) ds qs env s Q := .mk fun tm hg => by
  obtain ⟨tm', s1, env', h1, h2⟩ := h.run (put tm (some d) v) (ag_put hg (some d) v)
  have e1 : Nat.ble s.next s'.low = true := Nat.ble_eq_true_of_le hl
  exact ⟨tm', s1, env', by simp only [runDraw, wantE_ok hg hw, cond_true, hk, ha, ho.run tm hg, e1, hd, h1], h2⟩
/-- An operation that may have changed something: nothing that it is not ordered with came ahead. -/
theorem dw_effect (hk : op.kind = .other) (hw : wantE env gd = some true) (ha : allAhead anc qs = true) (ho : Op1 ms call env op ⟨s.heap, s.next, s.next⟩ v s') (hd : allApart anc .effect ds = true)
    (hq : allApart anc .quiet ds = true)
    (h : ∀ x : Done, (x = .quiet ∨ x = .effect) → DW ms call (i + 1) rest ((i, x) :: ds) (madeBy i s.next s'.next qs) ((d, v) :: env) ⟨s'.heap, s'.next, Nat.min s.low s'.low⟩ Q)
    (hmin : s.next ≤ s'.low → s.low ≤ s.next) :
    DW ms call i (⟨some d, gd, anc, op⟩ :: rest) ds qs env s Q := .mk fun tm hg => by
  cases e1 : Nat.ble s.next s'.low with
  | true =>
    have hle := Nat.le_of_ble_eq_true e1
    obtain ⟨tm', s1, env', h1, h2⟩ := (h .quiet (.inl rfl)).run (put tm (some d) v) (ag_put hg (some d) v)
    have e : Nat.min s.low s'.low = s.low := Nat.min_eq_left (Nat.le_trans (hmin hle) hle)
    rw [e] at h1
    exact ⟨tm', s1, env', by simp only [runDraw, wantE_ok hg hw, cond_true, hk, ha, ho.run tm hg, e1, hq, h1], h2⟩
  | false =>
    obtain ⟨tm', s1, env', h1, h2⟩ := (h .effect (.inr rfl)).run (put tm (some d) v) (ag_put hg (some d) v)
    exact ⟨tm', s1, env', by simp only [runDraw, wantE_ok hg hw, cond_true, cond_false, hk, ha, ho.run tm hg, e1, hd, h1], h2⟩
theorem madeBy_same (i n : Nat) (qs : Made) : madeBy i n n qs = qs := by simp only [madeBy, Nat.beq_refl, cond_true]
/-- A call that leaves everything as it is. -/
theorem dw_still {f : Nat} {args : List Opd} {l : List Value} {P : Value → Prop} (hw : wantE env gd = some true) (hx : evsE env args = some l) (ha : allAhead anc qs = true) (hd : allApart anc .quiet ds = true)
    (hc : ∃ v, call f l ⟨s.heap, s.next, s.next⟩ = .ok (v, ⟨s.heap, s.next, s.next⟩) ∧ P v) (h : ∀ v, P v → DW ms call (i + 1) rest ((i, .quiet) :: ds) qs ((d, v) :: env) s Q) :
    DW ms call i (⟨some d, gd, anc, .call f args⟩ :: rest) ds qs env s Q := by
  obtain ⟨v, h1, h2⟩ := hc
  refine dw_quiet rfl hw ha (o_call hx h1) (Nat.le_refl _) hd ?_
  rw [madeBy_same]
  exact h v h2
/-- A call that makes objects and changes none. -/
theorem dw_quietcall {f : Nat} {args : List Opd} {l : List Value} {P : Value → St → Prop} (hw : wantE env gd = some true) (hx : evsE env args = some l) (ha : allAhead anc qs = true) (hd : allApart anc .quiet ds = true)
    (hc : ∃ v s', call f l ⟨s.heap, s.next, s.next⟩ = .ok (v, s') ∧ P v s' ∧ s.next ≤ s'.low)
    (h : ∀ v s' qs', P v s' → qs' = madeBy i s.next s'.next qs → DW ms call (i + 1) rest ((i, .quiet) :: ds) qs' ((d, v) :: env) ⟨s'.heap, s'.next, s.low⟩ Q) :
    DW ms call i (⟨some d, gd, anc, .call f args⟩ :: rest) ds qs env s Q := by
  obtain ⟨v, s', h1, h2, h3⟩ := hc
  exact dw_quiet rfl hw ha (o_call hx h1) h3 hd (h v s' _ h2 rfl)
theorem known_made {g a b : Nat} (hg : g < a) (hk : known anc g qs = true) : known anc g (madeBy i a b qs) = true := by
  unfold madeBy
  cases Nat.beq a b with
  | true => exact hk
  | false =>
    have e : Nat.blt g a = true := Nat.ble_eq_true_of_le hg
    simp only [cond_false, known, e, Bool.or_true, Bool.true_or, hk, Bool.and_self]
theorem ahead_made {a b : Nat} (hg : bit anc i = true) (hk : allAhead anc qs = true) : allAhead anc (madeBy i a b qs) = true := by
  unfold madeBy
  cases Nat.beq a b with
  | true => exact hk
  | false => simp only [cond_false, allAhead, hg, hk, Bool.and_self]
end draw

-- code
structure CW (ms : Meths) (call : CallK) (k : Nat) (c : ACode) (env : Env) (s : St) (Q : AExit → Env → St → Prop) : Prop where
  run : ∀ tm, Ag tm env → ∃ e tm' s' env', exec ms call k c tm s = .ok (e, tm', s') ∧ Ag tm' env' ∧ Q e env' s'
structure SeqQ (F : Env → St → Prop) (Q : AExit → Env → St → Prop) (e : AExit) (env : Env) (s : St) : Prop where
  n : e = .normal → F env s
  x : ∀ id, e = .exit id → Q (.exit id) env s
  r : e = .ret → Q .ret env s
structure BlockQ (id : Nat) (Q : AExit → Env → St → Prop) (e : AExit) (env : Env) (s : St) : Prop where
  n : e = .normal → Q .normal env s
  x : ∀ id', e = .exit id' → (Nat.beq id id' = true ∧ Q .normal env s) ∨ (Nat.beq id id' = false ∧ Q (.exit id') env s)
  r : e = .ret → Q .ret env s
structure LoopQ {β : Type} (lit : β → Env) (P : β → St → Prop) (m : β → Nat) (Q : AExit → Env → St → Prop) (x : β) (e : AExit) (env : Env) (s : St) : Prop where
  n : e = .normal → ∃ y, m y < m x ∧ Sub (lit y) env ∧ P y s
  x : ∀ id, e = .exit id → Q (.exit id) env s
  r : e = .ret → Q .ret env s
section code
variable {ms : Meths} {call : CallK} {k : Nat} {env env0 : Env} {s : St} {a b : ACode} {Q Q' : AExit → Env → St → Prop} {c : Opd} {id : Nat} {ops : List AOper} {F : Env → St → Prop}
theorem c_skip (h : Q .normal env s) : CW ms call k .skip env s Q := .mk fun tm ha => ⟨.normal, tm, s, env, rfl, ha, h⟩
theorem c_ret (h : Q .ret env s) : CW ms call k .ret env s Q := .mk fun tm ha => ⟨.ret, tm, s, env, rfl, ha, h⟩
theorem c_exit (h : Q (.exit id) env s) : CW ms call k (.exit id) env s Q := .mk fun tm ha => ⟨.exit id, tm, s, env, rfl, ha, h⟩
theorem c_region (h : RW ms call ops env s (Q .normal)) : CW ms call k (.region ops) env s Q := .mk fun tm ha => by
  obtain ⟨tm', s', env', h1, h2, h3⟩ := h.run tm ha
  exact ⟨.normal, tm', s', env', by simp only [exec, h1], h2, h3⟩
theorem c_draw (h : DW ms call 0 ops [] [] env s (Q .normal)) : CW ms call k (.draw ops) env s Q := .mk fun tm ha => by
  obtain ⟨tm', s', env', h1, h2, h3⟩ := h.run tm ha
  exact ⟨.normal, tm', s', env', by simp only [exec, h1], h2, h3⟩
theorem c_seq (h : CW ms call k a env s (SeqQ (fun env s => CW ms call k b env s Q) Q)) : CW ms call k (.seq a b) env s Q := .mk fun tm ha => by
  obtain ⟨e, tm', s', env', h1, h2, h3⟩ := h.run tm ha
  cases e with
  | normal =>
    obtain ⟨e, tm2, s2, env2, g1, g2, g3⟩ := (h3.n rfl).run tm' h2
    exact ⟨e, tm2, s2, env2, by simp only [exec, h1, g1], g2, g3⟩
  | exit id => exact ⟨.exit id, tm', s', env', by simp only [exec, h1], h2, h3.x id rfl⟩
  | ret => exact ⟨.ret, tm', s', env', by simp only [exec, h1], h2, h3.r rfl⟩
theorem c_true (hc : opE env c = some (.bool true)) (h : CW ms call k a env s Q) : CW ms call k (.cond c a b) env s Q := .mk fun tm ha => by
  obtain ⟨e, tm', s', env', h1, h2⟩ := h.run tm ha
  exact ⟨e, tm', s', env', by simp only [exec, opE_ok ha hc, h1], h2⟩
theorem c_false (hc : opE env c = some (.bool false)) (h : CW ms call k b env s Q) : CW ms call k (.cond c a b) env s Q := .mk fun tm ha => by
  obtain ⟨e, tm', s', env', h1, h2⟩ := h.run tm ha
  exact ⟨e, tm', s', env', by simp only [exec, opE_ok ha hc, h1], h2⟩
theorem c_if {p : Bool} (hc : opE env c = some (.bool p)) (ht : p = true → CW ms call k a env s Q) (hf : p = false → CW ms call k b env s Q) : CW ms call k (.cond c a b) env s Q := by
  cases p with
  | true => exact c_true hc (ht rfl)
  | false => exact c_false hc (hf rfl)
theorem c_block (h : CW ms call k a env s (BlockQ id Q)) : CW ms call k (.block id a) env s Q := .mk fun tm ha => by
  obtain ⟨e, tm', s', env', h1, h2, h3⟩ := h.run tm ha
  cases e with
  | normal => exact ⟨.normal, tm', s', env', by simp only [exec, h1], h2, h3.n rfl⟩
  | ret => exact ⟨.ret, tm', s', env', by simp only [exec, h1], h2, h3.r rfl⟩
  | exit id' =>
    rcases h3.x id' rfl with ⟨hb, h3⟩ | ⟨hb, h3⟩
    · exact ⟨.normal, tm', s', env', by simp only [exec, h1, hb, cond_true], h2, h3⟩
    · exact ⟨.exit id', tm', s', env', by simp only [exec, h1, hb, cond_false], h2, h3⟩
theorem c_weak (hs : Sub env0 env) (h : CW ms call k a env0 s Q) : CW ms call k a env s Q := .mk fun tm ha => h.run tm (ag_sub ha hs)
theorem c_imp (h : CW ms call k a env s Q) (hq : ∀ e env s, Q e env s → Q' e env s) : CW ms call k a env s Q' := .mk fun tm ha => by
  obtain ⟨e, tm', s', env', h1, h2, h3⟩ := h.run tm ha
  exact ⟨e, tm', s', env', h1, h2, hq e env' s' h3⟩
theorem c_loop {β : Type} (lit : β → Env) (P : β → St → Prop) (m : β → Nat) (x0 : β) (hk : m x0 < k) (hs : Sub (lit x0) env) (h0 : P x0 s)
    (hstep : ∀ x s, m x ≤ m x0 → P x s → CW ms call k a (lit x) s (LoopQ lit P m Q x)) : CW ms call k (.loop a) env s Q := by
  have aux : ∀ (n : Nat) (x : β) (s : St) (tm : T Value), m x < n → m x ≤ m x0 → P x s → Ag tm (lit x) → ∃ e tm' s' env', loopN (exec ms call k a) n tm s = .ok (e, tm', s') ∧ Ag tm' env' ∧ Q e env' s' := by
    intro n
    induction n with
    | zero => intro x s tm h; omega
    | succ n ih =>
      intro x s tm hm hle hp ha
      obtain ⟨e, tm', s', env', h1, h2, h3⟩ := (hstep x s hle hp).run tm ha
      cases e with
      | normal =>
        obtain ⟨y, hy, hsub, hpy⟩ := h3.n rfl
        obtain ⟨e, tm2, s2, env2, g1, g2, g3⟩ := ih y s' tm' (by omega) (by omega) hpy (ag_sub h2 hsub)
        exact ⟨e, tm2, s2, env2, by simp only [loopN, h1, g1], g2, g3⟩
      | exit id => exact ⟨.exit id, tm', s', env', by simp only [loopN, h1], h2, h3.x id rfl⟩
      | ret => exact ⟨.ret, tm', s', env', by simp only [loopN, h1], h2, h3.r rfl⟩
  refine ⟨fun tm ha => ?_⟩
  obtain ⟨e, tm', s', env', h1, h2⟩ := aux k x0 s tm hk (Nat.le_refl _) h0 (ag_sub ha hs)
  exact ⟨e, tm', s', env', by simp only [exec, h1], h2⟩
-- how things end
theorem q_seq (h : F env s) : SeqQ F Q .normal env s := ⟨fun _ => h, fun id e => (by cases e), fun e => (by cases e)⟩
theorem q_seq_ret (h : Q .ret env s) : SeqQ F Q .ret env s := ⟨fun e => (by cases e), fun id e => (by cases e), fun _ => h⟩
theorem q_seq_exit (h : Q (.exit id) env s) : SeqQ F Q (.exit id) env s := ⟨fun e => (by cases e), fun id e => (by cases e; exact h), fun e => (by cases e)⟩
theorem q_block (h : Q .normal env s) : BlockQ id Q .normal env s := ⟨fun _ => h, fun id e => (by cases e), fun e => (by cases e)⟩
theorem q_block_ret (h : Q .ret env s) : BlockQ id Q .ret env s := ⟨fun e => (by cases e), fun id e => (by cases e), fun _ => h⟩
theorem q_block_here {id' : Nat} (hb : Nat.beq id id' = true) (h : Q .normal env s) : BlockQ id Q (.exit id') env s := ⟨fun e => (by cases e), fun id e => (by cases e; exact .inl ⟨hb, h⟩), fun e => (by cases e)⟩
theorem q_block_out {id' : Nat} (hb : Nat.beq id id' = false) (h : Q (.exit id') env s) : BlockQ id Q (.exit id') env s := ⟨fun e => (by cases e), fun id e => (by cases e; exact .inr ⟨hb, h⟩), fun e => (by cases e)⟩
theorem q_loop_exit {β : Type} {lit : β → Env} {P : β → St → Prop} {m : β → Nat} {x : β} (h : Q (.exit id) env s) : LoopQ lit P m Q x (.exit id) env s := ⟨fun e => (by cases e), fun id e => (by cases e; exact h), fun e => (by cases e)⟩
theorem q_loop_ret {β : Type} {lit : β → Env} {P : β → St → Prop} {m : β → Nat} {x : β} (h : Q .ret env s) : LoopQ lit P m Q x .ret env s := ⟨fun e => (by cases e), fun id e => (by cases e), fun _ => h⟩
theorem q_loop {β : Type} {lit : β → Env} {P : β → St → Prop} {m : β → Nat} {x : β} (y : β) (h1 : m y < m x) (h2 : Sub (lit y) env) (h3 : P y s) : LoopQ lit P m Q x .normal env s := ⟨fun _ => ⟨y, h1, h2, h3⟩, fun id e => (by cases e), fun e => (by cases e)⟩
end code

-- functions
def tupOf : List Value → Value
  | [v] => v
  | l => .tuple ⟨l⟩
inductive ResE (env : Env) (s : St) : List ARes → List Value → Prop where
  | nil : ResE env s [] []
  | tmp {t : Nat} {v : Value} {r : List ARes} {l : List Value} : envAt env t = some v → ResE env s r l → ResE env s (.tmp t :: r) (v :: l)
  | cell {t g i u n len mv : Nat} {v : Value} {cells : List Value} {r : List ARes} {l : List Value} : envAt env t = some (.pointer (some ⟨g, i, some u⟩)) → s.heap.get g = some (.row cells len mv) → mv ≤ u → i < u → lget cells i = some v →
      ResE env s r l → ResE env s (.cell t false n :: r) (v :: l)
  | cells {t g i u n len mv : Nat} {vs cells : List Value} {r : List ARes} {l : List Value} : envAt env t = some (.pointer (some ⟨g, i, some u⟩)) → s.heap.get g = some (.row cells len mv) → mv ≤ u → i + n ≤ u → (cells.drop i).take n = vs →
      ResE env s r l → ResE env s (.cell t true n :: r) (.agg ⟨vs⟩ :: l)
theorem resE_ok {env : Env} {s : St} {tm : T Value} (ha : Ag tm env) {rs : List ARes} {l : List Value} (h : ResE env s rs l) : results tm s rs = .ok l := by
  induction h with
  | nil => rfl
  | tmp h1 _ ih => simp only [results, ih, opd, ha _ _ h1]
  | cell h1 h2 h3 h4 h5 _ ih =>
    have e1 := Nat.ble_eq_true_of_le h3
    have e2 := Nat.ble_eq_true_of_le h4
    simp only [results, opd, ha _ _ h1, cond_false, readOne, h2, e1, Nat.blt, e2, Bool.and_self, cond_true, h5, ih]
  | cells h1 h2 h3 h4 h5 _ ih =>
    have e1 := Nat.ble_eq_true_of_le h3
    have e2 := Nat.ble_eq_true_of_le h4
    simp only [results, opd, ha _ _ h1, cond_true, readCells, h2, e1, e2, Bool.and_self, h5, ih]
/-- How a function ends. -/
structure RetQ (rs : List ARes) (P : Value → St → Prop) (e : AExit) (env : Env) (s : St) : Prop where
  e : ∀ id, e ≠ .exit id
  h : ∃ l, ResE env s rs l ∧ P (tupOf l) s
theorem q_ret {rs : List ARes} {P : Value → St → Prop} {env : Env} {s : St} {l : List Value} (h : ResE env s rs l) (hp : P (tupOf l) s) : RetQ rs P .ret env s := ⟨fun id e => (by cases e), l, h, hp⟩
theorem q_end {rs : List ARes} {P : Value → St → Prop} {env : Env} {s : St} {l : List Value} (h : ResE env s rs l) (hp : P (tupOf l) s) : RetQ rs P .normal env s := ⟨fun id e => (by cases e), l, h, hp⟩
def envOf : List Value → Nat → Env → Env
  | [], _, e => e
  | v :: l, i, e => envOf l (i + 1) ((i, v) :: e)
theorem ag_of : ∀ (l : List Value) (i : Nat) (tm : T Value) (env : Env), Ag tm env → Ag (tmpsFrom l i tm) (envOf l i env)
  | [], _, _, _, h => h
  | v :: l, i, tm, env, h => ag_of l (i + 1) (tm.set i v) ((i, v) :: env) (ag_put h (some i) v)
theorem call_of {ms : Meths} {tab : Nat → Option AFn} {k f : Nat} {fn : AFunc} {args : List Value} {s : St} {P : Value → St → Prop} (ht : tab f = some (.code fn))
    (h : CW ms (acall tab ms k) k fn.body (envOf args 0 []) s (RetQ fn.results P)) : ∃ v s', acall tab ms (k + 1) f args s = .ok (v, s') ∧ P v s' := by
  obtain ⟨e, tm', s', env', h1, h2, h3⟩ := h.run (tmpsFrom args 0 .e) (ag_of args 0 .e [] (fun t v hv => by cases hv))
  have fin : (∃ l, ResE env' s' fn.results l ∧ P (tupOf l) s') → (∀ id, e ≠ .exit id) → ∃ v s', acall tab ms (k + 1) f args s = .ok (v, s') ∧ P v s' := by
    rintro ⟨l, hr, hp⟩ he
    have hr := resE_ok h2 hr
    refine ⟨tupOf l, s', ?_, hp⟩
    match l, hr with
    | [], hr => cases e with
      | exit id => exact absurd rfl (he id)
      | normal => simp only [acall, ht, h1, hr, tupOf]
      | ret => simp only [acall, ht, h1, hr, tupOf]
    | [v], hr => cases e with
      | exit id => exact absurd rfl (he id)
      | normal => simp only [acall, ht, h1, hr, tupOf]
      | ret => simp only [acall, ht, h1, hr, tupOf]
    | x :: y :: l, hr => cases e with
      | exit id => exact absurd rfl (he id)
      | normal => simp only [acall, ht, h1, hr, tupOf]
      | ret => simp only [acall, ht, h1, hr, tupOf]
  exact fin h3.h h3.e
end Go.Am

/-
  THE ABSTRACT MACHINE: what a run leaves alone, slices that grow.
-/
namespace Go.Am
/-- What has a name below is left as it was. -/
structure Above (lo : Nat) (s s' : St) : Prop where
  same : ∀ j, j < lo → s'.heap.get j = s.heap.get j
  next : s.next ≤ s'.next
  low : ∀ c, c ≤ s.low → c ≤ lo → c ≤ s'.low
theorem Above.refl (lo : Nat) (s : St) : Above lo s s := ⟨fun _ _ => rfl, Nat.le_refl _, fun _ h _ => h⟩
theorem Above.trans {lo : Nat} {s s' s'' : St} (h : Above lo s s') (h' : Above lo s' s'') : Above lo s s'' :=
  ⟨fun j hj => (h'.same j hj).trans (h.same j hj), Nat.le_trans h.next h'.next, fun c h1 h2 => h'.low c (h.low c h1 h2) h2⟩
theorem Above.mono {lo lo' : Nat} {s s' : St} (h : Above lo s s') (hl : lo' ≤ lo) : Above lo' s s' :=
  ⟨fun j hj => h.same j (by omega), h.next, fun c h1 h2 => h.low c h1 (by omega)⟩
theorem above_set {lo g n l : Nat} {s : St} (o : Ob) (hg : lo ≤ g) (hn : s.next ≤ n) (hl : Nat.min s.low g ≤ l) : Above lo s ⟨s.heap.set g o, n, l⟩ :=
  ⟨fun j hj => T.get_set_ne _ _ (by omega), hn, fun c h1 h2 => Nat.le_trans (Nat.le_min.2 ⟨h1, by omega⟩) hl⟩
theorem above_new {lo : Nat} {s : St} (o : Ob) (hg : lo ≤ s.next) : Above lo s ⟨s.heap.set s.next o, s.next + 1, s.low⟩ := above_set o hg (Nat.le_succ _) (Nat.min_le_left _ _)
theorem above_put {lo g : Nat} {s : St} (o : Ob) (hg : lo ≤ g) : Above lo s ⟨s.heap.set g o, s.next, Nat.min s.low g⟩ := above_set o hg (Nat.le_refl _) (Nat.le_refl _)
/-- A slice that grows: nil, or at the front of a row of its own, whose name is at least so great. -/
def SlAt (lo k : Nat) (s : St) (v : Value) (n : Nat) (cells : List Value) : Prop :=
  (v = .slice none 0 0 ∧ n = 0 ∧ cells = []) ∨ ∃ g mv, v = .slice (some ⟨g, 0, some (n * k)⟩) n (2 * k) ∧ lo ≤ g ∧ g < s.next ∧ s.heap.get g = some (.row cells (n * k) mv) ∧ mv ≤ n * k ∧ cells.length = n * k
theorem sl_nil (lo k : Nat) (s : St) : SlAt lo k s (.slice none 0 0) 0 [] := .inl ⟨rfl, rfl, rfl⟩
theorem SlAt.keep {lo k n : Nat} {s s' : St} {v : Value} {cells : List Value} (h : SlAt lo k s v n cells) (hs : ∀ j, lo ≤ j → j < s.next → s'.heap.get j = s.heap.get j) (hn : s.next ≤ s'.next) : SlAt lo k s' v n cells := by
  rcases h with h | ⟨g, mv, h1, h2, h3, h4, h5, h6⟩
  · exact .inl h
  · exact .inr ⟨g, mv, h1, h2, by omega, by rw [hs g h2 h3]; exact h4, h5, h6⟩
section
variable {ms : Meths} {call : CallK} {env : Env} {s s' : St} {x y : Opd} {v w : Value} {k n m lo d anc bytes : Nat} {cells new zs : List Value} {gd : Option (Nat × Bool)} {rest : List AOper} {Q : Env → St → Prop}
theorem r_len (hw : wantE env gd = some true) (hx : opE env x = some v) (hs : SlAt lo k s v n cells) (h : RW ms call rest ((d, .int .i64 n) :: env) s Q) : RW ms call (⟨some d, gd, anc, .lenSl x⟩ :: rest) env s Q := by
  rcases hs with ⟨rfl, rfl, -⟩ | ⟨g, mv, rfl, -⟩
  · exact r_op hw (o_lenSl hx) h
  · exact r_op hw (o_lenSl hx) h
/-- The state said in other words. -/
theorem r_forget {ops : List AOper} (P : St → Prop) (hp : P s) (h : ∀ s', P s' → RW ms call ops env s' Q) : RW ms call ops env s Q := h s hp
theorem c_forget {kk : Nat} {c : ACode} {Q : AExit → Env → St → Prop} (P : St → Prop) (hp : P s) (h : ∀ s', P s' → CW ms call kk c env s' Q) : CW ms call kk c env s Q := h s hp
theorem r_append (hw : wantE env gd = some true) (hx : opE env x = some v) (hs : SlAt lo k s v n cells) (hlo : lo ≤ s.next) (hy : opE env y = some w) (hsrc : srcCells k s w = .ok (m, new)) (h0 : m ≠ 0) (hm : n + m < 4294967296) (hb : Nat.ble bytes 4096 = true) (hnl : new.length = m * k)
    (h : ∀ v' s', SlAt lo k s' v' (n + m) (cells ++ new) → Above lo s s' → RW ms call rest ((d, v') :: env) s' Q) : RW ms call (⟨some d, gd, anc, .append k bytes zs x y⟩ :: rest) env s Q := by
  rcases hs with ⟨rfl, rfl, rfl⟩ | ⟨g, mv, rfl, h1, h2, h3, h4, h5⟩
  · refine r_op hw (o_append_nil hx hy hsrc h0 (by omega) hb) (h _ _ ?_ (above_new _ hlo))
    refine .inr ⟨s.next, 0, by rw [Nat.zero_add], hlo, Nat.lt_succ_self _, ?_, Nat.zero_le _, by simp [hnl]⟩
    rw [T.get_set_same, Nat.zero_add]
    rfl
  · refine r_op hw (o_append_end hx hy hsrc h0 hm hb h3 h4 rfl) (h _ _ ?_ (above_put _ h1))
    exact .inr ⟨g, mv, rfl, h1, h2, T.get_set_same _ _ _, Nat.le_trans h4 (Nat.mul_le_mul_right _ (by omega)), by rw [List.length_append, h5, hnl, Nat.add_mul]⟩
/-- A slice to be read. -/
def SlR (k : Nat) (s : St) (v : Value) (n : Nat) (cells : List Value) : Prop :=
  (n = 0 ∧ cells = [] ∧ ∃ a m, v = .slice a 0 m) ∨ ∃ g i u m row, v = .slice (some ⟨g, i, some u⟩) n m ∧ Nat.beq (m / 2) k = true ∧ DD.Sees (s.heap.get g) u row ∧ i + n * k ≤ u ∧ (row.drop i).take (n * k) = cells ∧ cells.length = n * k
theorem SlAt.read {lo : Nat} (h : SlAt lo k s v n cells) : SlR k s v n cells := by
  rcases h with ⟨h1, h2, h3⟩ | ⟨g, mv, h1, h2, h3, h4, h5, h6⟩
  · exact .inl ⟨h2, h3, none, 0, by rw [h1]⟩
  · refine .inr ⟨g, 0, n * k, 2 * k, cells, h1, ?_, .inl ⟨_, mv, h4, h5⟩, by omega, ?_, h6⟩
    · rw [Nat.mul_div_cancel_left k (by decide)]
      exact Nat.beq_refl _
    · rw [List.drop_zero, List.take_of_length_le (by omega)]
theorem SlR.keep (h : SlR k s v n cells) (hs : ∀ g i u m, v = .slice (some ⟨g, i, some u⟩) n m → s'.heap.get g = s.heap.get g) : SlR k s' v n cells := by
  rcases h with h | ⟨g, i, u, m, row, h1, h2, h3, h4⟩
  · exact .inl h
  · exact .inr ⟨g, i, u, m, row, h1, h2, by rw [hs g i u m h1]; exact h3, h4⟩
/-- Its names are below. -/
def Below (lo : Nat) (v : Value) : Prop := ∀ g i u n m, v = .slice (some ⟨g, i, some u⟩) n m → g < lo
theorem SlR.above {lo : Nat} (h : SlR k s v n cells) (hb : Below lo v) (ha : Above lo s s') : SlR k s' v n cells := h.keep fun g i u m hv => ha.same g (hb g i u n m hv)
theorem r_lenR (hw : wantE env gd = some true) (hx : opE env x = some v) (hs : SlR k s v n cells) (h : RW ms call rest ((d, .int .i64 n) :: env) s Q) : RW ms call (⟨some d, gd, anc, .lenSl x⟩ :: rest) env s Q := by
  rcases hs with ⟨rfl, -, a, m, rfl⟩ | ⟨g, i, u, m, row, rfl, -⟩
  · exact r_op hw (o_lenSl hx) h
  · exact r_op hw (o_lenSl hx) h
/-- An element's cells. -/
theorem SlR.elem (h : SlR k s v n cells) {j : Nat} (hj : j < n) : ∃ g i u m row, v = .slice (some ⟨g, i, some u⟩) n m ∧ Nat.beq (m / 2) k = true ∧ DD.Sees (s.heap.get g) u row ∧ i + n * k ≤ u ∧ i + j * k + k ≤ u ∧
    (∀ t, t < k → lget row (i + j * k + t) = lget cells (j * k + t)) ∧ (row.drop (i + j * k)).take k = (cells.drop (j * k)).take k := by
  rcases h with ⟨rfl, -⟩ | ⟨g, i, u, m, row, h1, h2, h3, h5, h6, h7⟩
  · omega
  · have hjk : j * k + k ≤ n * k := by have := Nat.mul_le_mul_right k (show j + 1 ≤ n from hj); rw [Nat.add_mul] at this; omega
    refine ⟨g, i, u, m, row, h1, h2, h3, h5, by omega, fun t ht => ?_, ?_⟩
    · rw [← h6, lget_eq, lget_eq, List.getElem?_take, if_pos (by omega), List.getElem?_drop]
      congr 1
      omega
    · rw [← h6, List.drop_take, List.take_take, List.drop_drop, Nat.min_eq_left (by omega)]
theorem dw_load2 {i d anc : Nat} {ds : List (Nat × Done)} {qs : Made} {x : Opd} {agg : Bool} {n g j u : Nat} (hw : wantE env gd = some true) (hx : opE env x = some (.pointer (some ⟨g, j, some u⟩))) (ho : Op1 ms call env (.load agg n x) s v s)
    (hb : allApart anc (.read g j u (spanOf agg n)) ds = true) (hk : known anc g qs = true) (h : DW ms call (i + 1) rest ((i, .read g j u (spanOf agg n)) :: ds) qs ((d, v) :: env) s Q) :
    DW ms call i (⟨some d, gd, anc, .load agg n x⟩ :: rest) ds qs env s Q := dw_load hw ho hx (by rw [hb, hk]; rfl) h
-- bytes
def u8l (l : List UInt8) : List Value := l.map fun c => .int .u8 c.toNat
theorem bytesOf_u8l : ∀ l, bytesOf (u8l l) = some l
  | [] => rfl
  | c :: l => by
    have := bytesOf_u8l l
    simp only [u8l, List.map_cons, bytesOf] at this ⊢
    rw [this]
    simp
theorem u8l_length (l : List UInt8) : (u8l l).length = l.length := List.length_map ..
theorem u8l_append (a b : List UInt8) : u8l (a ++ b) = u8l a ++ u8l b := List.map_append ..
theorem r_bytesToStr {lo : Nat} {l : List UInt8} (hw : wantE env gd = some true) (hx : opE env x = some v) (hs : SlAt lo 1 s v n (u8l l)) (h : RW ms call rest ((d, .string ⟨⟨l⟩⟩) :: env) s Q) : RW ms call (⟨some d, gd, anc, .bytesToStr x⟩ :: rest) env s Q := by
  rcases hs with ⟨rfl, rfl, h0⟩ | ⟨g, mv, rfl, h1, h2, h3, h4, h5⟩
  · have : l = [] := by cases l with | nil => rfl | cons c l => simp [u8l] at h0
    subst this
    exact r_op hw (o_bytesToStr_none hx) h
  · rw [u8l_length, Nat.mul_one] at h5
    subst h5
    cases l with
    | nil =>
      refine r_op hw (.mk fun tm ha => ?_) h
      simp only [runOp, aop, opE_ok ha hx]
      rfl
    | cons c l =>
      refine r_op hw (o_bytesToStr hx (by simp) h3 h4 (by simp) ?_ (bytesOf_u8l _)) h
      rw [List.drop_zero, List.take_of_length_le (by rw [u8l_length]; exact Nat.le_refl _)]
end
end Go.Am
