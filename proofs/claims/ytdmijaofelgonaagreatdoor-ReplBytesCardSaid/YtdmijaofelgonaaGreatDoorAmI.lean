/-
  THE ABSTRACT MACHINE: each compiled operation does what the model does.
-/
import Derived.Test.YtdmijaofelgonaaGreatDoorAmH
namespace Go.Am
open Go.MapKept

def AOp.isCall : AOp → Bool
  | .call .. => true
  | .callV .. => true
  | .invoke .. => true
  | _ => false

theorem aop_no_call {ms : Meths} {tm : T Value} {a : AOp} {s s' : St} {f : Nat} {args : List Value} (h : a.isCall = false) : aop ms tm a s ≠ .ok (.call f args s') := by
  intro hs
  cases a <;> simp only [AOp.isCall, Bool.true_eq_false] at h <;> simp only [aop] at hs
  all_goals (repeat' split at hs)
  all_goals first
    | cases hs
    | (simp only [cond] at hs; (repeat' split at hs) <;> cases hs)
theorem aop_no_val {ms : Meths} {tm : T Value} {a : AOp} {s s' : St} {v : Value} (h : a.isCall = true) : aop ms tm a s ≠ .ok (.val v s') := by
  intro hs
  cases a <;> simp only [AOp.isCall, Bool.false_eq_true] at h <;> simp only [aop] at hs
  all_goals (repeat' split at hs)
  all_goals cases hs

section
variable {P : Program}
theorem oneSound {o : Oper} {a : AOp} (h : OpSound P o a) (hc : a.isCall = false) : (a.isCall = false → OpSound P o a) ∧ (a.isCall = true → CallSound P o a) :=
  ⟨fun _ => h, fun h' => absurd (hc.symm.trans h') (by simp)⟩
theorem callSound {o : Oper} {a : AOp} (h : CallSound P o a) (hc : a.isCall = true) : (a.isCall = false → OpSound P o a) ∧ (a.isCall = true → CallSound P o a) :=
  ⟨fun h' => absurd (hc.symm.trans h') (by simp), fun _ => h⟩

theorem negOf_spec {op : BinOp} {n : Bool} (h : negOf op = some n) : op = .eql ∧ n = false ∨ op = .neq ∧ n = true := by
  cases op <;> simp [negOf] at h
  · exact .inl ⟨rfl, h⟩
  · exact .inr ⟨rfl, h⟩
theorem nkOf'_spec {d : TypeDesc} {n : NK} (h : nkOf' d = some n) : nkOf d = some n ∧ n ≠ .iface := by
  cases d <;> simp [nkOf'] at h <;> subst h <;> exact ⟨rfl, by simp⟩
theorem isConst_spec {x : Operand} (h : isConst x = true) : ∃ c, x = .const c := by
  cases x <;> simp [isConst] at h
  exact ⟨_, rfl⟩
theorem isIntConst_spec {x : Operand} (h : isIntConst x = true) : ∃ k n, x = .const (.int k n) := by
  cases x with
  | const v => cases v <;> simp [isIntConst] at h; exact ⟨_, _, rfl⟩
  | _ => simp [isIntConst] at h
theorem one_arg {xs : Array Operand} {y : Opd} (h : compOpds P xs.toList = some [y]) : ∃ x, xs = #[x] ∧ compOpd P x = some y := by
  obtain ⟨l⟩ := xs
  match l, h with
  | [], h => simp [compOpds] at h
  | [x], h =>
    simp [compOpds, Option.bind_eq_some_iff] at h
    exact ⟨x, rfl, h⟩
  | _ :: _ :: _, h =>
    simp [compOpds, Option.bind_eq_some_iff] at h
theorem two_args {xs : Array Operand} {y y' : Opd} (h : compOpds P xs.toList = some [y, y']) : ∃ x x', xs = #[x, x'] ∧ compOpd P x = some y ∧ compOpd P x' = some y' := by
  obtain ⟨l⟩ := xs
  match l, h with
  | [], h => simp [compOpds] at h
  | [x], h => simp [compOpds, Option.bind_eq_some_iff] at h
  | [x, x'], h =>
    simp [compOpds, Option.bind_eq_some_iff] at h
    exact ⟨x, x', rfl, h.1, h.2⟩
  | _ :: _ :: _ :: _, h =>
    simp [compOpds, Option.bind_eq_some_iff] at h
theorem arr1 {α} {xs : Array α} {y : α} (h : xs.toList = [y]) : xs = #[y] := by apply Array.ext'; simp [h]
theorem arr2 {α} {xs : Array α} {y z : α} (h : xs.toList = [y, z]) : xs = #[y, z] := by apply Array.ext'; simp [h]
theorem lget_arr {α} {xs : Array α} {i : Nat} {y : α} (h : lget xs.toList i = some y) : xs[i]? = some y := by
  rw [lget_eq] at h; rw [← Array.getElem?_toList]; exact h

theorem compOp_sound {o : Oper} {a : AOp} (hc : compOp P o = some a) : (a.isCall = false → OpSound P o a) ∧ (a.isCall = true → CallSound P o a) := by
  obtain ⟨dst, op, type, pos, after, guard⟩ := o
  cases op with
  | move x =>
    simp only [compOp, bind, Option.bind_eq_some_iff, pure, Option.some.injEq] at hc
    obtain ⟨y, h1, rfl⟩ := hc
    exact oneSound (op_move h1) rfl
  | assign x =>
    simp only [compOp, bind, Option.bind_eq_some_iff, pure, Option.some.injEq] at hc
    obtain ⟨y, h1, rfl⟩ := hc
    exact oneSound (op_assign h1) rfl
  | pick c x y =>
    simp only [compOp, bind, Option.bind_eq_some_iff, pure, Option.some.injEq] at hc
    obtain ⟨c', h1, x', h2, y', h3, rfl⟩ := hc
    exact oneSound (op_pick h1 h2 h3) rfl
  | alloc t =>
    simp only [compOp, bind, Option.bind_eq_some_iff, pure, Option.some.injEq] at hc
    obtain ⟨z, h1, rfl⟩ := hc
    exact oneSound (op_alloc h1) rfl
  | box t x =>
    simp only [compOp, bind, Option.bind_eq_some_iff, pure, Option.some.injEq] at hc
    obtain ⟨y, h1, rfl⟩ := hc
    exact oneSound (op_box h1) rfl
  | build t parts =>
    simp only [compOp, bind, Option.bind_eq_some_iff, pure, Option.some.injEq] at hc
    obtain ⟨z, h1, hc⟩ := hc
    split at hc
    · rename_i fs ht
      simp only [Option.bind_eq_some_iff, Option.some.injEq] at hc
      obtain ⟨l, h2, p, h3, rfl⟩ := hc
      exact oneSound (op_buildStruct ht h1 h2 h3) rfl
    · rename_i n e ht
      simp only [Option.bind_eq_some_iff, Option.some.injEq] at hc
      obtain ⟨k, h2, p, h3, rfl⟩ := hc
      exact oneSound (op_buildArr ht h1 h2 h3) rfl
    · cases hc
  | buildSlice t len parts =>
    simp only [compOp, bind, pure] at hc
    split at hc
    · rename_i e ht
      simp only [Option.bind_eq_some_iff] at hc
      obtain ⟨k, h1, hc⟩ := hc
      split at hc
      · cases hc
      · rename_i h2
        simp only [Option.bind_eq_some_iff, Option.some.injEq] at hc
        obtain ⟨z, h3, p, h4, rfl⟩ := hc
        simp only [Bool.or_eq_true, decide_eq_true_eq, not_or, Nat.not_lt] at h2
        exact oneSound (op_buildSlice ht h3 h1 h2.1 (by omega) h4) rfl
    · cases hc
  | load t x =>
    simp only [compOp, bind, Option.bind_eq_some_iff, pure, Option.some.injEq] at hc
    obtain ⟨b, h1, n, h2, y, h3, rfl⟩ := hc
    exact oneSound (op_load h1 h2 h3) rfl
  | store t x y =>
    simp only [compOp, bind, Option.bind_eq_some_iff, pure, Option.some.injEq] at hc
    obtain ⟨n, h1, x', h2, y', h3, rfl⟩ := hc
    exact oneSound (op_store h1 h2 h3) rfl
  | nilCheck x =>
    simp only [compOp, bind, Option.bind_eq_some_iff, pure, Option.some.injEq] at hc
    obtain ⟨y, h1, rfl⟩ := hc
    exact oneSound (op_nilCheck h1) rfl
  | binOp op t x y u =>
    simp only [compOp, bind, Option.bind_eq_some_iff, pure] at hc
    obtain ⟨a', hx, b', hy, hc⟩ := hc
    split at hc
    · cases hc; exact oneSound (op_bin hx hy) rfl
    · cases hc; exact oneSound (op_bin hx hy) rfl
    · rename_i ht
      simp only [Option.bind_eq_some_iff, Option.some.injEq] at hc
      obtain ⟨n, hn, rfl⟩ := hc
      exact oneSound (op_eqBool (negOf_spec hn) ht hx hy) rfl
    · rename_i ims ht
      simp only [Option.bind_eq_some_iff] at hc
      obtain ⟨n, hn, hc⟩ := hc
      split at hc
      · rename_i hk
        cases hc
        refine oneSound (op_eqNil (negOf_spec hn) ht rfl hx hy fun _ => ?_) rfl
        rw [Bool.or_eq_true] at hk
        exact hk.imp isConst_spec isConst_spec
      · split at hc
        · cases hc
        · cases hc; exact oneSound (op_eqIface (negOf_spec hn) ht hx hy) rfl
    · rename_i fs ht
      simp only [Option.bind_eq_some_iff] at hc
      obtain ⟨n, hn, hc⟩ := hc
      split at hc
      · cases hc
      · rename_i hg
        split at hc
        · cases hc
        · rename_i hs'
          simp only [Option.bind_eq_some_iff, Option.some.injEq] at hc
          obtain ⟨l, hl, rfl⟩ := hc
          exact oneSound (op_eqAgg (negOf_spec hn) ht (by simpa using hg) (by simpa using hs') hl hx hy) rfl
    · rename_i d _ _ _ _ _ ht
      simp only [Option.bind_eq_some_iff, Option.some.injEq] at hc
      obtain ⟨n, hn, nk, hnk, rfl⟩ := hc
      have h2 := nkOf'_spec hnk
      exact oneSound (op_eqNil (negOf_spec hn) ht h2.1 hx hy fun h => absurd h h2.2) rfl
    · cases hc
  | unOp op t x =>
    simp only [compOp, bind, Option.bind_eq_some_iff, pure, Option.some.injEq] at hc
    obtain ⟨y, h1, rfl⟩ := hc
    exact oneSound (op_un h1) rfl
  | convert src to x =>
    simp only [compOp, bind, Option.bind_eq_some_iff, pure] at hc
    obtain ⟨y, h1, hc⟩ := hc
    split at hc
    · rename_i a b h2 h3
      cases hc
      exact oneSound (op_toInt h2 h3 h1) rfl
    · rename_i h2 h3
      cases hc
      exact oneSound (op_sameStr h2 h3 h1) rfl
    · rename_i e h2 h3
      split at hc
      · rename_i h4
        cases hc
        exact oneSound (op_strToBytes h2 h3 h4 h1) rfl
      · cases hc
    · rename_i e h2 h3
      split at hc
      · rename_i h4
        cases hc
        exact oneSound (op_bytesToStr h2 h3 h4 h1) rfl
      · cases hc
    · cases hc
  | makeInterface t x =>
    simp only [compOp, bind, pure] at hc
    split at hc
    · cases hc
    · rename_i d hn ht
      simp only [Option.bind_eq_some_iff, Option.some.injEq] at hc
      obtain ⟨y, h1, rfl⟩ := hc
      exact oneSound (op_mkIface ht (fun ms h => hn ms (h ▸ rfl)) h1) rfl
    · cases hc
  | makeFunc fn x y =>
    cases fn with
    | func f =>
      simp only [compOp, bind, Option.bind_eq_some_iff, pure, Option.some.injEq] at hc
      obtain ⟨a', h1, b', h2, rfl⟩ := hc
      exact oneSound (op_mkFunc h1 h2) rfl
    | method f =>
      simp only [compOp, bind, Option.bind_eq_some_iff, pure, Option.some.injEq] at hc
      obtain ⟨a', h1, b', h2, rfl⟩ := hc
      exact oneSound (op_mkFunc h1 h2) rfl
    | _ => simp only [compOp] at hc; cases hc
  | makeMap t r =>
    cases r with
    | none =>
      simp only [compOp, pure] at hc
      cases hc
      exact oneSound op_mkMap rfl
    | some r =>
      simp only [compOp, pure] at hc
      split at hc
      · rename_i kt et ht
        split at hc
        · rename_i hr
          cases hc
          obtain ⟨k, n, rfl⟩ := isIntConst_spec hr
          exact oneSound (op_mkMapN ht) rfl
        · cases hc
      · cases hc
  | makeSlice t l c =>
    simp only [compOp, bind, pure] at hc
    split at hc
    · rename_i e ht
      simp only [Option.bind_eq_some_iff] at hc
      obtain ⟨k, h1, hc⟩ := hc
      split at hc
      · cases hc
      · rename_i hk0
        simp only [Option.bind_eq_some_iff, Option.some.injEq] at hc
        obtain ⟨b, h2, z, h3, l', h4, c', h5, rfl⟩ := hc
        exact oneSound (op_mkSlice ht h1 hk0 h3 h2 h4 h5) rfl
    · cases hc
  | slice t x lo hi mx =>
    cases mx with
    | none =>
      simp only [compOp, bind, Option.bind_eq_some_iff, pure] at hc
      obtain ⟨x', hx, lo', hlo, hi', hhi, hc⟩ := hc
      split at hc
      · rename_i ht
        cases hc
        exact oneSound (op_sliceStr ht hx hlo hhi) rfl
      · rename_i e ht
        simp only [Option.bind_eq_some_iff] at hc
        obtain ⟨k, hk, hc⟩ := hc
        split at hc
        · cases hc
        · rename_i hk0
          cases hc
          exact oneSound (op_sliceSl ht hk hk0 hx hlo hhi rfl (fun h => absurd rfl h)) rfl
      · rename_i n e ht
        simp only [Option.bind_eq_some_iff] at hc
        obtain ⟨k, hk, hc⟩ := hc
        split at hc
        · cases hc
        · rename_i hk0
          cases hc
          exact oneSound (op_sliceArr ht hk hk0 hx hlo hhi) rfl
      · cases hc
    | some mx =>
      cases hi with
      | none => simp only [compOp] at hc; cases hc
      | some hi =>
        simp only [compOp, bind, Option.bind_eq_some_iff, pure] at hc
        obtain ⟨x', hx, lo', hlo, hi', hhi, mx', hmx, hc⟩ := hc
        split at hc
        · rename_i e ht
          simp only [Option.bind_eq_some_iff] at hc
          obtain ⟨k, hk, hc⟩ := hc
          split at hc
          · cases hc
          · rename_i hk0
            cases hc
            exact oneSound (op_sliceSl ht hk hk0 hx hlo (hi' := some hi') (mx' := some mx') (by simp [compOpt, hhi]) (by simp [compOpt, hmx]) (fun _ => by simp)) rfl
        · cases hc
  | fieldAddr t x f =>
    simp only [compOp, bind, pure] at hc
    split at hc
    · rename_i fs ht
      simp only [Option.bind_eq_some_iff] at hc
      obtain ⟨fd, h1, k, h2, hc⟩ := hc
      split at hc
      · cases hc
      · rename_i hk0
        simp only [Option.bind_eq_some_iff, Option.some.injEq] at hc
        obtain ⟨y, h3, rfl⟩ := hc
        exact oneSound (op_fieldAddr ht (lget_arr h1) h2 hk0 h3) rfl
    · cases hc
  | field t x f =>
    simp only [compOp, bind, pure] at hc
    split at hc
    · rename_i fs ht
      simp only [Option.bind_eq_some_iff, Option.some.injEq] at hc
      obtain ⟨fd, h1, b, h2, k, h3, y, h4, rfl⟩ := hc
      exact oneSound (op_field ht (lget_arr h1) h2 h3 h4) rfl
    · cases hc
  | indexAddr t x j =>
    simp only [compOp, bind, pure] at hc
    split at hc
    · rename_i e ht
      simp only [Option.bind_eq_some_iff] at hc
      obtain ⟨k, h1, hc⟩ := hc
      split at hc
      · cases hc
      · rename_i hk0
        simp only [Option.bind_eq_some_iff, Option.some.injEq] at hc
        obtain ⟨x', h2, j', h3, rfl⟩ := hc
        exact oneSound (op_indexSl ht h1 h2 h3) rfl
    · rename_i n e ht
      simp only [Option.bind_eq_some_iff] at hc
      obtain ⟨k, h1, hc⟩ := hc
      split at hc
      · cases hc
      · rename_i hk0
        simp only [Option.bind_eq_some_iff, Option.some.injEq] at hc
        obtain ⟨x', h2, j', h3, rfl⟩ := hc
        exact oneSound (op_indexArr ht h1 h2 h3) rfl
    · cases hc
  | index t x j =>
    simp only [compOp, bind, pure] at hc
    split at hc
    · rename_i ht
      simp only [Option.bind_eq_some_iff, Option.some.injEq] at hc
      obtain ⟨x', h2, j', h3, rfl⟩ := hc
      exact oneSound (op_indexStr ht h2 h3) rfl
    · rename_i n e ht
      simp only [Option.bind_eq_some_iff, Option.some.injEq] at hc
      obtain ⟨b, h1, k, h2, x', h3, j', h4, rfl⟩ := hc
      exact oneSound (op_indexVal ht h1 h2 h3 h4) rfl
    · cases hc
  | lookup t m k ok =>
    simp only [compOp, bind, pure] at hc
    split at hc
    · rename_i kt et ht
      simp only [Option.bind_eq_some_iff, Option.some.injEq] at hc
      obtain ⟨ck, h1, z, h2, m', h3, k', h4, rfl⟩ := hc
      exact oneSound (op_lookup ht h1 h2 h3 h4) rfl
    · cases hc
  | mapUpdate t m k v =>
    simp only [compOp, bind, pure] at hc
    split at hc
    · rename_i kt et ht
      simp only [Option.bind_eq_some_iff, Option.some.injEq] at hc
      obtain ⟨ck, h1, m', h2, k', h3, v', h4, rfl⟩ := hc
      exact oneSound (op_mapUpdate ht h1 h2 h3 h4) rfl
    · cases hc
  | insert t m k v =>
    simp only [compOp, bind, pure] at hc
    split at hc
    · rename_i kt et ht
      simp only [Option.bind_eq_some_iff, Option.some.injEq] at hc
      obtain ⟨ck, h1, m', h2, k', h3, v', h4, rfl⟩ := hc
      exact oneSound (op_insert ht h1 h2 h3 h4) rfl
    · cases hc
  | typeAssert x u t ok =>
    simp only [compOp, bind, pure] at hc
    split at hc
    · cases hc
    · rename_i d hn ht
      split at hc
      · rename_i hok
        subst hok
        simp only [Option.bind_eq_some_iff, Option.some.injEq] at hc
        obtain ⟨z, h1, x', h2, rfl⟩ := hc
        exact oneSound (op_assertT ht (fun ms h => hn ms (h ▸ rfl)) (fun _ => h1) h2) rfl
      · rename_i hok
        have hok' : ok = false := by simpa using hok
        subst hok'
        simp only [Option.bind_eq_some_iff, Option.some.injEq] at hc
        obtain ⟨x', h2, rfl⟩ := hc
        exact oneSound (op_assertT ht (fun ms h => hn ms (h ▸ rfl)) (fun h => by cases h) h2) rfl
    · cases hc
  | extract x i =>
    simp only [compOp, bind, Option.bind_eq_some_iff, pure, Option.some.injEq] at hc
    obtain ⟨y, h1, rfl⟩ := hc
    exact oneSound (op_extract h1) rfl
  | call c =>
    obtain ⟨callee, args, ats⟩ := c
    cases callee with
    | value v =>
      cases v with
      | func f =>
        simp only [compOp, bind, pure] at hc
        split at hc
        · rename_i fn hf
          split at hc
          · split at hc
            · cases hc
            · simp only [Option.bind_eq_some_iff, Option.some.injEq] at hc
              obtain ⟨xs, h1, rfl⟩ := hc
              exact callSound (op_call h1) rfl
          · cases hc
        · cases hc
      | tmp t =>
        simp only [compOp, bind, Option.bind_eq_some_iff, pure, Option.some.injEq] at hc
        obtain ⟨xs, h1, rfl⟩ := hc
        exact callSound (op_callV h1) rfl
      | _ => simp only [compOp] at hc; cases hc
    | builtin b =>
      simp only [compOp, bind, Option.bind_eq_some_iff, pure] at hc
      obtain ⟨xs, hxs, hc⟩ := hc
      split at hc
      · -- append
        rename_i s x t tx hat
        obtain ⟨sl, xl, rfl, h1, h2⟩ := two_args hxs
        have hat := arr2 hat
        subst hat
        split at hc
        · rename_i e d ht hd
          simp only [Option.bind_eq_some_iff] at hc
          obtain ⟨k, hk, hc⟩ := hc
          split at hc
          · cases hc
          · rename_i hk0
            simp only [Option.bind_eq_some_iff] at hc
            obtain ⟨z, hz, hc⟩ := hc
            split at hc
            · rename_i kd
              simp only [Option.bind_eq_some_iff] at hc
              obtain ⟨bb, hb, hc⟩ := hc
              split at hc
              · cases hc
              · rename_i hb4
                cases hc
                exact oneSound (op_appendN ht hd hk hk0 hz hb (by omega) h1 h2) rfl
            · rename_i e'
              simp only [Option.bind_eq_some_iff, Option.some.injEq] at hc
              obtain ⟨bb, hb, rfl⟩ := hc
              exact oneSound (op_append ht hd (.inl ⟨_, rfl⟩) hk hk0 hz hb h1 h2) rfl
            · simp only [Option.bind_eq_some_iff, Option.some.injEq] at hc
              obtain ⟨bb, hb, rfl⟩ := hc
              exact oneSound (op_append ht hd (.inr rfl) hk hk0 hz hb h1 h2) rfl
            · cases hc
        · cases hc
      · rename_i x t hat
        obtain ⟨xl, rfl, h1⟩ := one_arg hxs
        have hat := arr1 hat
        subst hat
        split at hc
        · rename_i e ht
          cases hc; exact oneSound (op_lenSl h1 ht) rfl
        · rename_i ht
          cases hc; exact oneSound (op_lenStr h1 ht) rfl
        · rename_i kt et ht
          cases hc; exact oneSound (op_lenMap h1 ht) rfl
        · rename_i n e ht
          cases hc; exact oneSound (op_lenArr ht) rfl
        · cases hc
      · rename_i x t hat
        obtain ⟨xl, rfl, h1⟩ := one_arg hxs
        have hat := arr1 hat
        subst hat
        split at hc
        · rename_i e ht
          cases hc; exact oneSound (op_capSl h1 ht) rfl
        · cases hc
      · rename_i d s t tx hat
        obtain ⟨dl, sl, rfl, h1, h2⟩ := two_args hxs
        have hat := arr2 hat
        subst hat
        split at hc
        · rename_i e ht
          simp only [Option.bind_eq_some_iff] at hc
          obtain ⟨k, hk, hc⟩ := hc
          split at hc
          · cases hc
          · rename_i hk0
            cases hc
            exact oneSound (op_copy ht hk hk0 h1 h2) rfl
        · cases hc
      · rename_i x t hat
        obtain ⟨xl, rfl, h1⟩ := one_arg hxs
        have hat := arr1 hat
        subst hat
        split at hc
        · rename_i e ht
          simp only [Option.bind_eq_some_iff] at hc
          obtain ⟨k, hk, hc⟩ := hc
          split at hc
          · cases hc
          · rename_i hk0
            simp only [Option.bind_eq_some_iff, Option.some.injEq] at hc
            obtain ⟨z, hz, rfl⟩ := hc
            exact oneSound (op_clearSl ht hk hk0 hz h1) rfl
        · rename_i kt et ht
          cases hc; exact oneSound (op_clearMap h1 ht) rfl
        · cases hc
      · rename_i m k t tk hat
        obtain ⟨ml, kl, rfl, h1, h2⟩ := two_args hxs
        have hat := arr2 hat
        subst hat
        split at hc
        · rename_i kt et ht
          simp only [Option.bind_eq_some_iff, Option.some.injEq] at hc
          obtain ⟨ck, hck, rfl⟩ := hc
          exact oneSound (op_delete ht hck h1 h2) rfl
        · cases hc
      · cases hc
        exact oneSound (op_max hxs) rfl
      · cases hc
        exact oneSound (op_min hxs) rfl
      · cases hc
    | _ => simp only [compOp] at hc; cases hc
  | _ => simp only [compOp] at hc; cases hc
end
end Go.Am

/-
  THE ABSTRACT MACHINE: what a run leaves alone.
-/
namespace Go.Am

theorem Fr.refl (s : St) : Fr s s := ⟨Nat.le_refl _, Nat.le_refl _, fun _ _ _ => rfl, fun _ _ h => h, fun _ h => h⟩
theorem Fr.trans {a b c : St} (h : Fr a b) (h' : Fr b c) : Fr a c where
  le := Nat.le_trans h.le h'.le
  low := Nat.le_trans h'.low h.low
  same g h1 h2 := by
    rw [h'.same g (Nat.lt_of_lt_of_le h1 h.le) h2, h.same g h1 (Nat.lt_of_lt_of_le h2 h'.low)]
  dom g h1 h2 := h'.dom g (fun h3 => h1 ⟨Nat.le_trans h.le h3.1, h3.2⟩) (h.dom g (fun h3 => h1 ⟨h3.1, Nat.lt_of_lt_of_le h3.2 h'.le⟩) h2)
  keep g h1 := h.keep g (h'.keep g h1)

theorem fr_new (s : St) (o : Ob) : Fr s { heap := s.heap.set s.next o, next := s.next + 1, low := s.low } where
  le := Nat.le_succ _
  low := Nat.le_refl _
  same g h1 _ := T.get_set_ne _ _ (by omega)
  dom g h1 h2 := by
    show (s.heap.set s.next o).get g = none
    have : g ≠ s.next := fun e => h1 ⟨by omega, by show g < s.next + 1; omega⟩
    rw [T.get_set_ne _ _ this, h2]
  keep g h := by
    by_cases e : g = s.next
    · subst e; simp [T.get_set] at h
    · simpa [T.get_set, e] using h
theorem fr_set {s : St} {g : Nat} {o : Ob} (h : s.heap.get g = some o) (o' : Ob) : Fr s { heap := s.heap.set g o', next := s.next, low := Nat.min s.low g } where
  le := Nat.le_refl _
  low := Nat.min_le_left _ _
  same g' h1 h2 := T.get_set_ne _ _ (by have h3 : Nat.min s.low g ≤ g := Nat.min_le_right _ _; have h4 : g' < Nat.min s.low g := h2; omega)
  dom g' h1 h2 := by
    show (s.heap.set g o').get g' = none
    have : g' ≠ g := fun e => by rw [e, h] at h2; cases h2
    rw [T.get_set_ne _ _ this, h2]
  keep g' h1 := by
    by_cases e : g' = g
    · subst e; simp [T.get_set] at h1
    · simpa [T.get_set, e] using h1
theorem fr_write {s s' : St} {g i v : Nat} {vs : List Value} (h : writeCells s g i v vs = .ok s') : Fr s s' := by
  unfold writeCells at h
  split at h
  · rename_i cells n minv hg
    rw [Bool.cond_eq_ite] at h
    split at h
    · cases h; exact fr_set hg _
    · cases h
  · cases h
  · cases h
theorem fr_map {s : St} {g : Nat} {r : List (Value × Value × Nat) × Nat} (h : getMap s g = .ok r) (es : List (Value × Value × Nat)) (c : Nat) : Fr s (setMap s g es c) := by
  unfold getMap at h
  split at h
  · rename_i hg; exact fr_set hg _
  · cases h
theorem fr_append {k bytes m : Nat} {s s' : St} {x v : Value} {new : List Value} (h : appendCells k bytes s x m new = .ok (v, s')) : Fr s s' := by
  unfold appendCells at h
  simp only [newRow, Bool.cond_eq_ite] at h
  split at h
  · split at h
    · cases h; exact .refl _
    · split at h
      · cases h; exact fr_new _ _
      · cases h
  · split at h
    · cases h; exact .refl _
    split at h
    · cases h
    split at h
    · cases h
    split at h
    · rename_i hg
      split at h
      · cases h
      split at h
      · cases h; exact fr_new _ _
      split at h
      · split at h
        · cases h; exact fr_set hg _
        · split at h
          · cases h
          cases h
          exact (fr_set hg .dead).trans (fr_new _ _)
      · cases h
    · cases h
  · cases h

theorem aop_fr {ms : Meths} {tm : T Value} {a : AOp} {s s' : St} {v : Value} (h : aop ms tm a s = .ok (.val v s')) : Fr s s' := by
  cases a
  all_goals simp only [aop, newRow, Bool.cond_eq_ite] at h
  all_goals (repeat' split at h)
  all_goals first
    | (cases h; done)
    | (cases h; exact .refl _)
    | (cases h; exact fr_new _ _)
    | (cases h; exact fr_write (by assumption))
    | (cases h; exact fr_map (by assumption) _ _)
    | (cases h; exact fr_append (by assumption))
    | (cases h; exact fr_set (by assumption) _)
theorem aop_call {ms : Meths} {tm : T Value} {a : AOp} {s s' : St} {f : Nat} {args : List Value} (h : aop ms tm a s = .ok (.call f args s')) : s' = s := by
  cases a
  all_goals simp only [aop, newRow, Bool.cond_eq_ite] at h
  all_goals (repeat' split at h)
  all_goals first
    | (cases h; done)
    | (cases h; rfl)

def FrCall (call : CallK) : Prop := ∀ f args s v s', call f args s = .ok (v, s') → Fr s s'

theorem runOp_fr {ms : Meths} {call : CallK} (hc : FrCall call) {tm : T Value} {a : AOp} {s s' : St} {v : Value} (h : runOp ms call tm a s = .ok (v, s')) : Fr s s' := by
  unfold runOp at h
  split at h
  · rename_i v1 s1 h1; cases h; exact aop_fr h1
  · rename_i f args s1 h1
    rw [aop_call h1] at h
    exact hc _ _ _ _ _ h
  · cases h
theorem runOps_fr {ms : Meths} {call : CallK} (hc : FrCall call) : ∀ {l : List AOper} {tm tm' : T Value} {s s' : St}, runOps ms call l tm s = .ok (tm', s') → Fr s s'
  | [], _, _, _, _, h => by simp only [runOps] at h; cases h; exact .refl _
  | o :: r, tm, tm', s, s', h => by
    simp only [runOps, Bool.cond_eq_ite] at h
    split at h
    · split at h
      · rename_i h1; exact (runOp_fr hc h1).trans (runOps_fr hc h)
      · cases h
    · exact runOps_fr hc h

theorem get_hide : ∀ (n a : Nat) (h : T Ob) (g : Nat), (hide a n h).get g = if a ≤ g ∧ g < a + n then none else h.get g
  | 0, a, h, g => by simp only [hide]; rw [if_neg (by omega)]
  | n + 1, a, h, g => by
    simp only [hide]
    rw [get_hide n (a + 1), T.get_del]
    by_cases e : g = a
    · subst e; simp
    · by_cases h1 : a + 1 ≤ g ∧ g < a + 1 + n
      · rw [if_pos h1, if_pos (by omega)]
      · rw [if_neg h1, if_neg e, if_neg (by omega)]
theorem get_layFrom : ∀ (n a : Nat) (src dst : T Ob) (g : Nat), (layFrom src a n dst).get g = if a ≤ g ∧ g < a + n ∧ (src.get g).isSome then src.get g else dst.get g
  | 0, a, src, dst, g => by simp only [layFrom]; rw [if_neg (by omega)]
  | n + 1, a, src, dst, g => by
    simp only [layFrom]
    cases ha : src.get a with
    | none =>
      simp only [get_layFrom n]
      by_cases e : g = a
      · subst e; simp [ha]
      · by_cases h1 : a + 1 ≤ g ∧ g < a + 1 + n ∧ (src.get g).isSome
        · rw [if_pos h1, if_pos ⟨by omega, by omega, h1.2.2⟩]
        · rw [if_neg h1, if_neg (fun h2 => h1 ⟨by omega, by omega, h2.2.2⟩)]
    | some o =>
      simp only [get_layFrom n, T.get_set]
      by_cases e : g = a
      · subst e; simp [ha]
      · by_cases h1 : a + 1 ≤ g ∧ g < a + 1 + n ∧ (src.get g).isSome
        · rw [if_pos h1, if_pos ⟨by omega, by omega, h1.2.2⟩]
        · rw [if_neg h1, if_neg e, if_neg (fun h2 => h1 ⟨by omega, by omega, h2.2.2⟩)]
theorem get_seenBy (anc : Nat) : ∀ (qs : Made) (h : T Ob) (g : Nat), (seenBy anc qs h).get g = none ∨ (seenBy anc qs h).get g = h.get g
  | [], h, g => .inr rfl
  | (j, a, n) :: r, h, g => by
    simp only [seenBy, Bool.cond_eq_ite]
    split
    · exact get_seenBy anc r h g
    · rcases get_seenBy anc r (hide a n h) g with e | e
      · exact .inl e
      · rw [get_hide] at e
        split at e
        · exact .inl e
        · exact .inr e
theorem get_seenBy_hid (anc : Nat) : ∀ (qs : Made) (h : T Ob) (g j a n : Nat), (j, a, n) ∈ qs → bit anc j = false → a ≤ g → g < a + n → (seenBy anc qs h).get g = none
  | q :: r, h, g, j, a, n, hm, hb, h1, h2 => by
    obtain ⟨j', a', n'⟩ := q
    simp only [seenBy, Bool.cond_eq_ite]
    rcases List.mem_cons.1 hm with e | hm
    · cases e
      rw [if_neg (by simp [hb])]
      rcases get_seenBy anc r (hide a n h) g with e | e
      · exact e
      · rw [e, get_hide, if_pos ⟨h1, h2⟩]
    · split
      · exact get_seenBy_hid anc r h g j a n hm hb h1 h2
      · exact get_seenBy_hid anc r _ g j a n hm hb h1 h2

theorem runDraw_fr {ms : Meths} {call : CallK} (hc : FrCall call) : ∀ {l : List AOper} {i : Nat} {ds : List (Nat × Done)} {qs : Made} {tm tm' : T Value} {s s' : St},
    runDraw ms call i l ds qs tm s = .ok (tm', s') → Fr s s'
  | [], _, _, _, _, _, _, _, h => by simp only [runDraw] at h; cases h; exact .refl _
  | o :: r, i, ds, qs, tm, tm', s, s', h => by
    simp only [runDraw, Bool.cond_eq_ite] at h
    split at h
    · split at h
      · split at h
        · rename_i h1; exact (runOp_fr hc h1).trans (runDraw_fr hc h)
        · cases h
      · split at h
        · rename_i h1; exact (runOp_fr hc h1).trans (runDraw_fr hc h)
        · cases h
      · split at h
        · split at h
          · split at h
            · split at h
              · rename_i h1; exact (runOp_fr hc h1).trans (runDraw_fr hc h)
              · cases h
            · cases h
          · cases h
        · cases h
      · split at h
        · split at h
          · split at h
            · split at h
              · rename_i h1; exact (runOp_fr hc h1).trans (runDraw_fr hc h)
              · cases h
            · cases h
          · cases h
        · cases h
      · split at h
        · split at h
          · rename_i v s1 h1
            have f1 := runOp_fr hc h1
            have e1 : Nat.min s.low s1.low ≤ s.low := Nat.min_le_left _ _
            have e2 : Nat.min s.low s1.low ≤ s1.low := Nat.min_le_right _ _
            split at h
            · rename_i hb
              have hb := Nat.le_of_ble_eq_true hb
              split at h
              · refine Fr.trans (b := ⟨s1.heap, s1.next, s.low⟩) ⟨f1.le, Nat.le_refl _, fun g g1 g2 => f1.same g g1 (Nat.lt_of_lt_of_le g1 hb), f1.dom, f1.keep⟩ (runDraw_fr hc h)
              · cases h
            · split at h
              · refine Fr.trans (b := ⟨s1.heap, s1.next, Nat.min s.low s1.low⟩) ⟨f1.le, e1, fun g g1 g2 => f1.same g g1 (Nat.lt_of_lt_of_le g2 e2), f1.dom, f1.keep⟩ (runDraw_fr hc h)
              · cases h
          · cases h
        · split at h
          · rename_i v s1 h1
            have f1 := runOp_fr hc h1
            have hle : s.next ≤ s1.next := f1.le
            split at h
            · refine Fr.trans (b := ⟨layFrom s1.heap s.next (s1.next - s.next) s.heap, s1.next, s.low⟩) ⟨f1.le, Nat.le_refl _, fun g g1 g2 => ?_, fun g g1 g2 => ?_, fun g g1 => ?_⟩ (runDraw_fr hc h)
              · simp only [get_layFrom]
                rw [if_neg (by omega)]
              · simp only [get_layFrom]
                rw [if_neg (fun h2 => g1 ⟨h2.1, by have := h2.2.1; show g < s1.next; omega⟩), g2]
              · simp only [get_layFrom] at g1
                split at g1
                · rename_i h2; rw [g1] at h2; simp at h2
                · exact g1
            · cases h
          · cases h
    · exact runDraw_fr hc h
theorem loopN_fr {F : T Value → St → R (AExit × T Value × St)} (hf : ∀ tm s e tm' s', F tm s = .ok (e, tm', s') → Fr s s') :
    ∀ {n : Nat} {tm : T Value} {s : St} {e : AExit} {tm' : T Value} {s' : St}, loopN F n tm s = .ok (e, tm', s') → Fr s s'
  | 0, _, _, _, _, _, h => by simp only [loopN] at h; cases h
  | n + 1, tm, s, e, tm', s', h => by
    simp only [loopN] at h
    split at h
    · rename_i h1; exact (hf _ _ _ _ _ h1).trans (loopN_fr hf h)
    · exact hf _ _ _ _ _ h
theorem exec_fr {ms : Meths} {call : CallK} (hc : FrCall call) (k : Nat) : ∀ {c : ACode} {tm : T Value} {s : St} {e : AExit} {tm' : T Value} {s' : St},
    exec ms call k c tm s = .ok (e, tm', s') → Fr s s'
  | .skip, _, _, _, _, _, h => by simp only [exec] at h; cases h; exact .refl _
  | .region ops, _, _, _, _, _, h => by
    simp only [exec] at h
    split at h
    · rename_i h1; cases h; exact runOps_fr hc h1
    · cases h
  | .draw ops, _, _, _, _, _, h => by
    simp only [exec] at h
    split at h
    · rename_i h1; cases h; exact runDraw_fr hc h1
    · cases h
  | .seq a b, _, _, _, _, _, h => by
    simp only [exec] at h
    split at h
    · rename_i h1; exact (exec_fr hc k h1).trans (exec_fr hc k h)
    · exact exec_fr hc k h
  | .cond c a b, _, _, _, _, _, h => by
    simp only [exec] at h
    split at h
    · exact exec_fr hc k h
    · exact exec_fr hc k h
    · cases h
  | .block id c, _, _, _, _, _, h => by
    simp only [exec, Bool.cond_eq_ite] at h
    split at h
    · rename_i h1
      split at h
      · cases h; exact exec_fr hc k h1
      · cases h; exact exec_fr hc k h1
    · exact exec_fr hc k h
  | .loop c, _, _, _, _, _, h => by
    simp only [exec] at h
    exact loopN_fr (fun _ _ _ _ _ h => exec_fr hc k h) h
  | .exit id, _, _, _, _, _, h => by simp only [exec] at h; cases h; exact .refl _
  | .ret, _, _, _, _, _, h => by simp only [exec] at h; cases h; exact .refl _
  | .none w, _, _, _, _, _, h => by simp only [exec] at h; cases h
theorem sortedKeys_fr {ck : CK} {fs : List Nat} {args : List Value} {s s' : St} {v : Value} (h : sortedKeys ck fs args s = .ok (v, s')) : Fr s s' := by
  unfold sortedKeys at h
  simp only [newRow, Bool.cond_eq_ite] at h
  repeat' split at h
  all_goals first
    | (cases h; done)
    | (cases h; exact .refl _)
    | (cases h; exact fr_new _ _)
theorem cloneStr_fr {args : List Value} {s s' : St} {v : Value} (h : cloneStr args s = .ok (v, s')) : Fr s s' := by
  unfold cloneStr at h
  simp only [Bool.cond_eq_ite] at h
  repeat' split at h
  all_goals first
    | (cases h; done)
    | (cases h; exact .refl _)
theorem acall_fr {tab : Nat → Option AFn} {ms : Meths} : ∀ (k : Nat), FrCall (acall tab ms k)
  | 0 => fun _ _ _ _ _ h => by simp only [acall] at h; cases h
  | k + 1 => fun f args s v s' h => by
    simp only [acall] at h
    split at h
    · split at h
      · cases h
      · rename_i h1
        have := exec_fr (acall_fr k) k h1
        split at h
        · cases h; exact this
        · cases h; exact this
        · cases h
      · cases h
    · exact sortedKeys_fr h
    · exact cloneStr_fr h
    · rename_i hp _; exact hp _ _ _ _ h
    · cases h
end Go.Am
