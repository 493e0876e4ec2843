/-
  THE ABSTRACT MACHINE: comparisons of structs and interfaces, indexes, slices, lengths.
-/
import Derived.Test.YtdmijaofelgonaaGreatDoorAmD
namespace Go.Am
open Go.MapKept

section
variable {P : Program}
variable {dst : Option Tmp} {type : TypeId} {pos : String} {after : Array Edge} {guard : Option (Nat × Bool)}

theorem ckAt_run {t : TypeId} {c : CK} (h : ckAt P t = some c) {x y : Value} {b : Bool} (hk : keyEq c x y = some b) (n : Nat) (w : World) :
    (Op.equalIn (n + 1) t x y).run P w = .ok b w ∧ isScal x = true ∧ isScal y = true := by
  unfold ckAt at h
  cases hd : P.underlying t with
  | none => simp [hd] at h
  | some d =>
    cases d <;> simp [hd] at h <;> subst h <;> cases x <;> cases y <;> simp [keyEq] at hk
    · subst hk; exact ⟨run_equalIn_bool' w n t _ _ hd, rfl, rfl⟩
    · rename_i k a k' b'
      cases hkk : decide (k = k') <;> simp [hkk] at hk
      simp at hkk
      subst hkk hk
      exact ⟨run_equalIn_int w n t _ _ _ _ hd, rfl, rfl⟩
    · subst hk
      refine ⟨?_, rfl, rfl⟩
      rw [run_equalIn_string w n t _ _ hd, beq_toListBytes]

theorem part_scal {t : TypeId} {c : CK} (h : ckAt P t = some c) {ys : List Value} {off : Nat} {v : Value} (hv : ys[off]? = some v) (w : World) :
    (part t ⟨ys⟩ off).run P w = .ok v w := by
  have ha : aggOf P t = some false := by
    unfold ckAt at h
    unfold aggOf
    cases hd : P.underlying t with
    | none => simp [hd] at h
    | some d => cases d <;> simp [hd] at h <;> rfl
  simp [part, run_aggOf ha, hv]

theorem eqFields_run {μ : Mu} {xs ys xs' ys' : List Value} (rx : LRel μ xs xs') (ry : LRel μ ys ys') (w : World) (n : Nat) : ∀ (fs : List Field) (l : List (Nat × CK)) (b : Bool),
    eqCells P fs = some l → eqAt xs ys l = .ok b → (Op.eqFields (n + 1) ⟨xs'⟩ ⟨ys'⟩ fs).run P w = .ok b w
  | [], l, b, hl, hb => by simp [eqCells] at hl; subst hl; simp [eqAt] at hb; subst hb; simp [Op.eqFields]
  | f :: fs, l, b, hl, hb => by
    unfold eqCells at hl
    split at hl
    · cases hl
    · rename_i hn
      split at hl <;> try cases hl
      rename_i c m hc hm
      simp only [eqAt, lget_eq] at hb
      split at hb <;> try cases hb
      rename_i x y hx hy
      obtain ⟨x', hx', vx⟩ := rx.get hx
      obtain ⟨y', hy', vy⟩ := ry.get hy
      simp only [Op.eqFields, ne_eq, hn, not_false_eq_true, if_true, Sem.run_bind, part_scal hc hx', part_scal hc hy', Result.andThen_ok]
      split at hb <;> try cases hb
      · rename_i hk
        obtain ⟨e1, e2, e3⟩ := ckAt_run (P := P) hc hk n w
        rw [scal_rel vx e2, scal_rel vy e3, e1]
        simp only [Result.andThen_ok]
        simpa using eqFields_run rx ry w n fs m b hm hb
      · rename_i hk
        obtain ⟨e1, e2, e3⟩ := ckAt_run (P := P) hc hk n w
        rw [scal_rel vx e2, scal_rel vy e3, e1]
        simp

theorem op_eqAgg {op : BinOp} {neg : Bool} (hn : op = .eql ∧ neg = false ∨ op = .neq ∧ neg = true) {t u : TypeId} {fs : Array Field} (ht : P.underlying t = some (.struct fs))
    (hg : P.eqGuardType P.depth t = false) (hs' : P.stoodInHeld t = false) {l : List (Nat × CK)} (hl : eqCells P fs.toList = some l)
    {x y : Operand} {x' y' : Opd} (hx : compOpd P x = some x') (hy : compOpd P y = some y') :
    OpSound P ⟨dst, .binOp op t x y u, type, pos, after, guard⟩ (.eqAgg neg l x' y') := by
  intro ms tm ρ μ s s' v w hi hr i hs hle
  clear hle
  have rx := hr x x' hx
  have ry := hr y y' hy
  have hf : P.fieldsOf t = fs := by simp [Program.fieldsOf, ht]
  simp only [aop] at hs
  split at hs <;> try cases hs
  rename_i as bs e1 e2
  rw [e1] at rx
  rw [e2] at ry
  generalize hX : ρ x = X at rx
  generalize hY : ρ y = Y at ry
  obtain ⟨as⟩ := as
  obtain ⟨bs⟩ := bs
  cases rx with
  | agg h1 h2 h3 =>
    cases ry with
    | agg k1 k2 k3 =>
      split at hs <;> cases hs
      rename_i b hb
      have he := eqFields_run (P := P) ⟨h1, h3⟩ ⟨k1, k3⟩ w 9998 fs.toList l b hl hb
      refine .same i.rel (vc := .bool (b != neg)) ?_ (.bool _)
      have hq : ∀ op A B, (eqGuard op t x y (.agg A) (.agg B)).run P w = .ok () w := fun op A B => run_eqGuard_agg w op t x y A B hg
      rcases hn with ⟨rfl, rfl⟩ | ⟨rfl, rfl⟩
      · simp only [execOp, hX, hY, Sem.run_bind, hq, Result.andThen_ok, run_eql_struct, run_equalIn_struct w 9999 t _ _ (hf ▸ ht) hs', hf, he]
        simp
      · simp only [execOp, hX, hY, Sem.run_bind, hq, Result.andThen_ok, run_neq_struct, run_equalIn_struct w 9999 t _ _ (hf ▸ ht) hs', hf, he]
        simp

theorem ckOf_mem {l : List (Nat × CK)} {t : Nat} {c : CK} (h : ckOf l t = some c) : (t, c) ∈ l := by
  induction l with
  | nil => simp [ckOf] at h
  | cons p r ih =>
    obtain ⟨t', c'⟩ := p
    simp only [ckOf] at h
    cases hb : Nat.beq t' t with
    | true => simp [hb] at h; subst h; have := Nat.eq_of_beq_eq_true hb; subst this; simp
    | false => simp [hb] at h; exact List.mem_cons_of_mem _ (ih h)
theorem ifaceTypes_spec {t : Nat} {c : CK} (h : (t, c) ∈ ifaceTypes P) : ∃ i, P.info? t = some i ∧ i.comparable = true ∧ ckAt P t = some c := by
  unfold ifaceTypes at h
  rw [List.mem_filterMap] at h
  obtain ⟨u, hmem, hu⟩ := h
  clear hmem
  split at hu <;> try cases hu
  rename_i i c' hi hc
  split at hu <;> cases hu
  rename_i hcmp
  exact ⟨i, hi, hcmp, hc⟩

theorem op_eqIface {op : BinOp} {neg : Bool} (hn : op = .eql ∧ neg = false ∨ op = .neq ∧ neg = true) {t u : TypeId} {ims : Array (String × TypeId)} (ht : P.underlying t = some (.interface ims))
    {x y : Operand} {x' y' : Opd} (hx : compOpd P x = some x') (hy : compOpd P y = some y') :
    OpSound P ⟨dst, .binOp op t x y u, type, pos, after, guard⟩ (.eqIface neg (ifaceTypes P) x' y') := by
  intro ms tm ρ μ s s' v w hi hr i hs hle
  clear hle
  have rx := hr x x' hx
  have ry := hr y y' hy
  simp only [aop] at hs
  have fin : ∀ {b : Bool} {X Y : Value}, ρ x = X → ρ y = Y → (∀ op, eqGuard op t x y X Y = pure ()) → (Op.equal t X Y).run P w = .ok b w →
      (Go.binOp .eql t X Y = (do pure (.bool (← Op.equal t X Y)) : Sem Value)) → (Go.binOp .neq t X Y = (do pure (.bool (!(← Op.equal t X Y))) : Sem Value)) →
      v = .bool (b != neg) → s' = s → OpOk P ρ ⟨dst, .binOp op t x y u, type, pos, after, guard⟩ w μ s v s' := by
    intro b X Y hX hY hg he b1 b2 hv hss
    subst hv hss
    refine .same i.rel (vc := .bool (b != neg)) ?_ (.bool _)
    rcases hn with ⟨rfl, rfl⟩ | ⟨rfl, rfl⟩
    · simp [execOp, hX, hY, hg, b1, he]
    · simp [execOp, hX, hY, hg, b2, he]
  split at hs
  · rename_i e1 e2
    cases hs
    rw [e1] at rx
    rw [e2] at ry
    generalize hX : ρ x = X at rx
    generalize hY : ρ y = Y at ry
    cases rx; cases ry
    exact fin (b := false) hX hY (fun op => eqGuard_nil_iface ..) (by simpa using run_equal_nils (nk := .iface) (a := true) (b := false) ht rfl rfl rfl (.inl rfl) w) rfl rfl (by simp) rfl
  · rename_i e1 e2
    cases hs
    rw [e1] at rx
    rw [e2] at ry
    generalize hX : ρ x = X at rx
    generalize hY : ρ y = Y at ry
    cases rx; cases ry
    exact fin (b := false) hX hY (fun op => eqGuard_at_iface ..) (by simpa using run_equal_nils (nk := .iface) (a := false) (b := true) ht rfl rfl rfl (.inr rfl) w) rfl rfl (by simp) rfl
  · rename_i ta va tb vb e1 e2
    rw [e1] at rx
    rw [e2] at ry
    generalize hX : ρ x = X at rx
    generalize hY : ρ y = Y at ry
    cases rx with
    | iface rx =>
      cases ry with
      | iface ry =>
        cases hb : Nat.beq ta tb with
        | false =>
          simp only [hb, cond_false] at hs
          cases hs
          have hne : ta ≠ tb := fun e => by subst e; simp at hb
          refine fin (b := false) hX hY (fun op => eqGuard_at_iface ..) ?_ rfl rfl (by simp) rfl
          show (Op.equalIn (9999 + 1) t _ _).run P w = _
          generalize (9999 : Nat) = n9
          simp only [Op.equalIn, Sem.run_bind, run_underlying ht, Result.andThen_ok]
          simp [hne]
        | true =>
          simp only [hb, cond_true] at hs
          have heq := Nat.eq_of_beq_eq_true hb
          subst heq
          split at hs <;> try cases hs
          rename_i ck hck
          split at hs <;> cases hs
          rename_i b hk
          obtain ⟨inf, hi1, hi2, hi3⟩ := ifaceTypes_spec (ckOf_mem hck)
          obtain ⟨e, s1, s2⟩ := ckAt_run (P := P) hi3 hk 9998 w
          have r1 := scal_rel rx s1
          have r2 := scal_rel ry s2
          rw [r1] at hX
          rw [r2] at hY
          refine fin (b := b) hX hY (fun op => eqGuard_at_iface ..) ?_ rfl rfl rfl rfl
          generalize hn' : (9998 + 1 : Nat) = n at e
          show (Op.equalIn (9998 + 1 + 1) t _ _).run P w = _
          rw [hn']
          simp only [Op.equalIn, Sem.run_bind, run_underlying ht, Result.andThen_ok]
          simp [run_info hi1, hi2, e]
  · cases hs

theorem op_lenSl {x : Operand} {x' : Opd} (hx : compOpd P x = some x') {t e : TypeId} (ht : P.underlying t = some (.slice e)) :
    OpSound P ⟨dst, .call { callee := .builtin .len, args := #[x], argTypes := #[t] }, type, pos, after, guard⟩ (.lenSl x') := by
  intro ms tm ρ μ s s' v w hi hr i hs hle
  clear hle
  have rx := hr x x' hx
  simp only [aop] at hs
  split at hs <;> cases hs
  rename_i a n m e1
  rw [e1] at rx
  generalize hX : ρ x = X at rx
  refine .same i.rel (vc := .int .i64 n) ?_ (.int _ _)
  cases rx <;> simp [execOp, resolve, invoke, BigFrame.builtin_len, hX, Builtin.len_, run_underlying ht, goInt]

theorem op_lenStr {x : Operand} {x' : Opd} (hx : compOpd P x = some x') {t : TypeId} (ht : P.underlying t = some .string) :
    OpSound P ⟨dst, .call { callee := .builtin .len, args := #[x], argTypes := #[t] }, type, pos, after, guard⟩ (.lenStr x') := by
  intro ms tm ρ μ s s' v w hi hr i hs hle
  clear hle
  have rx := hr x x' hx
  simp only [aop] at hs
  split at hs <;> cases hs
  rename_i b e1
  rw [e1] at rx
  have ex := scal_rel rx rfl
  refine .same i.rel ?_ (.int _ _)
  simp [execOp, resolve, invoke, BigFrame.builtin_len, ex, Builtin.len_, run_underlying ht, goInt]

theorem op_lenArr {x : Operand} {t : TypeId} {n : Nat} {e : TypeId} (ht : P.underlying t = some (.array n e)) :
    OpSound P ⟨dst, .call { callee := .builtin .len, args := #[x], argTypes := #[t] }, type, pos, after, guard⟩ (.mv (.const (.int .i64 n))) := by
  intro ms tm ρ μ s s' v w hi hr i hs hle
  clear hle
  simp only [aop] at hs
  cases hs
  refine .same i.rel (vc := .int .i64 n) ?_ (.int _ _)
  cases hX : ρ x <;> simp [execOp, resolve, invoke, BigFrame.builtin_len, hX, Builtin.len_, run_underlying ht, goInt]

theorem op_capSl {x : Operand} {x' : Opd} (hx : compOpd P x = some x') {t e : TypeId} (ht : P.underlying t = some (.slice e)) :
    OpSound P ⟨dst, .call { callee := .builtin .cap, args := #[x], argTypes := #[t] }, type, pos, after, guard⟩ (.capSl x') := by
  intro ms tm ρ μ s s' v w hi hr i hs hle
  clear hle
  have rx := hr x x' hx
  simp only [aop] at hs
  split at hs
  · rename_i n m e1
    rw [e1] at rx
    generalize hX : ρ x = X at rx
    cases rx
    simp only [show Nat.beq 0 0 = true from rfl, cond_true] at hs
    cases hs
    exact .same i.rel (vc := .int .i64 0) (by simp [execOp, resolve, invoke, BigFrame.builtin_cap, hX, Builtin.cap_, run_underlying ht, goInt]) (.int _ _)
  · rename_i a n m hne e1
    rw [e1] at rx
    generalize hX : ρ x = X at rx
    cases hb : Nat.beq (m % 2) 1 with
    | false => simp [hb] at hs
    | true =>
      simp only [hb, cond_true] at hs
      cases hs
      cases rx with
      | slNil => exact (hne rfl).elim
      | sl h1 h2 h3 h4 h5 h6 =>
        have hc := h6 (Nat.eq_of_beq_eq_true hb)
        subst hc
        exact .same i.rel (by simp [execOp, resolve, invoke, BigFrame.builtin_cap, hX, Builtin.cap_, run_underlying ht, goInt]) (.int _ _)
  · cases hs

theorem asNat_some {n : Int} {k : Nat} (h : asNat n = some k) : n = (k : Int) := by
  cases n <;> simp [asNat] at h
  subst h; rfl

theorem op_indexSl {t e : TypeId} {k : Nat} (ht : P.underlying t = some (.slice e)) (hk : szOf P e = some k) {x j : Operand} {x' j' : Opd} (hx : compOpd P x = some x') (hj : compOpd P j = some j') :
    OpSound P ⟨dst, .indexAddr t x j, type, pos, after, guard⟩ (.indexSl k x' j') := by
  intro ms tm ρ μ s s' v w hi hr i hs hle
  clear hle
  have rx := hr x x' hx
  have rj := hr j j' hj
  simp only [aop] at hs
  split at hs <;> try cases hs
  rename_i g b u n m kd jj e1 e2
  split at hs <;> try cases hs
  rename_i jn hjn
  rw [e1] at rx
  rw [e2] at rj
  have ej := scal_rel rj rfl
  have hjj := asNat_some hjn
  subst hjj
  generalize hX : ρ x = X at rx
  cases hb : (Nat.blt jn n && Nat.beq (m / 2) k) with
  | false => simp [hb] at hs
  | true =>
    simp only [hb, cond_true] at hs
    simp only [Bool.and_eq_true, Nat.blt_eq, Nat.beq_eq] at hb
    cases hs
    cases rx with
    | sl h1 h2 h3 h4 h5 h6 =>
      rename_i a c l
      obtain ⟨ha, _⟩ := h5 (by omega)
      subst ha
      refine .same i.rel (vc := .pointer (some ⟨l.b, l.s + (b + jn * k), none⟩)) ?_ (.ptr h1)
      have h0 : (0 : Int) ≤ (jn : Int) ∧ (jn : Int) < (n : Int) := by omega
      simp [execOp, hX, ej, Instr.indexAt, asIntOf, run_underlying ht, hb.1, run_szOf hk, Addr.add_lit, Nat.add_assoc]

theorem op_indexArr {t e : TypeId} {k n : Nat} (ht : P.underlying t = some (.array n e)) (hk : szOf P e = some k) {x j : Operand} {x' j' : Opd} (hx : compOpd P x = some x') (hj : compOpd P j = some j') :
    OpSound P ⟨dst, .indexAddr t x j, type, pos, after, guard⟩ (.indexArr n k x' j') := by
  intro ms tm ρ μ s s' v w hi hr i hs hle
  clear hle
  have rx := hr x x' hx
  have rj := hr j j' hj
  simp only [aop] at hs
  split at hs <;> try cases hs
  rename_i g b u kd jj e1 e2
  split at hs <;> try cases hs
  rename_i jn hjn
  rw [e1] at rx
  rw [e2] at rj
  have ej := scal_rel rj rfl
  have hjj := asNat_some hjn
  subst hjj
  generalize hX : ρ x = X at rx
  cases hb : (Nat.blt jn n) with
  | false => simp [hb] at hs
  | true =>
    simp only [hb, cond_true] at hs
    simp only [Nat.blt_eq] at hb
    cases hs
    cases rx with
    | ptr h1 =>
      rename_i l
      refine .same i.rel (vc := .pointer (some ⟨l.b, l.s + (b + jn * k), none⟩)) ?_ (.ptr h1)
      simp [execOp, hX, ej, Instr.indexAt, Instr.sureAddr, asIntOf, run_underlying ht, hb, run_szOf hk, Addr.add_lit, Nat.add_assoc]

theorem op_indexStr {t : TypeId} (ht : P.underlying t = some .string) {x j : Operand} {x' j' : Opd} (hx : compOpd P x = some x') (hj : compOpd P j = some j') :
    OpSound P ⟨dst, .index t x j, type, pos, after, guard⟩ (.indexStr x' j') := by
  intro ms tm ρ μ s s' v w hi hr i hs hle
  clear hle
  have rx := hr x x' hx
  have rj := hr j j' hj
  simp only [aop] at hs
  split at hs <;> try cases hs
  rename_i b kd jj e1 e2
  split at hs <;> try cases hs
  rename_i jn hjn
  rw [e1] at rx
  rw [e2] at rj
  have ex := scal_rel rx rfl
  have ej := scal_rel rj rfl
  have hjj := asNat_some hjn
  subst hjj
  split at hs <;> cases hs
  rename_i c hc
  rw [lget_eq] at hc
  obtain ⟨⟨bl⟩⟩ := b
  have hget : (⟨⟨bl⟩⟩ : ByteArray)[jn]? = some c := by
    rw [show (⟨⟨bl⟩⟩ : ByteArray)[jn]? = if h : jn < (⟨⟨bl⟩⟩ : ByteArray).size then some (⟨⟨bl⟩⟩ : ByteArray)[jn] else none from rfl]
    have hlt : jn < bl.length := by
      rcases Nat.lt_or_ge jn bl.length with h | h
      · exact h
      · simp [List.getElem?_eq_none h] at hc
    have hlt' : jn < (⟨⟨bl⟩⟩ : ByteArray).size := hlt
    rw [dif_pos hlt']
    have : bl[jn]? = some bl[jn] := List.getElem?_eq_getElem hlt
    have hc' : bl[jn]? = some c := hc
    rw [this] at hc'
    cases hc'
    rfl
  refine .same i.rel ?_ (.int _ _)
  simp [execOp, ex, ej, Instr.index, asIntOf, run_underlying ht, hget]

theorem op_indexVal {t e : TypeId} {k n : Nat} {agg : Bool} (ht : P.underlying t = some (.array n e)) (ha : aggOf P e = some agg) (hk : szOf P e = some k) {x j : Operand} {x' j' : Opd}
    (hx : compOpd P x = some x') (hj : compOpd P j = some j') :
    OpSound P ⟨dst, .index t x j, type, pos, after, guard⟩ (.indexVal agg n k x' j') := by
  intro ms tm ρ μ s s' v w hi hr i hs hle
  clear hle
  have rx := hr x x' hx
  have rj := hr j j' hj
  simp only [aop] at hs
  split at hs <;> try cases hs
  rename_i cs kd jj e1 e2
  split at hs <;> try cases hs
  rename_i jn hjn
  rw [e1] at rx
  rw [e2] at rj
  have ej := scal_rel rj rfl
  have hjj := asNat_some hjn
  subst hjj
  generalize hX : ρ x = X at rx
  obtain ⟨cs⟩ := cs
  cases hb : (Nat.blt jn n) with
  | false => simp [hb] at hs
  | true =>
    simp only [hb, cond_true] at hs
    simp only [Nat.blt_eq] at hb
    cases rx with
    | agg hl ho hp =>
      have key : (bif agg then R.ok (Value.agg ⟨(cs.drop (jn * k)).take k⟩) else match lget cs (jn * k) with | some v => .ok v | none => .no "") = .ok v ∧ s' = s := by
        cases agg with
        | true => simp only [cond_true] at hs ⊢; cases hs; exact ⟨rfl, rfl⟩
        | false =>
          simp only [cond_false] at hs ⊢
          split at hs <;> cases hs
          rename_i hu
          have hu' : lget cs (jn * k) = some v := hu
          simp [hu']
      obtain ⟨hk', rfl⟩ := key
      obtain ⟨y', hy, hv⟩ := run_part (P := P) (off := jn * k) ha hk ⟨hl, hp⟩ ho w hk'
      exact .same i.rel (by simp [execOp, hX, ej, Instr.index, asIntOf, run_underlying ht, hb, run_szOf hk, hy]) hv

theorem op_assertT {t u : TypeId} {d : TypeDesc} (hd : P.underlying t = some d) (hn : ∀ ms, d ≠ .interface ms) {ok : Bool} {z : Value} (hz : ok = true → zeroOf P t = some z)
    {x : Operand} {x' : Opd} (hx : compOpd P x = some x') :
    OpSound P ⟨dst, .typeAssert x u t ok, type, pos, after, guard⟩ (.assertT t ok z x') := by
  intro ms tm ρ μ s s' v w hi hr i hs hle
  clear hle
  have rx := hr x x' hx
  have run : ∀ X, ρ x = X → ∀ (r : Result Value), (Instr.typeAssert X u t ok).run P w = r → (execOp ρ ⟨dst, .typeAssert x u t ok, type, pos, after, guard⟩).run P w = r.andThen fun v w => .ok (.value v) w := by
    intro X hX r hr
    simp [execOp, hX, hr]
  simp only [aop] at hs
  split at hs
  · rename_i e1
    rw [e1] at rx
    generalize hX : ρ x = X at rx
    cases rx
    cases ok with
    | false => simp at hs
    | true =>
      simp only [cond_true] at hs
      cases hs
      obtain ⟨hzr, hzp⟩ := run_zeroOf (hz rfl) w
      refine .same i.rel (vc := .tuple #[z, .bool false]) ?_ (.tuple rfl (LRel.cons (plain1_rel hzp) (.cons (.bool _) (.nil μ))).2)
      rw [run _ hX _ rfl]
      cases d <;> first | exact absurd rfl (hn _) | simp [Instr.typeAssert, run_underlying hd, hzr]
  · rename_i tu vv e1
    rw [e1] at rx
    generalize hX : ρ x = X at rx
    cases rx with
    | iface rv =>
      rename_i v'
      cases hb : Nat.beq tu t with
      | true =>
        have heq := Nat.eq_of_beq_eq_true hb
        subst heq
        simp only [hb, cond_true] at hs
        cases hs
        cases ok with
        | true =>
          refine .same i.rel (vc := .tuple #[v', .bool true]) ?_ (.tuple rfl (LRel.cons rv (.cons (.bool _) (.nil μ))).2)
          rw [run _ hX _ rfl]
          cases d <;> first | exact absurd rfl (hn _) | simp [Instr.typeAssert, run_underlying hd]
        | false =>
          refine .same i.rel (vc := v') ?_ rv
          rw [run _ hX _ rfl]
          cases d <;> first | exact absurd rfl (hn _) | simp [Instr.typeAssert, run_underlying hd]
      | false =>
        have hne : tu ≠ t := fun e => by subst e; simp at hb
        simp only [hb, cond_false] at hs
        cases ok with
        | false => simp at hs
        | true =>
          simp only [cond_true] at hs
          cases hs
          obtain ⟨hzr, hzp⟩ := run_zeroOf (hz rfl) w
          refine .same i.rel (vc := .tuple #[z, .bool false]) ?_ (.tuple rfl (LRel.cons (plain1_rel hzp) (.cons (.bool _) (.nil μ))).2)
          rw [run _ hX _ rfl]
          cases d <;> first | exact absurd rfl (hn _) | simp [Instr.typeAssert, run_underlying hd, hzr, hne]
  · cases hs
end
end Go.Am

/-
  THE ABSTRACT MACHINE: slices of slices and texts, the least and the greatest, what is made of slots alone.
-/
namespace Go.Am
open Go.MapKept

section
variable {P : Program}
variable {dst : Option Tmp} {type : TypeId} {pos : String} {after : Array Edge} {guard : Option (Nat × Bool)}

theorem bound_run {μ : Mu} {x X : Value} {y k : Nat} (h : bound x y = .ok k) (rx : VRel μ x X) {y' : Nat} (hy : y ≤ y') (code : BoundsCode) (w : World) :
    (Instr.sliceBound X y' code).run P w = .ok k w ∧ k ≤ y := by
  unfold bound at h
  split at h <;> try cases h
  rename_i kd n
  split at h <;> try cases h
  rename_i k' hk
  cases hb : Nat.ble k' y with
  | false => simp [hb] at h
  | true =>
    simp only [hb, cond_true] at h
    cases h
    rw [Nat.ble_eq] at hb
    have := asNat_some hk
    subst this
    have := scal_rel rx rfl
    subst this
    refine ⟨?_, hb⟩
    have : (k : Int) ≤ (y' : Int) := by omega
    simp [Instr.sliceBound, asIntOf]
    omega

theorem compOpt_some {o : Option Operand} {o' : Option Opd} (h : compOpt P o = some o') : (o = none ∧ o' = none) ∨ ∃ x x', o = some x ∧ o' = some x' ∧ compOpd P x = some x' := by
  cases o with
  | none => simp [compOpt] at h; exact .inl ⟨rfl, h.symm⟩
  | some x =>
    cases hx : compOpd P x with
    | none => simp [compOpt, hx] at h
    | some x' => simp [compOpt, hx] at h; exact .inr ⟨x, x', rfl, h.symm, hx⟩

theorem bounds_two {μ : Mu} {tm : T Value} {ρ : Operand → Value} (hr : ORels P μ tm ρ) {lo hi : Option Operand} {lo' hi' : Option Opd} (hlo : compOpt P lo = some lo') (hhi : compOpt P hi = some hi')
    {n cap h l : Nat} (hc : n ≤ cap) (e1 : optBound tm n n hi' = .ok h) (e2 : optBound tm 0 h lo' = .ok l) (isSlice : Bool) (w : World) :
    (Instr.sliceBounds isSlice n cap (lo.map ρ) (hi.map ρ) none).run P w = .ok (l, h, cap) w ∧ h ≤ n ∧ l ≤ h := by
  rcases compOpt_some hhi with ⟨rfl, rfl⟩ | ⟨x, x', rfl, rfl, hx⟩
  · simp only [optBound] at e1
    cases e1
    rcases compOpt_some hlo with ⟨rfl, rfl⟩ | ⟨z, z', rfl, rfl, hz⟩
    · simp only [optBound] at e2
      cases e2
      exact ⟨by simp [Instr.sliceBounds], Nat.le_refl _, Nat.zero_le _⟩
    · simp only [optBound] at e2
      have := fun code => bound_run (P := P) e2 (hr z z' hz) (Nat.le_refl _) code w
      exact ⟨by simp [Instr.sliceBounds, this], Nat.le_refl _, (this .index).2⟩
  · simp only [optBound] at e1
    have k1 := fun code => bound_run (P := P) e1 (hr x x' hx) hc code w
    rcases compOpt_some hlo with ⟨rfl, rfl⟩ | ⟨z, z', rfl, rfl, hz⟩
    · simp only [optBound] at e2
      cases e2
      exact ⟨by simp [Instr.sliceBounds, k1], (k1 .index).2, Nat.zero_le _⟩
    · simp only [optBound] at e2
      have k2 := fun code => bound_run (P := P) e2 (hr z z' hz) (Nat.le_refl _) code w
      exact ⟨by simp [Instr.sliceBounds, k1, k2], (k1 .index).2, (k2 .index).2⟩

theorem bounds_three {μ : Mu} {tm : T Value} {ρ : Operand → Value} (hr : ORels P μ tm ρ) {lo hi : Option Operand} {lo' hi' : Option Opd} {z : Operand} {z' : Opd} (hlo : compOpt P lo = some lo') (hhi : compOpt P hi = some hi')
    (hz : compOpd P z = some z') {n cap m h l : Nat} (hc : n ≤ cap) (e0 : bound (opd tm z') n = .ok m) (e1 : optBound tm n m hi' = .ok h) (hhm : h = m) (e2 : optBound tm 0 h lo' = .ok l) (w : World)
    (hne : hi ≠ none) :
    (Instr.sliceBounds true n cap (lo.map ρ) (hi.map ρ) (some (ρ z))).run P w = .ok (l, h, m) w ∧ h ≤ n ∧ l ≤ h := by
  have k0 := fun code => bound_run (P := P) e0 (hr z z' hz) hc code w
  rcases compOpt_some hhi with ⟨rfl, rfl⟩ | ⟨x, x', rfl, rfl, hx⟩
  · exact absurd rfl hne
  · simp only [optBound] at e1
    have k1 := fun code => bound_run (P := P) e1 (hr x x' hx) (Nat.le_refl _) code w
    have hn : h ≤ n := Nat.le_trans (k1 .index).2 (k0 .index).2
    rcases compOpt_some hlo with ⟨rfl, rfl⟩ | ⟨y, y', rfl, rfl, hy⟩
    · simp only [optBound] at e2
      cases e2
      exact ⟨by simp [Instr.sliceBounds, k0, k1], hn, Nat.zero_le _⟩
    · simp only [optBound] at e2
      have k2 := fun code => bound_run (P := P) e2 (hr y y' hy) (Nat.le_refl _) code w
      exact ⟨by simp [Instr.sliceBounds, k0, k1, k2], hn, (k2 .index).2⟩

theorem op_sliceStr {t : TypeId} (ht : P.underlying t = some .string) {x : Operand} {x' : Opd} (hx : compOpd P x = some x') {lo hi : Option Operand} {lo' hi' : Option Opd}
    (hlo : compOpt P lo = some lo') (hhi : compOpt P hi = some hi') :
    OpSound P ⟨dst, .slice t x lo hi none, type, pos, after, guard⟩ (.sliceStr x' lo' hi') := by
  intro ms tm ρ μ s s' v w hi2 hr i hs hle
  clear hle
  have rx := hr x x' hx
  simp only [aop] at hs
  split at hs <;> try cases hs
  rename_i b e1
  rw [e1] at rx
  have ex := scal_rel rx rfl
  split at hs <;> try cases hs
  rename_i h e2
  split at hs <;> cases hs
  rename_i l e3
  obtain ⟨hb, h1, h2⟩ := bounds_two hr hlo hhi (Nat.le_refl b.size) e2 e3 false w
  refine .same i.rel ?_ (.str _)
  simp [execOp, ex, Instr.sliceAt, Instr.slice, run_underlying ht, hb]

theorem sealed_half (k : Nat) (b : Bool) : (2 * k + (bif b then 1 else 0)) / 2 = k ∧ ((2 * k + (bif b then 1 else 0)) % 2 = 1 → b = true) := by
  cases b <;> simp <;> omega

theorem op_sliceSl {t e : TypeId} {k : Nat} (ht : P.underlying t = some (.slice e)) (hk : szOf P e = some k) (hk0 : k ≠ 0) {x : Operand} {x' : Opd} (hx : compOpd P x = some x')
    {lo hi mx : Option Operand} {lo' hi' mx' : Option Opd} (hlo : compOpt P lo = some lo') (hhi : compOpt P hi = some hi') (hmx : compOpt P mx = some mx') (hm : mx ≠ none → hi ≠ none) :
    OpSound P ⟨dst, .slice t x lo hi mx, type, pos, after, guard⟩ (.sliceSl k x' lo' hi' mx') := by
  intro ms tm ρ μ s s' v w hi2 hr i hs hle
  clear hle
  have rx := hr x x' hx
  simp only [aop] at hs
  split at hs
  · rename_i e1
    rw [e1] at rx
    generalize hX : ρ x = X at rx
    cases rx
    split at hs <;> cases hs
    rename_i a b c f1 f2 f3
    rcases compOpt_some hmx with ⟨rfl, rfl⟩ | ⟨z, z', rfl, rfl, hz⟩
    · have hb' : b ≤ 0 := by
        rcases compOpt_some hhi with ⟨rfl, rfl⟩ | ⟨y, y', rfl, rfl, hy⟩
        · simp only [optBound] at f2; cases f2; exact Nat.le_refl _
        · simp only [optBound] at f2; exact (bound_run (P := P) f2 (hr y y' hy) (Nat.le_refl _) .index w).2
      have hb0 : b = 0 := by omega
      subst hb0
      obtain ⟨hb, h1, h2⟩ := bounds_two hr hlo hhi (Nat.le_refl 0) f2 f3 true w
      have hc0 : c = 0 := by omega
      subst hc0
      exact .same i.rel (by simp [execOp, hX, Instr.sliceAt, Instr.slice, run_underlying ht, hb, run_szOf hk]) .slNil
    · have ha0 : a = 0 := by
        simp only [optBound] at f1
        have := (bound_run (P := P) f1 (hr z z' hz) (Nat.le_refl _) .index w).2
        omega
      subst ha0
      have hb0 : b = 0 := by
        rcases compOpt_some hhi with ⟨rfl, rfl⟩ | ⟨y, y', rfl, rfl, hy⟩
        · simp only [optBound] at f2; cases f2; rfl
        · simp only [optBound] at f2; have := (bound_run (P := P) f2 (hr y y' hy) (Nat.le_refl _) .index w).2; omega
      subst hb0
      simp only [optBound] at f1
      obtain ⟨hb, h1, h2⟩ := bounds_three hr hlo hhi hz (Nat.le_refl 0) f1 f2 rfl f3 w (hm (by simp))
      have hc0 : c = 0 := by omega
      subst hc0
      exact .same i.rel (by simp [execOp, hX, Instr.sliceAt, Instr.slice, run_underlying ht, hb, run_szOf hk]) .slNil
  · rename_i g a u n m e1
    rw [e1] at rx
    generalize hX : ρ x = X at rx
    cases hkk : Nat.beq (m / 2) k with
    | false => simp [hkk] at hs
    | true =>
      simp only [hkk, Bool.not_true, cond_false] at hs
      have hkm := Nat.eq_of_beq_eq_true hkk
      cases rx with
      | sl h1 h2 h3 h4 h5 h6 =>
        rename_i ad c loc
        rw [hkm] at h2 h3 h5
        have fin : ∀ (l h m' : Nat) (sd : Bool), (Instr.sliceBounds true n c (lo.map ρ) (hi.map ρ) (mx.map ρ)).run P w = .ok (l, h, m') w → h ≤ n → l ≤ h → h ≤ m' → m' ≤ c → (sd = true → m' = h) →
            OpOk P ρ ⟨dst, .slice t x lo hi mx, type, pos, after, guard⟩ w μ s (.slice (some ⟨g, a + l * k, some u⟩) (h - l) (2 * k + (bif sd then 1 else 0))) s := by
          intro l h m' sd hb b1 b2 b3 b4 b5
          obtain ⟨q1, q2⟩ := sealed_half k sd
          have m1 : a + l * k + (h - l) * k ≤ a + n * k := by
            have : (l + (h - l)) * k ≤ n * k := Nat.mul_le_mul_right k (by omega)
            rw [Nat.add_mul] at this
            omega
          have m2 : l * k + (m' - l) * k ≤ c * k := by
            rw [← Nat.add_mul]
            exact Nat.mul_le_mul_right k (by omega)
          refine .same i.rel (vc := .slice (if m' = l then some ad else (some ad).map (·.add (l * k))) (h - l) (m' - l)) ?_ ?_
          · simp [execOp, hX, Instr.sliceAt, Instr.slice, run_underlying ht, hb, run_szOf hk]
          · have hrel : ∀ ad', (m' - l ≠ 0 → ad' = ⟨loc.b, loc.s + (a + l * k), none⟩) →
                VRel μ (.slice (some ⟨g, a + l * k, some u⟩) (h - l) (2 * k + (bif sd then 1 else 0))) (.slice (some ad') (h - l) (m' - l)) := by
              intro ad' had
              refine .sl h1 (by rw [q1]; omega) (by rw [q1]; omega) (by omega) (fun hne => ⟨had hne, ?_⟩) (fun hodd => ?_)
              · rw [q1]
                have := (h5 (by omega)).2
                omega
              · have := b5 (q2 hodd)
                omega
            by_cases hml : m' = l
            · rw [if_pos hml]
              exact hrel ad (fun hne => absurd (by omega) hne)
            · rw [if_neg hml]
              obtain ⟨had, _⟩ := h5 (by omega)
              refine hrel _ (fun _ => ?_)
              subst had
              show Addr.add _ _ = _
              rw [Addr.add_lit, Nat.add_assoc]
        split at hs
        · rcases compOpt_some hmx with ⟨rfl, hq⟩ | ⟨z, z', rfl, hq, hz⟩
          · split at hs <;> try cases hs
            rename_i h e2
            split at hs <;> cases hs
            rename_i l e3
            obtain ⟨hb, b1, b2⟩ := bounds_two hr hlo hhi h4 e2 e3 true w
            refine fin l h c _ hb b1 b2 (by omega) (Nat.le_refl _) (fun hsd => ?_)
            simp only [Bool.and_eq_true, Nat.beq_eq] at hsd
            rw [h6 hsd.1, hsd.2]
          · cases hq
        · rename_i o
          rcases compOpt_some hmx with ⟨rfl, hq⟩ | ⟨z, z', rfl, hq, hz⟩
          · cases hq
          · cases hq
            split at hs <;> try cases hs
            rename_i m' e0
            split at hs <;> try cases hs
            rename_i h e2
            cases hhm : Nat.beq h m' with
            | false => simp [hhm] at hs
            | true =>
              simp only [hhm, Bool.not_true, cond_false] at hs
              have hhm' := Nat.eq_of_beq_eq_true hhm
              split at hs <;> cases hs
              rename_i l e3
              obtain ⟨hb, b1, b2⟩ := bounds_three hr hlo hhi hz h4 e0 e2 hhm' e3 w (hm (by simp))
              have := fin l h m' true hb b1 b2 (by omega) (by omega) (fun _ => hhm'.symm)
              simpa using this
  · cases hs

theorem op_sliceArr {t e : TypeId} {n k : Nat} (ht : P.underlying t = some (.array n e)) (hk : szOf P e = some k) (hk0 : k ≠ 0) {x : Operand} {x' : Opd} (hx : compOpd P x = some x')
    {lo hi : Option Operand} {lo' hi' : Option Opd} (hlo : compOpt P lo = some lo') (hhi : compOpt P hi = some hi') :
    OpSound P ⟨dst, .slice t x lo hi none, type, pos, after, guard⟩ (.sliceArr n k x' lo' hi') := by
  intro ms tm ρ μ s s' v w hi2 hr i hs hle
  clear hle
  have rx := hr x x' hx
  simp only [aop] at hs
  split at hs <;> try cases hs
  rename_i g a u e1
  rw [e1] at rx
  generalize hX : ρ x = X at rx
  cases rx with
  | ptr h1 =>
    rename_i loc
    have hfit' := (i.rel.fit g u loc h1).1
    cases hb0 : Nat.ble (a + n * k) u with
    | false => simp [hb0] at hs
    | true =>
      simp only [hb0, cond_true] at hs
      rw [Nat.ble_eq] at hb0
      split at hs <;> try cases hs
      rename_i h e2
      split at hs <;> cases hs
      rename_i l e3
      obtain ⟨hb, b1, b2⟩ := bounds_two hr hlo hhi (Nat.le_refl n) e2 e3 false w
      obtain ⟨q1, q2⟩ := sealed_half k (Nat.beq h n)
      have m1 : (l + (h - l)) * k ≤ n * k := Nat.mul_le_mul_right k (by omega)
      have m2 : (l + (n - l)) * k ≤ n * k := Nat.mul_le_mul_right k (by omega)
      rw [Nat.add_mul] at m1 m2
      refine .same i.rel (vc := .slice (some (if n = l then ⟨loc.b, loc.s + a, none⟩ else Addr.add ⟨loc.b, loc.s + a, none⟩ (l * k))) (h - l) (n - l)) ?_ ?_
      · simp [execOp, hX, Instr.sliceAt, Instr.sureAddr, run_underlying ht, hb, run_szOf hk]
      · refine .sl h1 (by rw [q1]; omega) (by rw [q1]; omega) (by omega) (fun hne => ⟨?_, ?_⟩) (fun hodd => ?_)
        · rw [if_neg (by omega), Addr.add_lit, Nat.add_assoc]
        · rw [q1]; omega
        · have := Nat.eq_of_beq_eq_true (q2 hodd); omega

-- the least and the greatest
theorem max_run {μ : Mu} (w : World) : ∀ (r R : List Value) (x X : Value) (v : Value), VRel μ x X → LRel μ r R → foldR max2 x r = .ok v →
    ∃ V, (R.foldlM Builtin.max2 X : Sem Value).run P w = .ok V w ∧ VRel μ v V
  | [], R, x, X, v, rx, rr, h => by
    have : R = [] := by have := rr.1; simpa using this.symm
    subst this
    simp only [foldR] at h
    cases h
    exact ⟨X, by simp, rx⟩
  | y :: r, [], x, X, v, rx, rr, h => by have := rr.1; simp at this
  | y :: r, Y :: R, x, X, v, rx, rr, h => by
    obtain ⟨ry, rr'⟩ := rr.uncons
    simp only [foldR] at h
    split at h <;> try cases h
    rename_i z hz
    unfold max2 at hz
    split at hz <;> try cases hz
    rename_i k a k' b
    have ex := scal_rel rx rfl
    have ey := scal_rel ry rfl
    obtain ⟨V, hV, hv⟩ := max_run w r R _ _ v (.int k _) rr' h
    refine ⟨V, ?_, hv⟩
    have e : (bif decide (b > a) then b else a) = if b > a then b else a := by cases hd : decide (b > a) <;> simp at hd <;> simp [hd]; omega
    rw [e] at hV
    simp [ex, ey, Builtin.max2, hV]
theorem min_run {μ : Mu} (w : World) : ∀ (r R : List Value) (x X : Value) (v : Value), VRel μ x X → LRel μ r R → foldR min2 x r = .ok v →
    ∃ V, (R.foldlM Builtin.min2 X : Sem Value).run P w = .ok V w ∧ VRel μ v V
  | [], R, x, X, v, rx, rr, h => by
    have : R = [] := by have := rr.1; simpa using this.symm
    subst this
    simp only [foldR] at h
    cases h
    exact ⟨X, by simp, rx⟩
  | y :: r, [], x, X, v, rx, rr, h => by have := rr.1; simp at this
  | y :: r, Y :: R, x, X, v, rx, rr, h => by
    obtain ⟨ry, rr'⟩ := rr.uncons
    simp only [foldR] at h
    split at h <;> try cases h
    rename_i z hz
    unfold min2 at hz
    split at hz <;> try cases hz
    rename_i k a k' b
    have ex := scal_rel rx rfl
    have ey := scal_rel ry rfl
    obtain ⟨V, hV, hv⟩ := min_run w r R _ _ v (.int k _) rr' h
    refine ⟨V, ?_, hv⟩
    have e : (bif decide (b < a) then b else a) = if b < a then b else a := by cases hd : decide (b < a) <;> simp at hd <;> simp [hd]; omega
    rw [e] at hV
    simp [ex, ey, Builtin.min2, hV]

theorem op_max {xs : Array Operand} {xs' : List Opd} (hx : compOpds P xs.toList = some xs') {ats : Array TypeId} :
    OpSound P ⟨dst, .call { callee := .builtin .max, args := xs, argTypes := ats }, type, pos, after, guard⟩ (.max xs') := by
  intro ms tm ρ μ s s' v w hi hr i hs hle
  clear hle
  have rx := opds_rel hr hx
  simp only [aop] at hs
  split at hs <;> try cases hs
  rename_i x r e
  split at hs <;> cases hs
  rename_i h
  rw [e] at rx
  have : (xs.map ρ).toList = xs.toList.map ρ := by simp
  cases hq : xs.toList.map ρ with
  | nil => rw [hq] at rx; have := rx.1; simp at this
  | cons X R =>
    rw [hq] at rx
    obtain ⟨r1, r2⟩ := rx.uncons
    obtain ⟨V, hV, hv⟩ := max_run (P := P) w r R x X v r1 r2 h
    refine .same i.rel ?_ hv
    simp [execOp, resolve, invoke, BigFrame.builtin_max, Builtin.max_, hq, hV]
theorem op_min {xs : Array Operand} {xs' : List Opd} (hx : compOpds P xs.toList = some xs') {ats : Array TypeId} :
    OpSound P ⟨dst, .call { callee := .builtin .min, args := xs, argTypes := ats }, type, pos, after, guard⟩ (.min xs') := by
  intro ms tm ρ μ s s' v w hi hr i hs hle
  clear hle
  have rx := opds_rel hr hx
  simp only [aop] at hs
  split at hs <;> try cases hs
  rename_i x r e
  split at hs <;> cases hs
  rename_i h
  rw [e] at rx
  cases hq : xs.toList.map ρ with
  | nil => rw [hq] at rx; have := rx.1; simp at this
  | cons X R =>
    rw [hq] at rx
    obtain ⟨r1, r2⟩ := rx.uncons
    obtain ⟨V, hV, hv⟩ := min_run (P := P) w r R x X v r1 r2 h
    refine .same i.rel ?_ hv
    simp [execOp, resolve, invoke, BigFrame.builtin_min, Builtin.min_, hq, hV]
end
end Go.Am
