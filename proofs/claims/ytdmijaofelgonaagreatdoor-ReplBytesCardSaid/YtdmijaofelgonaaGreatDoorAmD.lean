/-
  THE ABSTRACT MACHINE: operations that look at slots alone, and those that read.
-/
import Derived.Test.YtdmijaofelgonaaGreatDoorAmC
import Derived.MapKept
import Derived.BigFrame
import Derived.WalkLawsBesides
import Derived.WalkSpells
import Derived.Laws.StructEq
namespace Go.Am
open Go.MapKept

section
variable {P : Program}

theorem run_info {t : TypeId} {i : TypeInfo} (h : P.info? t = some i) (w : World) : (typeInfo t).run P w = .ok i w := by simp [typeInfo, h]
theorem run_szOf {t : TypeId} {k : Nat} (h : szOf P t = some k) (w : World) : (sizeOf t).run P w = .ok k w := by
  unfold szOf at h
  cases hi : P.info? t with
  | none => simp [hi] at h
  | some i => simp [hi] at h; simp [sizeOf, typeInfo, hi, h]
theorem run_aggOf {t : TypeId} {b : Bool} (h : aggOf P t = some b) (w : World) : (isAgg t).run P w = .ok b w := by
  unfold aggOf at h
  cases hd : P.underlying t with
  | none => simp [hd] at h
  | some d => cases d <;> simp [hd] at h <;> subst h <;> simp [isAgg, run_underlying hd]
theorem run_zeroOf {t : TypeId} {z : Value} (h : zeroOf P t = some z) (w : World) : (zeroValue t).run P w = .ok z w ∧ plain1 z = true := by
  unfold zeroOf at h
  cases hi : P.info? t with
  | none => simp [hi] at h
  | some i =>
    cases hz : i.zero with
    | none => simp [hi, hz] at h
    | some y =>
      simp only [hi, hz] at h
      split at h <;> cases h
      rename_i h1
      simp only [Bool.and_eq_true] at h1
      exact ⟨by simp [zeroValue, typeInfo, hi, hz], h1.1.1⟩
theorem zeroOf_cells {t : TypeId} {z : Value} (h : zeroOf P t = some z) : (∀ x ∈ vcells z, one x = true) ∧ szOf P t = some (vcells z).length := by
  unfold zeroOf at h
  cases hi : P.info? t with
  | none => simp [hi] at h
  | some i =>
    cases hz : i.zero with
    | none => simp [hi, hz] at h
    | some y =>
      simp only [hi, hz] at h
      split at h <;> cases h
      rename_i h1
      simp only [Bool.and_eq_true, Nat.beq_eq] at h1
      exact ⟨by simpa using h1.1.2, by simp [szOf, hi, h1.2]⟩

/-- Globals lie where the model has them. -/
def Gl (P : Program) (μ : Mu) : Prop := ∀ g gl i, P.globals[g]? = some gl → P.info? gl.type = some i → ∃ z, μ g i.size = some ⟨g, 0, z⟩
theorem Gl.ext {μ μ' : Mu} (h : Gl P μ) (hx : Ext μ μ') : Gl P μ' := fun g gl i h1 h2 => let ⟨z, hz⟩ := h g gl i h1 h2; ⟨z, hx _ _ _ hz⟩

/-- Operands. -/
def ORels (P : Program) (μ : Mu) (tm : T Value) (ρ : Operand → Value) : Prop := ∀ x y, compOpd P x = some y → VRel μ (opd tm y) (ρ x)

theorem eval_rel {μ : Mu} {tm : T Value} {a : Act} (h : TRel μ tm a.tmps) (hg : Gl P μ) : ORels P μ tm a.eval := by
  intro x y hc
  cases x with
  | tmp t => simp [compOpd] at hc; subst hc; exact h t
  | const v =>
    simp [compOpd] at hc
    obtain ⟨h1, rfl⟩ := hc
    exact plain1_rel h1
  | global g =>
    simp only [compOpd] at hc
    split at hc
    · rename_i gl hgl
      split at hc
      · rename_i i hi
        cases hc
        obtain ⟨z, hz⟩ := hg g gl i hgl hi
        have := VRel.ptr (μ := μ) (g := g) (i := 0) (v := i.size) hz
        simpa [opd, Act.eval] using this
      · cases hc
    · cases hc
  | func f =>
    simp [compOpd] at hc
    subst hc
    exact .func rfl (fun i x y h => by simp at h) rfl (fun i x y h => by simp at h)
theorem compOpds_cons {x : Operand} {l : List Operand} {l' : List Opd} (h : compOpds P (x :: l) = some l') :
    ∃ y m, compOpd P x = some y ∧ compOpds P l = some m ∧ l' = y :: m := by
  cases hy : compOpd P x <;> cases hm : compOpds P l <;> simp [compOpds, hy, hm] at h
  exact ⟨_, _, rfl, rfl, h.symm⟩
theorem opds_rel {μ : Mu} {tm : T Value} {ρ : Operand → Value} (h : ORels P μ tm ρ) : ∀ {l : List Operand} {l' : List Opd}, compOpds P l = some l' → LRel μ (evs tm l') (l.map ρ)
  | [], l', hc => by simp [compOpds] at hc; subst hc; exact .nil μ
  | x :: l, l', hc => by
    obtain ⟨y, m, hy, hm, rfl⟩ := compOpds_cons hc
    exact .cons (h x y hy) (opds_rel h hm)

/-- What an operation leaves alone. -/
structure StRel (s s' : St) : Prop where
  le : s.next ≤ s'.next
  low : s'.low ≤ s.low
  same : ∀ g, g < s.next → g < s'.low → s'.heap.get g = s.heap.get g
theorem StRel.refl (s : St) : StRel s s := ⟨Nat.le_refl _, Nat.le_refl _, fun _ _ _ => rfl⟩
theorem StRel.trans {a b c : St} (h : StRel a b) (h' : StRel b c) : StRel a c :=
  ⟨Nat.le_trans h.le h'.le, Nat.le_trans h'.low h.low, fun g h1 h2 => by
    rw [h'.same g (Nat.lt_of_lt_of_le h1 h.le) h2, h.same g h1 (Nat.lt_of_lt_of_le h2 h'.low)]⟩

/-- What the model does at an operation. -/
structure OpOk (P : Program) (ρ : Operand → Value) (o : Oper) (w : World) (μ : Mu) (s : St) (v : Value) (s' : St) : Prop where
  ex : ∃ nv vc w' μ', (execOp ρ o).run P w = .ok nv w' ∧ (nv = .value vc ∨ nv = .skip ∧ vc = undef) ∧ VRel μ' v vc ∧ StepR μ s.heap s.next w μ' s'.heap s'.next w'
  st : StRel s s'

theorem OpOk.same {ρ : Operand → Value} {o : Oper} {w : World} {μ : Mu} {s : St} {v vc : Value} (r : Rel μ s.heap w)
    (h : (execOp ρ o).run P w = .ok (.value vc) w) (hv : VRel μ v vc) : OpOk P ρ o w μ s v s :=
  ⟨⟨_, vc, w, μ, h, .inl rfl, hv, .refl r⟩, .refl s⟩

theorem OpOk.of {ρ : Operand → Value} {o : Oper} {w : World} {μ : Mu} {s s' : St} {v : Value} (vc : Value) (w' : World) (μ' : Mu)
    (h : (execOp ρ o).run P w = .ok (.value vc) w') (hv : VRel μ' v vc) (hs : StepR μ s.heap s.next w μ' s'.heap s'.next w') (st : StRel s s') : OpOk P ρ o w μ s v s' :=
  ⟨⟨_, vc, w', μ', h, .inl rfl, hv, hs⟩, st⟩
theorem OpOk.skip {ρ : Operand → Value} {o : Oper} {w : World} {μ : Mu} {s s' : St} (w' : World) (μ' : Mu)
    (h : (execOp ρ o).run P w = .ok .skip w') (hs : StepR μ s.heap s.next w μ' s'.heap s'.next w') (st : StRel s s') : OpOk P ρ o w μ s undef s' :=
  ⟨⟨_, undef, w', μ', h, .inr ⟨rfl, rfl⟩, undef_rel μ', hs⟩, st⟩

def OpSound (P : Program) (o : Oper) (a : AOp) : Prop :=
  ∀ (ms : Meths) (tm : T Value) (ρ : Operand → Value) (μ : Mu) (s s' : St) (v : Value) (w : World) (hi : Nat),
    ORels P μ tm ρ → Inv μ s.heap s.next hi w → aop ms tm a s = .ok (.val v s') → s'.next ≤ hi → OpOk P ρ o w μ s v s'

variable {dst : Option Tmp} {type : TypeId} {pos : String} {after : Array Edge} {guard : Option (Nat × Bool)}

theorem op_move {x : Operand} {y : Opd} (h : compOpd P x = some y) : OpSound P ⟨dst, .move x, type, pos, after, guard⟩ (.mv y) := by
  intro ms tm ρ μ s s' v w hi hr i hs hle
  clear hle
  simp only [aop] at hs; cases hs
  exact .same i.rel (by simp [execOp]) (hr x y h)
theorem op_assign {x : Operand} {y : Opd} (h : compOpd P x = some y) : OpSound P ⟨dst, .assign x, type, pos, after, guard⟩ (.mv y) := by
  intro ms tm ρ μ s s' v w hi hr i hs hle
  clear hle
  simp only [aop] at hs; cases hs
  exact .same i.rel (by simp [execOp]) (hr x y h)
theorem op_pick {c a b : Operand} {c' a' b' : Opd} (hc : compOpd P c = some c') (ha : compOpd P a = some a') (hb : compOpd P b = some b') :
    OpSound P ⟨dst, .pick c a b, type, pos, after, guard⟩ (.pick c' a' b') := by
  intro ms tm ρ μ s s' v w hi hr i hs hle
  clear hle
  have rc := hr c c' hc
  simp only [aop] at hs
  split at hs <;> cases hs
  all_goals
    rename_i e
    rw [e] at rc
    cases hx : ρ c <;> rw [hx] at rc <;> cases rc
  · exact .same i.rel (by simp [execOp, hx, asBool]) (hr a a' ha)
  · exact .same i.rel (by simp [execOp, hx, asBool]) (hr b b' hb)

theorem op_extract {x : Operand} {y : Opd} {k : Nat} (h : compOpd P x = some y) : OpSound P ⟨dst, .extract x k, type, pos, after, guard⟩ (.extract k y) := by
  intro ms tm ρ μ s s' v w hi hr i hs hle
  clear hle
  have rx := hr x y h
  simp only [aop] at hs
  split at hs <;> try cases hs
  rename_i vs e
  split at hs <;> cases hs
  rename_i u hu
  rw [lget_eq] at hu
  rw [e] at rx
  generalize hx : ρ x = X at rx
  obtain ⟨vs⟩ := vs
  cases rx with
  | tuple hl hp =>
    obtain ⟨y', hy, hv⟩ := LRel.get ⟨hl, hp⟩ hu
    exact .same i.rel (by simp [execOp, hx, Instr.extract, hy]) hv

/-- The cells that a version of a row reads. -/
theorem read_row {μ : Mu} {H : T Ob} {w : World} (r : Rel μ H w) {g v : Nat} {l : Loc} {cells : List Value} {n minv : Nat} (hg : H.get g = some (.row cells n minv))
    (hl : μ g v = some l) (hv : minv ≤ v) {k : Nat} {x : Value} (hk : k < v) (hx : cells[k]? = some x) :
    ∃ y, w.cell? ⟨l.b, l.s + k, none⟩ = some y ∧ VRel μ x y := by
  obtain ⟨_, C, e, f, hC, _, _, hr⟩ := (r.obj g _ hg).2.2.1 v l hl hv
  obtain ⟨y, hy, hv⟩ := hr k x hk hx
  exact ⟨y, by simp [World.cell?, hC, hy], hv⟩
theorem row_len {μ : Mu} {H : T Ob} {w : World} (r : Rel μ H w) {g v : Nat} {l : Loc} {cells : List Value} {n minv : Nat} (hg : H.get g = some (.row cells n minv))
    (hl : μ g v = some l) (hv : minv ≤ v) : v ≤ cells.length := ((r.obj g _ hg).2.2.1 v l hl hv).le

theorem read_ro {μ : Mu} {H : T Ob} {w : World} (r : Rel μ H w) {g v : Nat} {l : Loc} {cells : List Value} (hg : H.get g = some (.ro cells))
    (hl : μ g v = some l) (hv : v ≤ cells.length) {k : Nat} {x : Value} (hk : k < v) (hx : cells[k]? = some x) :
    ∃ y, w.cell? ⟨l.b, l.s + k, none⟩ = some y ∧ VRel μ x y := by
  obtain ⟨C, e, f, hC, hr⟩ := (r.obj g _ hg).2 v l hl hv
  obtain ⟨y, hy, hv⟩ := hr k x hk hx
  exact ⟨y, by simp [World.cell?, hC, hy], hv⟩
theorem readOne_rel {μ : Mu} {s : St} {w : World} (r : Rel μ s.heap w) {g k v : Nat} {l : Loc} {x : Value} (h : readOne s g k v = .ok x) (hl : μ g v = some l) :
    ∃ y, w.cell? ⟨l.b, l.s + k, none⟩ = some y ∧ VRel μ x y ∧ one x = true := by
  unfold readOne at h
  split at h
  · rename_i cells n minv hg
    cases hb : (Nat.ble minv v && Nat.blt k v) with
    | false => simp [hb] at h
    | true =>
      simp only [hb, cond_true] at h
      simp only [Bool.and_eq_true, Nat.ble_eq, Nat.blt_eq] at hb
      split at h <;> cases h
      rename_i u hu
      rw [lget_eq] at hu
      obtain ⟨y, hy, hv⟩ := read_row r hg hl hb.1 hb.2 hu
      exact ⟨y, hy, hv, (r.obj g _ hg).2.1 _ (List.mem_of_getElem? hu)⟩
  · rename_i cells hg
    cases hb : (Nat.ble v cells.length && Nat.blt k v) with
    | false => simp [hb] at h
    | true =>
      simp only [hb, cond_true] at h
      simp only [Bool.and_eq_true, Nat.ble_eq, Nat.blt_eq] at hb
      split at h <;> cases h
      rename_i u hu
      rw [lget_eq] at hu
      obtain ⟨y, hy, hv⟩ := read_ro r hg hl hb.1 hb.2 hu
      exact ⟨y, hy, hv, (r.obj g _ hg).1 _ (List.mem_of_getElem? hu)⟩
  · cases h
  · cases h

theorem take_rel {μ : Mu} {w : World} {l : Loc} {cells : List Value} {k n v : Nat} (hv : v ≤ cells.length) (hb : k + n ≤ v) (hone : ∀ x ∈ cells, one x = true)
    (read : ∀ j x, j < v → cells[j]? = some x → ∃ y, w.cell? ⟨l.b, l.s + j, none⟩ = some y ∧ VRel μ x y) :
    ((cells.drop k).take n).length = n ∧ (∀ x ∈ (cells.drop k).take n, one x = true) ∧ ∃ ys : List Value, LRel μ ((cells.drop k).take n) ys ∧ ∀ (j : Nat) (y : Value), ys[j]? = some y → w.cell? ((⟨l.b, l.s + k, none⟩ : Addr).add j) = some y := by
  refine ⟨by simp; omega, fun x hx => hone x (List.mem_of_mem_drop (List.mem_of_mem_take hx)), ?_⟩
  have hget : ∀ j x, ((cells.drop k).take n)[j]? = some x → j < n ∧ cells[k + j]? = some x := fun j x hx => by
    rw [List.getElem?_take] at hx
    split at hx
    · rename_i hj; rw [List.getElem?_drop] at hx; exact ⟨hj, hx⟩
    · cases hx
  let f : Nat → Value := fun j => (w.cell? ⟨l.b, l.s + (k + j), none⟩).getD undef
  refine ⟨(List.range n).map f, ⟨by simp; omega, fun j x y hx hy => ?_⟩, fun j y hy => ?_⟩
  · obtain ⟨hj, hc⟩ := hget j x hx
    obtain ⟨y', hy', hv⟩ := read (k + j) x (by omega) hc
    simp [hj, f, hy'] at hy
    exact hy ▸ hv
  · have hj : j < n := by
      rcases Nat.lt_or_ge j n with h | h
      · exact h
      · rw [List.getElem?_eq_none (by simpa using h)] at hy; cases hy
    simp [hj] at hy
    have hkj : k + j < cells.length := by omega
    obtain ⟨y', hy', hv⟩ := read (k + j) _ (by omega) (List.getElem?_eq_getElem hkj)
    rw [Addr.add_lit, Nat.add_assoc, ← hy]
    simp [f, hy']
theorem readCells_rel {μ : Mu} {s : St} {w : World} (r : Rel μ s.heap w) {g k v n : Nat} {l : Loc} {xs : List Value} (h : readCells s g k v n = .ok xs) (hl : μ g v = some l) :
    xs.length = n ∧ (∀ x ∈ xs, one x = true) ∧ ∃ ys : List Value, LRel μ xs ys ∧ ∀ (j : Nat) (y : Value), ys[j]? = some y → w.cell? ((⟨l.b, l.s + k, none⟩ : Addr).add j) = some y := by
  unfold readCells at h
  split at h
  · rename_i cells n' minv hg
    cases hb : (Nat.ble minv v && Nat.ble (k + n) v) with
    | false => simp [hb] at h
    | true =>
      simp only [hb, cond_true] at h
      simp only [Bool.and_eq_true, Nat.ble_eq] at hb
      cases h
      exact take_rel (row_len r hg hl hb.1) hb.2 (r.obj g _ hg).2.1 (fun j x hj hx => read_row r hg hl hb.1 hj hx)
  · rename_i cells hg
    cases hb : (Nat.ble v cells.length && Nat.ble (k + n) v) with
    | false => simp [hb] at h
    | true =>
      simp only [hb, cond_true] at h
      simp only [Bool.and_eq_true, Nat.ble_eq] at hb
      cases h
      exact take_rel hb.1 hb.2 (r.obj g _ hg).1 (fun j x hj hx => read_ro r hg hl hb.1 hj hx)
  · cases h
  · cases h

theorem loadVar_agg {t : TypeId} {n : Nat} (ha : aggOf P t = some true) (hn : szOf P t = some n) {w : World} {a : Addr} {ys : List Value} (hlen : ys.length = n)
    (h : ∀ (j : Nat) (y : Value), ys[j]? = some y → w.cell? (a.add j) = some y) : (loadVar t a).run P w = .ok (.agg ⟨ys⟩) w := by
  subst hlen
  simp [loadVar, run_aggOf ha, run_szOf hn, run_loadCells_list w a ys h]
theorem loadVar_one {t : TypeId} (ha : aggOf P t = some false) {w : World} {a : Addr} {y : Value} (h : w.cell? a = some y) : (loadVar t a).run P w = .ok y w := by
  simp [loadVar, run_aggOf ha, h]

theorem load_run {t : TypeId} {agg : Bool} {n : Nat} (ha : aggOf P t = some agg) (hn : szOf P t = some n) {μ : Mu} {s : St} {w : World} (r : Rel μ s.heap w)
    {g k v : Nat} {l : Loc} (hl : μ g v = some l) {x : Value}
    (h : (bif agg then (match readCells s g k v n with | .ok l => R.ok (Value.agg ⟨l⟩) | .no w => .no w) else readOne s g k v) = .ok x) :
    ∃ y, (loadVar t ⟨l.b, l.s + k, none⟩).run P w = .ok y w ∧ VRel μ x y := by
  cases agg with
  | true =>
    simp only [cond_true] at h
    split at h <;> cases h
    rename_i xs hxs
    obtain ⟨h1, h2, ys, hy, hc⟩ := readCells_rel r hxs hl
    exact ⟨.agg ⟨ys⟩, loadVar_agg ha hn (by rw [← hy.1]; exact h1) hc, .agg hy.1 h2 hy.2⟩
  | false =>
    simp only [cond_false] at h
    obtain ⟨y, hy, hv, _⟩ := readOne_rel r h hl
    exact ⟨y, loadVar_one ha hy, hv⟩

theorem op_load {t : TypeId} {x : Operand} {y : Opd} {agg : Bool} {n : Nat} (ha : aggOf P t = some agg) (hn : szOf P t = some n) (h : compOpd P x = some y) :
    OpSound P ⟨dst, .load t x, type, pos, after, guard⟩ (.load agg n y) := by
  intro ms tm ρ μ s s' v w hi hr i hs hle
  clear hle
  have rx := hr x y h
  simp only [aop] at hs
  split at hs <;> try cases hs
  rename_i g k u e
  rw [e] at rx
  generalize hx : ρ x = X at rx
  cases rx with
  | ptr hl =>
    have key : (bif agg then (match readCells s g k u n with | .ok l => R.ok (Value.agg ⟨l⟩) | .no w => .no w) else readOne s g k u) = .ok v ∧ s' = s := by
      cases agg with
      | true =>
        simp only [cond_true] at hs ⊢
        split at hs <;> cases hs
        rename_i l hl'
        simp [hl']
      | false =>
        simp only [cond_false] at hs ⊢
        split at hs <;> cases hs
        rename_i l hl'
        simp [hl']
    obtain ⟨hk, rfl⟩ := key
    obtain ⟨y', hy, hv⟩ := load_run ha hn i.rel hl hk
    exact .same i.rel (by simp [execOp, hx, Instr.loadAt, Instr.sureAddr, hy]) hv

theorem op_nilCheck {x : Operand} {y : Opd} (h : compOpd P x = some y) : OpSound P ⟨dst, .nilCheck x, type, pos, after, guard⟩ (.nilCheck y) := by
  intro ms tm ρ μ s s' v w hi hr i hs hle
  clear hle
  have rx := hr x y h
  simp only [aop] at hs
  split at hs <;> cases hs
  all_goals
    rename_i e
    rw [e] at rx
    generalize hx : ρ x = X at rx
  · cases rx with
    | ptr hl => exact .same i.rel (by simp [execOp, hx]) (.ptr hl)
  · cases rx with
    | func h1 h2 h3 h4 => exact .same i.rel (by simp [execOp, hx]) (.func h1 h2 h3 h4)
  · cases rx with
    | iface h1 => exact .same i.rel (by simp [execOp, hx]) (.iface h1)

theorem op_mkIface {t : TypeId} {x : Operand} {y : Opd} {d : TypeDesc} (hd : P.underlying t = some d) (hn : ∀ ms, d ≠ .interface ms) (h : compOpd P x = some y) :
    OpSound P ⟨dst, .makeInterface t x, type, pos, after, guard⟩ (.mkIface t y) := by
  intro ms tm ρ μ s s' v w hi hr i hs hle
  clear hle
  simp only [aop] at hs; cases hs
  refine .same i.rel (vc := .iface t (ρ x)) ?_ (.iface (hr x y h))
  cases d <;> first | exact absurd rfl (hn _) | simp [execOp, Instr.makeInterface, run_underlying hd]

theorem op_mkFunc {fn : Fn} {a b : Array Operand} {a' b' : List Opd} (ha : compOpds P a.toList = some a') (hb : compOpds P b.toList = some b') :
    OpSound P ⟨dst, .makeFunc fn a b, type, pos, after, guard⟩ (.mkFunc fn a' b') := by
  intro ms tm ρ μ s s' v w hi hr i hs hle
  clear hle
  simp only [aop] at hs; cases hs
  have ra := opds_rel hr ha
  have rb := opds_rel hr hb
  refine .same i.rel (vc := .func fn (a.map ρ) (b.map ρ)) (by simp [execOp, Instr.makeFunc]) ?_
  have e1 : a.map ρ = ⟨a.toList.map ρ⟩ := by apply Array.ext'; simp
  have e2 : b.map ρ = ⟨b.toList.map ρ⟩ := by apply Array.ext'; simp
  rw [e1, e2]
  exact .func ra.1 ra.2 rb.1 rb.2

theorem op_fieldAddr {t : TypeId} {x : Operand} {y : Opd} {f : Nat} {fields : Array Field} {fd : Field} {k : Nat} (hd : P.underlying t = some (.struct fields))
    (hf : fields[f]? = some fd) (hk : szOf P fd.type = some k) (hk0 : k ≠ 0) (h : compOpd P x = some y) :
    OpSound P ⟨dst, .fieldAddr t x f, type, pos, after, guard⟩ (.fieldAddr fd.offset y) := by
  intro ms tm ρ μ s s' v w hi hr i hs hle
  clear hle
  have rx := hr x y h
  simp only [aop] at hs
  split at hs <;> cases hs
  rename_i e
  rw [e] at rx
  generalize hx : ρ x = X at rx
  cases rx with
  | ptr hl =>
    rename_i g k' u l
    refine .same i.rel (vc := .pointer (some ⟨l.b, l.s + (k' + fd.offset), none⟩)) ?_ (.ptr hl)
    simp [execOp, hx, Instr.fieldAt, run_underlying hd, hf, Instr.sureAddr, fieldPlace, run_szOf hk, hk0, Addr.add_lit, Nat.add_assoc]

theorem run_part {t : TypeId} {agg : Bool} {n off : Nat} (ha : aggOf P t = some agg) (hn : szOf P t = some n) {μ : Mu} {xs ys : List Value} (r : LRel μ xs ys)
    (ho : ∀ x ∈ xs, one x = true) {v : Value} (w : World)
    (h : (bif agg then R.ok (Value.agg ⟨(xs.drop off).take n⟩) else match lget xs off with | some v => .ok v | none => .no "") = .ok v) :
    ∃ y, (part t ⟨ys⟩ off).run P w = .ok y w ∧ VRel μ v y := by
  cases agg with
  | true =>
    simp only [cond_true] at h
    cases h
    have rr := (r.drop off).take n
    refine ⟨.agg ⟨(ys.drop off).take n⟩, ?_, .agg rr.1 (fun x hx => ho x (List.mem_of_mem_drop (List.mem_of_mem_take hx))) rr.2⟩
    simp [part, run_aggOf ha, run_szOf hn]
  | false =>
    simp only [cond_false] at h
    split at h <;> cases h
    rename_i hu
    rw [lget_eq] at hu
    obtain ⟨y, hy, hv⟩ := r.get hu
    exact ⟨y, by simp [part, run_aggOf ha, hy], hv⟩

theorem op_field {t : TypeId} {x : Operand} {y : Opd} {f : Nat} {fields : Array Field} {fd : Field} {n : Nat} {agg : Bool} (hd : P.underlying t = some (.struct fields))
    (hf : fields[f]? = some fd) (ha : aggOf P fd.type = some agg) (hn : szOf P fd.type = some n) (h : compOpd P x = some y) :
    OpSound P ⟨dst, .field t x f, type, pos, after, guard⟩ (.field agg fd.offset n y) := by
  intro ms tm ρ μ s s' v w hi hr i hs hle
  clear hle
  have rx := hr x y h
  simp only [aop] at hs
  split at hs <;> try cases hs
  rename_i cs e
  rw [e] at rx
  generalize hx : ρ x = X at rx
  obtain ⟨cs⟩ := cs
  cases rx with
  | agg hl ho hp =>
    have key : (bif agg then R.ok (Value.agg ⟨(cs.drop fd.offset).take n⟩) else match lget cs fd.offset with | some v => .ok v | none => .no "") = .ok v ∧ s' = s := by
      cases agg with
      | true => simp only [cond_true] at hs ⊢; cases hs; exact ⟨rfl, rfl⟩
      | false =>
        simp only [cond_false] at hs ⊢
        split at hs <;> cases hs
        rename_i hu
        have hu' : lget cs fd.offset = some v := hu
        simp [hu']
    obtain ⟨hk, rfl⟩ := key
    obtain ⟨y', hy, hv⟩ := run_part (P := P) (off := fd.offset) ha hn ⟨hl, hp⟩ ho w hk
    exact .same i.rel (by simp [execOp, hx, Instr.field, run_underlying hd, hf, asAgg, hy]) hv
end
end Go.Am

/-
  THE ABSTRACT MACHINE: operations that only compute.
-/
namespace Go.Am
open Go.MapKept

section
variable {P : Program}
variable {dst : Option Tmp} {type : TypeId} {pos : String} {after : Array Edge} {guard : Option (Nat × Bool)}

theorem strLess_eq : ∀ (a b : List UInt8), strLess a b = Op.bytesLess a b
  | [], [] => rfl
  | [], _ :: _ => rfl
  | _ :: _, [] => rfl
  | x :: a, y :: b => by
    have e1 : Nat.blt x.toNat y.toNat = decide (x < y) := by
      rw [Bool.eq_iff_iff]; simp [Nat.blt_eq, UInt8.lt_iff_toNat_lt]
    have e2 : Nat.beq x.toNat y.toNat = (x == y) := by
      rw [Bool.eq_iff_iff]; simp [UInt8.toNat_inj]
    simp only [strLess, Op.bytesLess, e1, e2, strLess_eq a b]

theorem scal_rel {μ : Mu} {x y : Value} (h : VRel μ x y) (hs : isScal x = true) : y = x := by
  cases h <;> first | rfl | simp [isScal] at hs

theorem binop_run {op : BinOp} {x y v : Value} (h : binop op x y = .ok v) (t : TypeId) (xo yo : Operand) (w : World) :
    ((do eqGuard op t xo yo x y; Go.binOp op t x y : Sem Value)).run P w = .ok v w ∧ isScal x = true ∧ isScal y = true ∧ isScal v = true := by
  unfold binop at h
  split at h
  · rename_i k a k' b
    refine ⟨?_, rfl, rfl, ?_⟩
    · have hg : eqGuard op t xo yo (.int k a) (.int k' b) = pure () := eqGuard_at_int ..
      simp only [hg]
      cases op
      case shl =>
        simp only at h
        cases hb : decide (b < 0) <;> simp only [hb, cond_true, cond_false] at h
        · cases h
          simp at hb
          simp [Go.binOp, Op.shift, Int.not_lt.mpr hb]
        · cases h
      case shr =>
        simp only at h
        cases hb : decide (b < 0) <;> simp only [hb, cond_true, cond_false] at h
        · cases h
          simp at hb
          simp [Go.binOp, Op.shift, Int.not_lt.mpr hb]
        · cases h
      all_goals
        simp only at h
        cases hk : decide (k = k') <;> simp only [hk, cond_true, cond_false] at h
        · cases h
        simp at hk
        subst hk
      all_goals first
        | (cases h; simp [Go.binOp, Op.intArith]; done)
        | (cases h; simp [Go.binOp, Op.intBits]; done)
        | (cases hb : decide (b = 0) <;> simp only [hb, cond_true, cond_false] at h <;> cases h; simp at hb; simp [Go.binOp, Op.intDiv, hb]; done)
        | (simp only [cmpInt] at h; cases h; simp [Go.binOp, Op.intCmp]; done)
    · cases op <;> simp only [cmpInt] at h <;> (try split at h) <;> (try cases h) <;> first
        | rfl
        | (cases hk : decide (k = k') <;> simp only [hk, cond_true, cond_false] at h <;> (try cases h) <;> first | rfl | (cases hb : decide (b = 0) <;> simp only [hb, cond_true, cond_false] at h <;> cases h; rfl))
        | (cases hb : decide (b < 0) <;> simp only [hb, cond_true, cond_false] at h <;> cases h; rfl)
  · rename_i a b
    refine ⟨?_, rfl, rfl, ?_⟩
    · have hg : eqGuard op t xo yo (.string a) (.string b) = pure () := eqGuard_at_string ..
      simp only [hg]
      have e1 : (a.toList == b.toList) = (a == b) := (beq_toListBytes a b).symm
      have e2 : Op.bytesLess a.toList b.toList = strLess a.data.toList b.data.toList := by rw [strLess_eq, ByteArray.toList_eq, ByteArray.toList_eq]
      cases op <;> simp only at h <;> try cases h
      case add =>
        cases hb : Nat.blt (a.size + b.size) (2 ^ 62) <;> simp only [hb, cond_true, cond_false] at h <;> cases h
        rw [Nat.blt_eq] at hb
        have : ¬ ((a.size + b.size : Nat) : Int) > 9223372036854775807 := by omega
        simp [Go.binOp, Op.stringOp]
        omega
      all_goals simp [Go.binOp, Op.stringOp, e1, e2]
    · cases op <;> simp only at h <;> (try cases h) <;> first
        | rfl
        | (cases hb : Nat.blt (a.size + b.size) (2 ^ 62) <;> simp only [hb, cond_true, cond_false] at h <;> cases h; rfl)
  · cases h

theorem scal_refl {μ : Mu} {v : Value} (h : isScal v = true) : VRel μ v v := by
  cases v <;> simp [isScal] at h
  · exact .bool _
  · exact .int _ _
  · exact .str _

theorem op_bin {op : BinOp} {t u : TypeId} {x y : Operand} {x' y' : Opd} (hx : compOpd P x = some x') (hy : compOpd P y = some y') :
    OpSound P ⟨dst, .binOp op t x y u, type, pos, after, guard⟩ (.bin op x' y') := by
  intro ms tm ρ μ s s' v w hi hr i hs hle
  clear hle
  simp only [aop] at hs
  split at hs <;> cases hs
  rename_i h
  obtain ⟨h1, h2, h3, h4⟩ := binop_run (P := P) h t x y w
  have ex : ρ x = opd tm x' := scal_rel (hr x x' hx) h2
  have ey : ρ y = opd tm y' := scal_rel (hr y y' hy) h3
  refine .same i.rel (vc := v) ?_ (scal_refl h4)
  have : (execOp ρ ⟨dst, .binOp op t x y u, type, pos, after, guard⟩).run P w =
      (((do eqGuard op t x y (ρ x) (ρ y); Go.binOp op t (ρ x) (ρ y) : Sem Value)).run P w).andThen fun v w => .ok (.value v) w := by
    simp only [execOp, Sem.run_bind]
    cases (eqGuard op t x y (ρ x) (ρ y)).run P w <;> simp [Result.andThen]
  rw [this, ex, ey, h1]
  rfl

theorem op_eqBool {op : BinOp} {neg : Bool} (hn : op = .eql ∧ neg = false ∨ op = .neq ∧ neg = true) {t u : TypeId} (ht : P.underlying t = some .bool) {x y : Operand} {x' y' : Opd}
    (hx : compOpd P x = some x') (hy : compOpd P y = some y') : OpSound P ⟨dst, .binOp op t x y u, type, pos, after, guard⟩ (.eqBool neg x' y') := by
  intro ms tm ρ μ s s' v w hi hr i hs hle
  clear hle
  have rx := hr x x' hx
  have ry := hr y y' hy
  simp only [aop] at hs
  split at hs <;> cases hs
  rename_i a b e1 e2
  rw [e1] at rx
  rw [e2] at ry
  have ex := scal_rel rx rfl
  have ey := scal_rel ry rfl
  refine .same i.rel (vc := .bool ((a == b) != neg)) ?_ (.bool _)
  rcases hn with ⟨rfl, rfl⟩ | ⟨rfl, rfl⟩ <;> simp [execOp, ex, ey, eqGuard_at_bool, Go.binOp, run_equal_bool w t a b ht]

theorem isNil_rel {μ : Mu} {x y : Value} (h : VRel μ x y) (nk : NK) : isNil nk y = isNil nk x := by cases h <;> cases nk <;> rfl

def nkOf : TypeDesc → Option NK
  | .pointer _ => some .ptr
  | .slice _ => some .sl
  | .map _ _ => some .map
  | .func _ _ _ => some .func
  | .interface _ => some .iface
  | _ => none

/-- Is one of the two nil? -/
theorem run_equalIn_nils (n : Nat) {t : TypeId} {d : TypeDesc} {nk : NK} (ht : P.underlying t = some d) (hd : nkOf d = some nk) {x y : Value} {a b : Bool}
    (hx : isNil nk x = some a) (hy : isNil nk y = some b) (hab : a = true ∨ b = true) (w : World) :
    (Op.equalIn (n + 1) t x y).run P w = .ok (a == b) w := by
  simp only [Op.equalIn, Sem.run_bind, run_underlying ht, Result.andThen_ok]
  cases d <;> simp [nkOf] at hd <;> subst hd
  · cases x <;> simp [isNil] at hx
    cases y <;> simp [isNil] at hy
    rename_i p q
    subst hx hy
    cases p <;> cases q <;> simp at hab ⊢
  · cases x <;> simp [isNil] at hx
    cases y <;> simp [isNil] at hy
    rename_i p _ _ q _ _
    subst hx hy
    cases p <;> cases q <;> simp at hab ⊢
  · cases x <;> simp [isNil] at hx
    cases y <;> simp [isNil] at hy
    rename_i p q
    subst hx hy
    cases p <;> cases q <;> simp at hab ⊢
  · cases x <;> simp [isNil] at hx <;> cases y <;> simp [isNil] at hy <;> subst hx hy <;> simp at hab ⊢
  · cases x <;> simp [isNil] at hx <;> cases y <;> simp [isNil] at hy <;> subst hx hy <;> simp at hab ⊢
theorem run_equal_nils {t : TypeId} {d : TypeDesc} {nk : NK} (ht : P.underlying t = some d) (hd : nkOf d = some nk) {x y : Value} {a b : Bool}
    (hx : isNil nk x = some a) (hy : isNil nk y = some b) (hab : a = true ∨ b = true) (w : World) :
    (Op.equal t x y).run P w = .ok (a == b) w := run_equalIn_nils 9999 ht hd hx hy hab w

theorem binOp_eql_nils {nk : NK} {t : TypeId} {x y : Value} {a : Bool} (hx : isNil nk x = some a) : Go.binOp .eql t x y = (do pure (.bool (← Op.equal t x y)) : Sem Value) := by
  cases nk <;> cases x <;> simp [isNil] at hx <;> rfl
theorem binOp_neq_nils {nk : NK} {t : TypeId} {x y : Value} {a : Bool} (hx : isNil nk x = some a) : Go.binOp .neq t x y = (do pure (.bool (!(← Op.equal t x y))) : Sem Value) := by
  cases nk <;> cases x <;> simp [isNil] at hx <;> rfl

theorem op_eqNil {op : BinOp} {neg : Bool} (hn : op = .eql ∧ neg = false ∨ op = .neq ∧ neg = true) {t u : TypeId} {d : TypeDesc} {nk : NK} (ht : P.underlying t = some d)
    (hd : nkOf d = some nk) {x y : Operand} {x' y' : Opd} (hx : compOpd P x = some x') (hy : compOpd P y = some y')
    (hc : nk = .iface → (∃ c, x = .const c) ∨ (∃ c, y = .const c)) :
    OpSound P ⟨dst, .binOp op t x y u, type, pos, after, guard⟩ (.eqNil nk neg x' y') := by
  intro ms tm ρ μ s s' v w hi hr i hs hle
  clear hle
  have rx := hr x x' hx
  have ry := hr y y' hy
  have key : ∃ a b, isNil nk (ρ x) = some a ∧ isNil nk (ρ y) = some b ∧ (a = true ∨ b = true) ∧ v = .bool ((a == b) != neg) ∧ s' = s := by
    rw [isNil_rel rx, isNil_rel ry]
    simp only [aop] at hs
    split at hs <;> cases hs
    · rename_i b e1 e2
      exact ⟨true, b, e1, e2, .inl rfl, by simp, rfl⟩
    · rename_i e1 e2
      exact ⟨false, true, e1, e2, .inr rfl, by simp, rfl⟩
  obtain ⟨a, b, ha, hb, hab, rfl, rfl⟩ := key
  have he := run_equal_nils (P := P) ht hd ha hb hab w
  have hg : eqGuard op t x y (ρ x) (ρ y) = pure () := by
    generalize ρ x = X at ha
    generalize ρ y = Y at hb
    cases nk <;> cases X <;> simp [isNil] at ha <;> cases Y <;> simp [isNil] at hb <;> first
      | (rcases hn with ⟨rfl, _⟩ | ⟨rfl, _⟩ <;> rfl)
      | (rcases hc rfl with ⟨c, rfl⟩ | ⟨c, rfl⟩
         · exact eqGuard_nil_constL ..
         · exact eqGuard_nil_constR ..)
  refine .same i.rel (vc := .bool ((a == b) != neg)) ?_ (.bool _)
  rcases hn with ⟨rfl, rfl⟩ | ⟨rfl, rfl⟩
  · simp [execOp, hg, binOp_eql_nils ha, he]
  · simp [execOp, hg, binOp_neq_nils ha, he]

theorem op_un {op : UnOp} {t : TypeId} {x : Operand} {x' : Opd} (hx : compOpd P x = some x') : OpSound P ⟨dst, .unOp op t x, type, pos, after, guard⟩ (.un op x') := by
  intro ms tm ρ μ s s' v w hi hr i hs hle
  clear hle
  have rx := hr x x' hx
  simp only [aop] at hs
  split at hs <;> cases hs
  all_goals
    rename_i e
    rw [e] at rx
    have ex := scal_rel rx rfl
  · exact .same i.rel (by simp [execOp, ex, Op.unary, Op.intArith]) (.int _ _)
  · exact .same i.rel (by simp [execOp, ex, Op.unary, Op.intBits]) (.int _ _)
  · exact .same i.rel (by simp [execOp, ex, Op.unary]) (.bool _)

theorem op_toInt {src to : TypeId} {k : IntKind} {x : Operand} {x' : Opd} {d : TypeDesc} (h1 : P.underlying src = some d) (h2 : P.underlying to = some (.int k)) (hx : compOpd P x = some x') :
    OpSound P ⟨dst, .convert src to x, type, pos, after, guard⟩ (.toInt k x') := by
  intro ms tm ρ μ s s' v w hi hr i hs hle
  clear hle
  have rx := hr x x' hx
  simp only [aop] at hs
  split at hs <;> cases hs
  rename_i e
  rw [e] at rx
  have ex := scal_rel rx rfl
  refine .same i.rel ?_ (.int _ _)
  simp only [execOp, Sem.run_bind, convert, run_underlying h1, run_underlying h2, Result.andThen_ok, ex]
  cases d <;> simp [Conv.intToInt]

theorem op_sameStr {src to : TypeId} {x : Operand} {x' : Opd} (h1 : P.underlying src = some .string) (h2 : P.underlying to = some .string) (hx : compOpd P x = some x') :
    OpSound P ⟨dst, .convert src to x, type, pos, after, guard⟩ (.sameStr x') := by
  intro ms tm ρ μ s s' v w hi hr i hs hle
  clear hle
  have rx := hr x x' hx
  simp only [aop] at hs
  split at hs <;> cases hs
  rename_i e
  rw [e] at rx
  have ex := scal_rel rx rfl
  refine .same i.rel ?_ (.str _)
  simp only [execOp, Sem.run_bind, convert, run_underlying h1, run_underlying h2, Result.andThen_ok, ex]
  simp
end
end Go.Am
