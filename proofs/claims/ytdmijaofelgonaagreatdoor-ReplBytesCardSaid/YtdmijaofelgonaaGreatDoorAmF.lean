/-
  THE ABSTRACT MACHINE: what makes objects, and what writes rows.
-/
import Derived.Test.YtdmijaofelgonaaGreatDoorAmE
namespace Go.Am
open Go.MapKept

section
variable {P : Program}
variable {dst : Option Tmp} {type : TypeId} {pos : String} {after : Array Edge} {guard : Option (Nat × Bool)}

theorem run_newRow (e : TypeId) (C : Array Value) (w : World) : (Go.newRow e C).run P w = .ok ⟨w.heap.size, 0, none⟩ (w.alloc (.cells C e)) := by
  simp [Go.newRow]

theorem StRel.alloc (s : St) (o : Ob) : StRel s { heap := s.heap.set s.next o, next := s.next + 1, low := s.low } :=
  ⟨Nat.le_succ _, Nat.le_refl _, fun g h _ => T.get_set_ne _ _ (Nat.ne_of_lt h)⟩
theorem StRel.write (s : St) (g : Nat) (o : Ob) : StRel s { heap := s.heap.set g o, next := s.next, low := Nat.min s.low g } :=
  ⟨Nat.le_refl _, Nat.min_le_left _ _, fun g' _ h => T.get_set_ne _ _ (fun e => by subst e; exact absurd (Nat.min_le_right s.low g') (Nat.not_le_of_lt h))⟩

/-- A new row of just these cells. -/
theorem row_ok {μ : Mu} {s : St} {w : World} {hi : Nat} (i : Inv μ s.heap s.next hi w) (hlt : s.next < hi) {cells Cs : List Value} (r : LRel μ cells Cs)
    (ho : ∀ x ∈ cells, one x = true) (e : TypeId) :
    StepR μ s.heap s.next w (muSet μ s.next cells.length ⟨w.heap.size, 0, Cs.length⟩) (s.heap.set s.next (.row cells cells.length 0)) (s.next + 1) (w.alloc (.cells ⟨Cs⟩ e)) ∧
    muSet μ s.next cells.length ⟨w.heap.size, 0, Cs.length⟩ s.next cells.length = some ⟨w.heap.size, 0, Cs.length⟩ :=
  ⟨step_row i hlt (C := ⟨Cs⟩) e ho (by rw [r.1]; exact Nat.le_refl _) (fun j x hx => by simpa using r.get hx) 0, muSet_same _ _ _ _⟩

theorem plain1_cells {μ : Mu} {z : Value} (h : plain1 z = true) (hne : ∀ vs, z ≠ .tuple vs) : LRel μ (vcells z) z.cells.toList ∧ ∀ x ∈ vcells z, one x = true := by
  refine ⟨(plain1_rel h).cells, fun x hx => ?_⟩
  cases z with
  | agg cs =>
    obtain ⟨l⟩ := cs
    have h' : ∀ x ∈ l, plain x = true := by simpa [plain1] using h
    exact plain_one (h' x hx)
  | tuple vs => exact absurd rfl (hne vs)
  | _ => simp [vcells] at hx; subst hx; rfl

theorem op_alloc {t : TypeId} {z : Value} (hz : zeroOf P t = some z) : OpSound P ⟨dst, .alloc t, type, pos, after, guard⟩ (.alloc (vcells z)) := by
  intro ms tm ρ μ s s' v w hi hr i hs hle
  obtain ⟨hzr, hzp⟩ := run_zeroOf hz w
  simp only [aop, newRow] at hs
  cases hs
  have hc : LRel μ (vcells z) z.cells.toList := (plain1_rel hzp).cells
  obtain ⟨st, hm⟩ := row_ok i hle hc (zeroOf_cells hz).1 t
  refine .of (.pointer (some ⟨w.heap.size, 0, none⟩)) _ _ ?_ (.ptr hm) st (.alloc s _)
  simp [execOp, Instr.alloc, hzr, newVar, run_newRow]

theorem op_box {t : TypeId} {x : Operand} {x' : Opd} (hx : compOpd P x = some x') : OpSound P ⟨dst, .box t x, type, pos, after, guard⟩ (.box x') := by
  intro ms tm ρ μ s s' v w hi hr i hs hle
  have rx := hr x x' hx
  simp only [aop, newRow] at hs
  cases ho : (vcells (opd tm x')).all one with
  | false => simp [ho] at hs
  | true =>
    simp only [ho, cond_true] at hs
    cases hs
    obtain ⟨st, hm⟩ := row_ok i hle rx.cells (by simpa using ho) t
    refine .of (.pointer (some ⟨w.heap.size, 0, none⟩)) _ _ ?_ (.ptr hm) st (.alloc s _)
    simp [execOp, Instr.box, newVar, run_newRow]

-- parts laid into cells
theorem foldl_put : ∀ (l : List Value) (off k : Nat) (cells : Array Value), off + k + l.length ≤ cells.size →
    (((l.zipIdx k).foldl (fun cs (p : Value × Nat) => cs.setIfInBounds (off + p.2) p.1) cells).size = cells.size) ∧
    ∀ j : Nat, ((l.zipIdx k).foldl (fun cs (p : Value × Nat) => cs.setIfInBounds (off + p.2) p.1) cells)[j]? = if off + k ≤ j ∧ j < off + k + l.length then l[j - (off + k)]? else cells[j]?
  | [], off, k, cells, h => by
    refine ⟨rfl, fun j => ?_⟩
    simp
    intro h1 h2
    omega
  | v :: l, off, k, cells, h => by
    simp only [List.zipIdx_cons, List.foldl_cons]
    have h' : off + k < cells.size := by simp at h; omega
    obtain ⟨e1, e2⟩ := foldl_put l off (k + 1) (cells.setIfInBounds (off + k) v) (by simp at h ⊢; omega)
    refine ⟨by rw [e1]; simp, fun j => ?_⟩
    rw [e2 j]
    by_cases hj : j = off + k
    · subst hj
      rw [if_neg (by omega), if_pos ⟨by omega, by simp⟩]
      simp [h']
    · by_cases hj2 : off + (k + 1) ≤ j ∧ j < off + (k + 1) + l.length
      · rw [if_pos hj2, if_pos ⟨by omega, by simp; omega⟩]
        rw [show j - (off + k) = (j - (off + (k + 1))) + 1 by omega]
        simp
      · rw [if_neg hj2, if_neg (by simp; omega)]
        rw [Array.getElem?_setIfInBounds, if_neg (Ne.symm hj)]

theorem fold_lput {cells vs : Array Value} {off : Nat} (h : off + vs.size ≤ cells.size) :
    (vs.zipIdx.foldl (fun cs (p : Value × Nat) => cs.setIfInBounds (off + p.2) p.1) cells).toList = lput cells.toList off vs.toList := by
  obtain ⟨vs⟩ := vs
  have e : ((⟨vs⟩ : Array Value).zipIdx.foldl (fun cs (p : Value × Nat) => cs.setIfInBounds (off + p.2) p.1) cells) =
      (vs.zipIdx 0).foldl (fun cs (p : Value × Nat) => cs.setIfInBounds (off + p.2) p.1) cells := by
    rw [← Array.foldl_toList]
    simp
  rw [e]
  obtain ⟨e1, e2⟩ := foldl_put vs off 0 cells (by simpa using h)
  apply List.ext_getElem?
  intro j
  rw [Array.getElem?_toList, e2 j, getElem?_lput _ _ _ (by simpa using h)]
  simp

theorem lput_rel {μ : Mu} {zs Zs vs Vs : List Value} (r : LRel μ zs Zs) (rv : LRel μ vs Vs) (off : Nat) : LRel μ (lput zs off vs) (lput Zs off Vs) := by
  unfold lput
  have := rv.1
  rw [this]
  exact ((r.take off).append rv).append (r.drop _)
theorem lput_one {zs vs : List Value} (h : ∀ x ∈ zs, one x = true) (hv : ∀ x ∈ vs, one x = true) (off : Nat) : ∀ x ∈ lput zs off vs, one x = true := by
  intro x hx
  simp only [lput, List.mem_append] at hx
  rcases hx with (hx | hx) | hx
  · exact h x (List.mem_of_mem_take hx)
  · exact hv x hx
  · exact h x (List.mem_of_mem_drop hx)

/-- The parts of a literal, laid in. -/
theorem fill_rel {μ : Mu} {tm : T Value} {ρ : Operand → Value} (hr : ORels P μ tm ρ) (place : Nat → Option (Nat × Nat)) (n : Nat) :
    ∀ (parts : List (Nat × Operand)) (parts' : List (Nat × Nat × Opd)) (l : List (Nat × List Value)) (zs Zs : List Value),
      (parts.length = parts'.length ∧ ∀ (k : Nat) (p : Nat × Operand) (q : Nat × Nat × Opd), parts[k]? = some p → parts'[k]? = some q → place p.1 = some (q.1, q.2.1) ∧ compOpd P p.2 = some q.2.2) →
      partsOk n tm parts' = .ok l → LRel μ zs Zs → zs.length = n → (∀ x ∈ zs, one x = true) →
      ∃ cells, Instr.fill place ⟨Zs⟩ (parts.map fun p => (p.1, ρ p.2)) = some ⟨cells⟩ ∧ LRel μ (fillParts zs l) cells ∧ (∀ x ∈ fillParts zs l, one x = true) ∧ (fillParts zs l).length = n
  | [], [], l, zs, Zs, _, hl, rz, hn, ho => by
    simp only [partsOk] at hl
    cases hl
    exact ⟨Zs, rfl, rz, ho, hn⟩
  | [], _ :: _, _, _, _, h, _, _, _, _ => by simp at h
  | _ :: _, [], _, _, _, h, _, _, _, _ => by simp at h
  | (k, x) :: parts, (off, size, x') :: parts', l, zs, Zs, hp, hl, rz, hn, ho => by
    obtain ⟨hp1, hp2⟩ := hp
    obtain ⟨hpl, hx⟩ := hp2 0 _ _ rfl rfl
    simp only at hpl hx
    have rx := hr x x' hx
    have rc := rx.cells
    simp only [partsOk] at hl
    cases hc : (Nat.beq (vcells (opd tm x')).length size && Nat.ble (off + size) n && (vcells (opd tm x')).all one) with
    | false => simp [hc] at hl
    | true =>
      simp only [hc, cond_true] at hl
      simp only [Bool.and_eq_true, Nat.beq_eq, Nat.ble_eq] at hc
      obtain ⟨⟨c1, c2⟩, c3⟩ := hc
      split at hl <;> cases hl
      rename_i m hm
      have hZ : Zs.length = n := by rw [← rz.1]; exact hn
      have hsz : (ρ x).cells.size = size := by rw [← c1, rc.1]; simp
      have ho' : ∀ y ∈ vcells (opd tm x'), one y = true := by simpa using c3
      have hlen : (lput zs off (vcells (opd tm x'))).length = n := by rw [length_lput _ _ _ (by omega)]; exact hn
      obtain ⟨cells, f1, f2, f3, f4⟩ := fill_rel hr place n parts parts' m (lput zs off (vcells (opd tm x'))) (lput Zs off (ρ x).cells.toList)
        ⟨by simpa using hp1, fun k p q h1 h2 => hp2 (k + 1) p q (by simpa using h1) (by simpa using h2)⟩ hm (lput_rel rz rc off) hlen (lput_one ho ho' off)
      refine ⟨cells, ?_, f2, f3, f4⟩
      simp only [List.map_cons, Instr.fill, hpl]
      rw [if_neg (by simp [hsz]; omega)]
      have hfold := fold_lput (cells := ⟨Zs⟩) (vs := (ρ x).cells) (off := off) (by simp [hsz]; omega)
      rw [← f1]
      congr 1
      exact Array.ext' hfold

theorem partsOf_spec {fields : List (Nat × Nat)} : ∀ {parts : List (Nat × Operand)} {parts' : List (Nat × Nat × Opd)}, partsOf P fields parts = some parts' →
    parts.length = parts'.length ∧ ∀ (k : Nat) (p : Nat × Operand) (q : Nat × Nat × Opd), parts[k]? = some p → parts'[k]? = some q → fields[p.1]? = some (q.1, q.2.1) ∧ compOpd P p.2 = some q.2.2
  | [], parts', h => by simp [partsOf] at h; subst h; exact ⟨rfl, fun k p q h => by simp at h⟩
  | (i, x) :: parts, parts', h => by
    cases hf : lget fields i with
    | none => simp [partsOf, hf] at h
    | some os =>
      obtain ⟨off, size⟩ := os
      cases hx : compOpd P x with
      | none => simp [partsOf, hf, hx] at h
      | some x' =>
        cases hp : partsOf P fields parts with
        | none => simp [partsOf, hf, hx, hp] at h
        | some m =>
          simp [partsOf, hf, hx, hp] at h
          subst h
          obtain ⟨e1, e2⟩ := partsOf_spec hp
          refine ⟨by simp [e1], fun k p q h1 h2 => ?_⟩
          cases k with
          | zero =>
            simp at h1 h2
            subst h1 h2
            exact ⟨by rw [← lget_eq]; exact hf, hx⟩
          | succ k => exact e2 k p q (by simpa using h1) (by simpa using h2)
theorem partsAt_spec {n : Nat} : ∀ {parts : List (Nat × Operand)} {parts' : List (Nat × Nat × Opd)}, partsAt P n parts = some parts' →
    parts.length = parts'.length ∧ ∀ (k : Nat) (p : Nat × Operand) (q : Nat × Nat × Opd), parts[k]? = some p → parts'[k]? = some q → some (p.1 * n, n) = some (q.1, q.2.1) ∧ compOpd P p.2 = some q.2.2
  | [], parts', h => by simp [partsAt] at h; subst h; exact ⟨rfl, fun k p q h => by simp at h⟩
  | (i, x) :: parts, parts', h => by
    cases hx : compOpd P x with
    | none => simp [partsAt, hx] at h
    | some x' =>
      cases hp : partsAt P n parts with
      | none => simp [partsAt, hx, hp] at h
      | some m =>
        simp [partsAt, hx, hp] at h
        subst h
        obtain ⟨e1, e2⟩ := partsAt_spec hp
        refine ⟨by simp [e1], fun k p q h1 h2 => ?_⟩
        cases k with
        | zero =>
          simp at h1 h2
          subst h1 h2
          exact ⟨rfl, hx⟩
        | succ k => exact e2 k p q (by simpa using h1) (by simpa using h2)

theorem run_places : ∀ (fs : List Field) (l : List (Nat × Nat)), placesOf P fs = some l → ∀ w : World,
    (fs.mapM (fun f => do pure (f.offset, ← sizeOf f.type) : Field → Sem (Nat × Nat))).run P w = .ok l w
  | [], l, h, w => by simp [placesOf] at h; subst h; simp
  | f :: fs, l, h, w => by
    unfold placesOf at h
    split at h <;> cases h
    rename_i k m hk hm
    have ih := run_places fs m hm w
    simp only [List.mapM_cons, Sem.run_bind, run_szOf hk, Result.andThen_ok, Sem.run_pure, ih]

theorem op_buildStruct {t : TypeId} {fs : Array Field} (ht : P.underlying t = some (.struct fs)) {z : Value} (hz : zeroOf P t = some z) {l : List (Nat × Nat)}
    (hl : placesOf P fs.toList = some l) {parts : Array (Nat × Operand)} {parts' : List (Nat × Nat × Opd)} (hp : partsOf P l parts.toList = some parts') :
    OpSound P ⟨dst, .build t parts, type, pos, after, guard⟩ (.build (vcells z) parts') := by
  intro ms tm ρ μ s s' v w hi hr i hs hle
  obtain ⟨hzr, hzp⟩ := run_zeroOf hz w
  simp only [aop] at hs
  split at hs <;> cases hs
  rename_i m hm
  obtain ⟨e1, e2⟩ := partsOf_spec hp
  have rz : LRel μ (vcells z) z.cells.toList := (plain1_rel hzp).cells
  obtain ⟨cells, f1, f2, f3, f4⟩ := fill_rel hr (fun i => l[i]?) _ parts.toList parts' m (vcells z) z.cells.toList ⟨e1, e2⟩ hm rz rfl (zeroOf_cells hz).1
  refine .same i.rel (vc := .agg ⟨cells⟩) ?_ (.agg f2.1 f3 f2.2)
  have hpl : ((fs.mapM (fun f => do pure (f.offset, ← sizeOf f.type) : Field → Sem (Nat × Nat)))).run P w = .ok ⟨l⟩ w := by
    rw [← Array.toArray_toList (xs := fs), List.mapM_toArray]
    simp only [Sem.run_map, run_places fs.toList l hl w, Result.andThen_ok]
  have hfill : Instr.fill (fun x => (⟨l⟩ : Array (Nat × Nat))[x]?) z.cells ((parts.map fun (i, x) => (i, ρ x)).toList) = some ⟨cells⟩ := by
    rw [← f1]
    simp
  simp only [execOp, Sem.run_bind, Instr.build, hzr, Result.andThen_ok, run_underlying ht, hpl, hfill]
  simp
end
end Go.Am

/-
  THE ABSTRACT MACHINE: rows that are written; bytes and texts.
-/
namespace Go.Am
open Go.MapKept

section
variable {P : Program}
variable {dst : Option Tmp} {type : TypeId} {pos : String} {after : Array Edge} {guard : Option (Nat × Bool)}

-- zeros
theorem repl_length (zs : List Value) : ∀ n, (repl zs n).length = n * zs.length
  | 0 => by simp [repl]
  | n + 1 => by simp [repl, repl_length zs n, Nat.add_mul]; omega
theorem repl_rel {μ : Mu} {zs Zs : List Value} (r : LRel μ zs Zs) : ∀ n, LRel μ (repl zs n) (repl Zs n)
  | 0 => .nil μ
  | n + 1 => r.append (repl_rel r n)
theorem repl_one {zs : List Value} (h : ∀ x ∈ zs, one x = true) : ∀ n, ∀ x ∈ repl zs n, one x = true
  | 0, x, hx => by simp [repl] at hx
  | n + 1, x, hx => by
    simp only [repl, List.mem_append] at hx
    rcases hx with hx | hx
    · exact h x hx
    · exact repl_one h n x hx
theorem range_zeros (Z : Array Value) : ∀ n : Nat, ((List.range (n * Z.size)).map fun i => Z[i % Z.size]!) = repl Z.toList n
  | 0 => by simp [repl]
  | n + 1 => by
    rw [show (n + 1) * Z.size = Z.size + n * Z.size by rw [Nat.add_mul]; omega, List.range_add, List.map_append, List.map_map]
    simp only [repl]
    congr 1
    · apply List.ext_getElem?
      intro j
      by_cases hj : j < Z.size
      · simp [hj, Nat.mod_eq_of_lt hj]
      · rw [List.getElem?_eq_none (by simpa using hj), List.getElem?_eq_none (by simpa using hj)]
    · rw [← range_zeros Z n]
      apply List.map_congr_left
      intro j _
      simp
theorem array_zeros (Z : Array Value) (n : Nat) : ((Array.range (n * Z.size)).map fun i => Z[i % Z.size]!) = ⟨repl Z.toList n⟩ := by
  apply Array.ext'
  rw [Array.toList_map, Array.toList_range, range_zeros]

theorem op_buildArr {t e : TypeId} {n : Nat} (ht : P.underlying t = some (.array n e)) {z : Value} (hz : zeroOf P t = some z) {k : Nat} (hk : szOf P e = some k)
    {parts : Array (Nat × Operand)} {parts' : List (Nat × Nat × Opd)} (hp : partsAt P k parts.toList = some parts') :
    OpSound P ⟨dst, .build t parts, type, pos, after, guard⟩ (.build (vcells z) parts') := by
  intro ms tm ρ μ s s' v w hi hr i hs hle
  obtain ⟨hzr, hzp⟩ := run_zeroOf hz w
  simp only [aop] at hs
  split at hs <;> cases hs
  rename_i m hm
  obtain ⟨e1, e2⟩ := partsAt_spec hp
  have rz : LRel μ (vcells z) z.cells.toList := (plain1_rel hzp).cells
  obtain ⟨cells, f1, f2, f3, f4⟩ := fill_rel hr (fun i => some (i * k, k)) _ parts.toList parts' m (vcells z) z.cells.toList ⟨e1, e2⟩ hm rz rfl (zeroOf_cells hz).1
  refine .same i.rel (vc := .agg ⟨cells⟩) ?_ (.agg f2.1 f3 f2.2)
  have hfill : Instr.fill (fun i => some (i * k, k)) z.cells ((parts.map fun (i, x) => (i, ρ x)).toList) = some ⟨cells⟩ := by
    rw [← f1]
    simp
  simp only [execOp, Sem.run_bind, Instr.build, hzr, Result.andThen_ok, run_underlying ht, run_szOf hk, hfill]
  simp

theorem op_buildSlice {t e : TypeId} (ht : P.underlying t = some (.slice e)) {z : Value} (hz : zeroOf P e = some z) {k len : Nat} (hk : szOf P e = some k) (hk0 : k ≠ 0) (hlen : len * k ≤ 2 ^ 20)
    {parts : Array (Nat × Operand)} {parts' : List (Nat × Nat × Opd)} (hp : partsAt P k parts.toList = some parts') :
    OpSound P ⟨dst, .buildSlice t len parts, type, pos, after, guard⟩ (.buildSlice k len (repl (vcells z) len) parts') := by
  intro ms tm ρ μ s s' v w hi hr i hs hle
  obtain ⟨hzr, hzp⟩ := run_zeroOf hz w
  obtain ⟨ho, hsz⟩ := zeroOf_cells hz
  have hzk : (vcells z).length = k := by rw [hsz] at hk; exact Option.some.inj hk
  simp only [aop, newRow] at hs
  split at hs <;> cases hs
  rename_i m hm
  obtain ⟨e1, e2⟩ := partsAt_spec hp
  have rz : LRel μ (vcells z) z.cells.toList := (plain1_rel hzp).cells
  have hZk : z.cells.size = k := by rw [← hzk, rz.1]; simp
  obtain ⟨cells, f1, f2, f3, f4⟩ := fill_rel hr (fun i => some (i * k, k)) _ parts.toList parts' m (repl (vcells z) len) (repl z.cells.toList len) ⟨e1, e2⟩ hm (repl_rel rz len) rfl (repl_one ho len)
  have hfl : (fillParts (repl (vcells z) len) m).length = len * k := by rw [f4, repl_length, hzk]
  have hrl : (repl (vcells z) len).length = len * k := by rw [repl_length, hzk]
  obtain ⟨st, hmu⟩ := row_ok i hle f2 f3 e
  have hcl : cells.length = len * k := by rw [← f2.1, hfl]
  refine .of (.slice (some ⟨w.heap.size, 0, none⟩) len len) _ _ ?_ ?_ (by rw [hrl, ← hfl]; exact st) (.alloc s _)
  · have hfill : Instr.fill (fun i => some (i * k, k)) (⟨repl z.cells.toList len⟩ : Array Value) ((parts.map fun (i, x) => (i, ρ x)).toList) = some ⟨cells⟩ := by
      rw [← f1]
      simp
    simp only [execOp, Sem.run_bind, Instr.buildSlice, run_underlying ht, Result.andThen_ok, run_szOf hk]
    rw [if_neg (by omega)]
    by_cases h0 : len * k = 0
    · have hl0 : len = 0 := by
        rcases Nat.mul_eq_zero.mp h0 with h | h
        · exact h
        · exact absurd h hk0
      have hzz : ((Array.range (len * k)).map fun i => (#[] : Array Value)[i % (#[] : Array Value).size]!) = ⟨repl z.cells.toList len⟩ := by
        rw [h0, hl0]; apply Array.ext'; simp [repl]
      rw [if_pos h0]
      simp only [Sem.run_pure, Sem.run_bind, Result.andThen_ok, hzz, hfill]
      simp [run_newRow]
    · rw [if_neg h0]
      have hzz : ((Array.range (len * k)).map fun i => z.cells[i % z.cells.size]!) = ⟨repl z.cells.toList len⟩ := by
        rw [← hZk]; exact array_zeros z.cells len
      simp only [Sem.run_bind, hzr, Result.andThen_ok, Sem.run_pure, hzz, hfill]
      simp [run_newRow]
  · refine .sl (by rw [hrl, ← hfl]; exact hmu) (by omega) (by rw [hrl, show (2 * k + 1) / 2 = k by omega]; omega) (Nat.le_refl _) (fun _ => ⟨rfl, ?_⟩) (fun _ => rfl)
    show 0 + 0 + len * ((2 * k + 1) / 2) ≤ cells.length
    rw [show (2 * k + 1) / 2 = k by omega, hcl]
    omega

-- a row is written
theorem store_cell {w : World} {b o : Nat} {C : Array Value} {e : TypeId} {f : Nat × Nat} (hb : w.heap[b]? = some (.cells C e f)) {v : Value} (ho : v.oneCell' = true) (hlt : o < C.size)
    (hf : ¬ (f.1 ≤ o ∧ o < f.2)) : (store ⟨b, o, none⟩ v).run P w = .ok () (setBlock w b (.cells (C.setIfInBounds o v) e f)) := by
  have hc : w.cell? ⟨b, o, none⟩ = some C[o] := by simp [World.cell?, hb, hlt]
  have hfz : w.frozen? ⟨b, o, none⟩ = false := by
    obtain ⟨lo, hi⟩ := f
    simp only [World.frozen?, hb]
    simp only at hf
    simp
    omega
  rw [run_store P w _ v _ ho, hc]
  simp only [hfz, Bool.false_eq_true, if_false]
  congr 1
  simp only [World.setCell, setBlock]
  congr 1
  apply Array.ext_getElem?
  intro j
  rw [Array.getElem?_modify, Array.getElem?_setIfInBounds]
  by_cases hj : b = j
  · subst hj
    have hlt' : b < w.heap.size := by
      rcases Nat.lt_or_ge b w.heap.size with h | h
      · exact h
      · simp [Array.getElem?_eq_none h] at hb
    rw [if_pos rfl, if_pos rfl, if_pos hlt', hb]
    rfl
  · simp [hj]

theorem setBlock_twice (w : World) (b : Nat) (o o' : Obj) : setBlock (setBlock w b o) b o' = setBlock w b o' := by
  simp [setBlock]
theorem setBlock_self {w : World} {b : Nat} {o : Obj} (h : w.heap[b]? = some o) : setBlock w b o = w := by
  simp only [setBlock]
  congr 1
  apply Array.ext_getElem?
  intro j
  rw [Array.getElem?_setIfInBounds]
  by_cases hj : b = j
  · subst hj
    have hlt' : b < w.heap.size := by
      rcases Nat.lt_or_ge b w.heap.size with h' | h'
      · exact h'
      · simp [Array.getElem?_eq_none h'] at h
    rw [if_pos rfl, if_pos hlt', h]
  · simp [hj]
theorem heap_lt {w : World} {b : Nat} {o : Obj} (h : w.heap[b]? = some o) : b < w.heap.size := by
  rcases Nat.lt_or_ge b w.heap.size with h' | h'
  · exact h'
  · simp [Array.getElem?_eq_none h'] at h

theorem lput_nil (l : List Value) (i : Nat) : lput l i [] = l := by simp [lput]
theorem lput_cons (l : List Value) (i : Nat) (v : Value) (vs : List Value) (h : i + (v :: vs).length ≤ l.length) : lput (l.set i v) (i + 1) vs = lput l i (v :: vs) := by
  simp only [List.length_cons] at h
  apply List.ext_getElem?
  intro j
  rw [getElem?_lput _ _ _ (by simp; omega), getElem?_lput _ _ _ (by simp; omega)]
  simp only [List.length_cons]
  by_cases hj : j = i
  · subst hj
    rw [if_neg (by omega), if_pos ⟨Nat.le_refl _, by omega⟩, List.getElem?_set_self (by omega)]
    simp
  · by_cases h2 : i + 1 ≤ j ∧ j < i + 1 + vs.length
    · rw [if_pos h2, if_pos ⟨by omega, by omega⟩, show j - i = (j - (i + 1)) + 1 by omega]
      simp
    · rw [if_neg h2, if_neg (by omega), List.getElem?_set_ne (Ne.symm hj)]

theorem run_storeCells' (b o : Nat) (e : TypeId) (f : Nat × Nat) : ∀ (vs : List Value) (k : Nat) (w : World) (C : Array Value), w.heap[b]? = some (.cells C e f) →
    (∀ v ∈ vs, v.oneCell' = true) → o + k + vs.length ≤ C.size → (∀ j, o + k ≤ j → j < o + k + vs.length → ¬ (f.1 ≤ j ∧ j < f.2)) →
    (storeCells ⟨b, o, none⟩ vs k).run P w = .ok () (setBlock w b (.cells ⟨lput C.toList (o + k) vs⟩ e f))
  | [], k, w, C, hb, _, _, _ => by
    simp only [storeCells, Sem.run_pure, lput_nil]
    rw [setBlock_self hb]
  | v :: vs, k, w, C, hb, ho, hl, hf => by
    simp only [List.length_cons] at hl hf
    have h1 := store_cell (P := P) hb (ho v (by simp)) (by omega : o + k < C.size) (hf (o + k) (Nat.le_refl _) (by omega))
    have hb' : (setBlock w b (.cells (C.setIfInBounds (o + k) v) e f)).heap[b]? = some (.cells (C.setIfInBounds (o + k) v) e f) := setBlock_get _ _ _ (heap_lt hb)
    have ih := run_storeCells' b o e f vs (k + 1) _ _ hb' (fun x hx => ho x (by simp [hx])) (by simp; omega) (fun j h1 h2 => hf j (by omega) (by omega))
    simp only [storeCells, Sem.run_bind, Addr.add_lit, h1, Result.andThen_ok, ih, setBlock_twice]
    congr 4
    rw [← lput_cons C.toList (o + k) v vs (by simp; omega)]
    simp [Nat.add_assoc]

theorem writeCells_spec {s s' : St} {g k v : Nat} {vs : List Value} (h : writeCells s g k v vs = .ok s') :
    ∃ cells minv, s.heap.get g = some (.row cells v minv) ∧ minv ≤ v ∧ k + vs.length ≤ v ∧
      s' = { heap := s.heap.set g (.row (lput cells k vs) v v), next := s.next, low := Nat.min s.low g } := by
  unfold writeCells at h
  split at h <;> try cases h
  rename_i cells n minv hg
  cases hb : (Nat.ble minv v && Nat.beq v n && Nat.ble (k + vs.length) n) with
  | false => simp [hb] at h
  | true =>
    simp only [hb, cond_true] at h
    simp only [Bool.and_eq_true, Nat.ble_eq, Nat.beq_eq] at hb
    cases h
    obtain ⟨⟨h1, rfl⟩, h3⟩ := hb
    exact ⟨cells, minv, hg, h1, h3, rfl⟩

/-- Cells of a row are written: what the model does, and what comes of it. -/
theorem write_ok {μ : Mu} {s s' : St} {w : World} {hi : Nat} (i : Inv μ s.heap s.next hi w) {g k v : Nat} {vs Vs : List Value} (h : writeCells s g k v vs = .ok s') (r : LRel μ vs Vs)
    (ho : ∀ x ∈ vs, one x = true) {l : Loc} (hl : μ g v = some l) :
    ∃ w', (storeCells ⟨l.b, l.s + k, none⟩ Vs).run P w = .ok () w' ∧ StepR μ s.heap s.next w μ s'.heap s'.next w' ∧ StRel s s' := by
  obtain ⟨cells, minv, hg, hm, hk, rfl⟩ := writeCells_spec h
  obtain ⟨hn, hone, hrow, hsame⟩ := i.rel.obj g _ hg
  obtain ⟨hle, C, e, f, hC, hz, hf, hr⟩ := hrow v l hl hm
  have hfit := (i.rel.fit g v l hl).1
  have hlt := heap_lt hC
  have hlen : vs.length = Vs.length := r.1
  refine ⟨setBlock w l.b (.cells ⟨lput C.toList (l.s + k) Vs⟩ e f), ?_, ?_, .write s g _⟩
  · refine run_storeCells' l.b (l.s + k) e f Vs 0 w C hC (fun y hy => ?_) (by omega) (fun j h1 h2 => hf j (by omega))
    obtain ⟨j, hj⟩ := List.mem_iff_getElem?.mp hy
    have hjl : j < vs.length := by
      rcases Nat.lt_or_ge j Vs.length with h | h
      · omega
      · simp [List.getElem?_eq_none h] at hj
    have hx : vs[j]? = some vs[j] := List.getElem?_eq_getElem hjl
    rw [(r.2 j _ _ hx hj).oneCell]
    exact ho _ (List.mem_of_getElem? hx)
  · have own : Owns μ s.heap g l.b := ⟨_, v, l, hg, hm, hl, rfl⟩
    refine step_obj i hg (.refl μ) (fun _ _ _ => rfl) (setBlock_only _ _ _ fun Cx ex fx hx' => by rw [hC] at hx'; cases hx'; exact ⟨_, rfl, by rw [List.size_toArray, length_lput _ _ _ (by simp; omega)]; simp⟩) (fun b hb hno => setBlock_ne _ _ (fun e => hno (e ▸ own))) (fun v' l' h' => i.rel.fit g v' l' h') ?_ ?_
    · refine ⟨?_, lput_one hone ho k, fun v' l' hl' hv' => ?_, fun v1 l1 v2 l2 h1 m1 h2 m2 he => ?_⟩
      · rw [length_lput _ _ _ (by omega)]; exact hn
      · have hle' := (hrow v' l' hl' (by omega)).le
        have hvv : v' = v := by omega
        subst hvv
        have : l' = l := Option.some.inj (hl'.symm.trans hl)
        subst this
        refine ⟨by rw [length_lput _ _ _ (by omega)]; exact hle, ⟨lput C.toList (l'.s + k) Vs⟩, e, f, setBlock_get _ _ _ hlt, ?_, hf, fun j x hj hx => ?_⟩
        · rw [List.size_toArray, length_lput _ _ _ (by simp; omega)]
          simpa using hz
        · rw [getElem?_lput _ _ _ (by omega)] at hx
          rw [List.getElem?_toArray, getElem?_lput _ _ _ (by simp; omega)]
          by_cases hjk : k ≤ j ∧ j < k + vs.length
          · rw [if_pos hjk] at hx
            rw [if_pos (by omega), show l'.s + j - (l'.s + k) = j - k by omega]
            exact r.get hx
          · rw [if_neg hjk] at hx
            rw [if_neg (by omega)]
            obtain ⟨y, hy, hv⟩ := hr j x hj hx
            exact ⟨y, by simpa using hy, hv⟩
      · exact hsame v1 l1 v2 l2 h1 (by omega) h2 (by omega) he
    · intro v' l' hgd hl'
      have hle' := (hrow v' l' hl' (Nat.le_trans hm hgd)).le
      have hgd' : v ≤ v' := hgd
      have hvv : v' = v := by omega
      subst hvv
      have : l' = l := Option.some.inj (hl'.symm.trans hl)
      subst this
      exact .inl own

theorem op_store {t : TypeId} {a x : Operand} {a' x' : Opd} {n : Nat} (hn : szOf P t = some n) (ha : compOpd P a = some a') (hx : compOpd P x = some x') :
    OpSound P ⟨dst, .store t a x, type, pos, after, guard⟩ (.store n a' x') := by
  intro ms tm ρ μ s s' v w hi hr i hs hle
  have ra := hr a a' ha
  have rx := hr x x' hx
  simp only [aop] at hs
  split at hs <;> try cases hs
  rename_i g k u e
  rw [e] at ra
  generalize hA : ρ a = A at ra
  cases ra with
  | ptr hl =>
    rename_i l
    cases hb : (Nat.beq (vcells (opd tm x')).length n && (vcells (opd tm x')).all one) with
    | false => simp [hb] at hs
    | true =>
      simp only [hb, cond_true] at hs
      simp only [Bool.and_eq_true, Nat.beq_eq] at hb
      split at hs <;> cases hs
      rename_i s2 hw
      have rc := rx.cells
      obtain ⟨w', h1, h2, h3⟩ := write_ok (P := P) i hw rc (by simpa using hb.2) hl
      have hsz : (ρ x).cells.size = n := by rw [← hb.1, rc.1]; simp
      refine .skip w' μ ?_ h2 h3
      simp [execOp, hA, Instr.storeAt, Instr.sureAddr, storeVar, run_szOf hn, hsz, h1]

-- bytes and texts
theorem u8s_one (b : ByteArray) : ∀ x ∈ u8s b, one x = true := by
  intro x hx
  simp only [u8s, List.mem_map] at hx
  obtain ⟨c, _, rfl⟩ := hx
  rfl
theorem ints_rel (μ : Mu) (l : List Value) (h : ∀ x ∈ l, isScal x = true) : LRel μ l l :=
  ⟨rfl, fun i x y hx hy => by rw [hx] at hy; cases hy; exact scal_refl (h x (List.mem_of_getElem? hx))⟩
theorem u8s_scal (b : ByteArray) : ∀ x ∈ u8s b, isScal x = true := by
  intro x hx
  simp only [u8s, List.mem_map] at hx
  obtain ⟨c, _, rfl⟩ := hx
  rfl
theorem u8s_length (b : ByteArray) : (u8s b).length = b.size := by
  unfold u8s
  rw [List.length_map]
  rfl

theorem bytesOf_spec : ∀ {l : List Value} {b : List UInt8}, bytesOf l = some b → l.length = b.length ∧ (∀ x ∈ l, ∃ n, x = .int .u8 n) ∧ b = l.map fun x => match x with | .int _ n => UInt8.ofNat n.toNat | _ => 0
  | [], b, h => by simp [bytesOf] at h; subst h; simp
  | x :: l, b, h => by
    have key : ∃ n, x = .int .u8 n := by
      unfold bytesOf at h
      split at h
      · rename_i e; cases e
      · rename_i n r e
        exact ⟨n, (List.cons.inj e).1⟩
      · cases h
    obtain ⟨n, rfl⟩ := key
    simp only [bytesOf] at h
    split at h <;> cases h
    rename_i m hm
    obtain ⟨h1, h2, h3⟩ := bytesOf_spec hm
    refine ⟨by simp [h1], fun y hy => ?_, by simp [h3]⟩
    simp at hy
    rcases hy with rfl | hy
    · exact ⟨n, rfl⟩
    · exact h2 y hy
end
end Go.Am
