/-
  THE ABSTRACT MACHINE: what its values and its heap say of the model's.
-/
import Derived.Test.YtdmijaofelgonaaGreatDoorAmA
import Derived.Test.YtdmijaofelgonaaGreatDoorAmB
import Derived.Laws.Entries
import Derived.Laws.Cells
namespace Go.Am

/-- Where an object lies, as a version sees it: the block, where it begins there, how many cells the block has. -/
structure Loc where
  b : Nat
  s : Nat
  z : Nat
/-- Of each object and version, where it lies. -/
abbrev Mu := Nat → Nat → Option Loc

inductive VRel (μ : Mu) : Value → Value → Prop where
  | bool (b : Bool) : VRel μ (.bool b) (.bool b)
  | int (k : IntKind) (n : Int) : VRel μ (.int k n) (.int k n)
  | str (s : ByteArray) : VRel μ (.string s) (.string s)
  | ptrNil : VRel μ (.pointer none) (.pointer none)
  | ptr {g i v : Nat} {l : Loc} : μ g v = some l → VRel μ (.pointer (some ⟨g, i, some v⟩)) (.pointer (some ⟨l.b, l.s + i, none⟩))
  | slNil : VRel μ (.slice none 0 0) (.slice none 0 0)
  | sl {g i v n m : Nat} {a : Addr} {c : Nat} {l : Loc} : μ g v = some l → 0 < m / 2 → i + n * (m / 2) ≤ v → n ≤ c →
      (c ≠ 0 → a = ⟨l.b, l.s + i, none⟩ ∧ l.s + i + c * (m / 2) ≤ l.z) → (m % 2 = 1 → c = n) →
      VRel μ (.slice (some ⟨g, i, some v⟩) n m) (.slice (some a) n c)
  | mapNil : VRel μ (.map none) (.map none)
  | map {g : Nat} {l : Loc} : μ g 0 = some l → VRel μ (.map (some g)) (.map (some l.b))
  | nilFunc : VRel μ .nilFunc .nilFunc
  | func {fn : Fn} {xs xs' ys ys' : List Value} : xs.length = xs'.length → (∀ (i : Nat) (x y : Value), xs[i]? = some x → xs'[i]? = some y → VRel μ x y) →
      ys.length = ys'.length → (∀ (i : Nat) (x y : Value), ys[i]? = some x → ys'[i]? = some y → VRel μ x y) →
      VRel μ (.func fn ⟨xs⟩ ⟨ys⟩) (.func fn ⟨xs'⟩ ⟨ys'⟩)
  | nilIface : VRel μ .nilIface .nilIface
  | iface {t : TypeId} {v v' : Value} : VRel μ v v' → VRel μ (.iface t v) (.iface t v')
  | agg {xs ys : List Value} : xs.length = ys.length → (∀ x ∈ xs, one x = true) →
      (∀ (i : Nat) (x y : Value), xs[i]? = some x → ys[i]? = some y → VRel μ x y) → VRel μ (.agg ⟨xs⟩) (.agg ⟨ys⟩)
  | tuple {xs ys : List Value} : xs.length = ys.length →
      (∀ (i : Nat) (x y : Value), xs[i]? = some x → ys[i]? = some y → VRel μ x y) → VRel μ (.tuple ⟨xs⟩) (.tuple ⟨ys⟩)

/-- Lists of values, place by place. -/
def LRel (μ : Mu) (xs ys : List Value) : Prop :=
  xs.length = ys.length ∧ ∀ (i : Nat) (x y : Value), xs[i]? = some x → ys[i]? = some y → VRel μ x y

def Ext (μ μ' : Mu) : Prop := ∀ g v l, μ g v = some l → μ' g v = some l
theorem Ext.refl (μ : Mu) : Ext μ μ := fun _ _ _ h => h
theorem Ext.trans {a b c : Mu} (h : Ext a b) (h' : Ext b c) : Ext a c := fun _ _ _ e => h' _ _ _ (h _ _ _ e)

theorem VRel.ext {μ μ' : Mu} (h : Ext μ μ') {x y : Value} (r : VRel μ x y) : VRel μ' x y := by
  induction r with
  | bool b => exact .bool b
  | int k n => exact .int k n
  | str s => exact .str s
  | ptrNil => exact .ptrNil
  | ptr e => exact .ptr (h _ _ _ e)
  | slNil => exact .slNil
  | sl e h1 h2 h3 h4 h5 => exact .sl (h _ _ _ e) h1 h2 h3 h4 h5
  | mapNil => exact .mapNil
  | map e => exact .map (h _ _ _ e)
  | nilFunc => exact .nilFunc
  | func e1 _ e2 _ i1 i2 => exact .func e1 i1 e2 i2
  | nilIface => exact .nilIface
  | iface _ ih => exact .iface ih
  | agg e ho _ ih => exact .agg e ho ih
  | tuple e _ ih => exact .tuple e ih
theorem LRel.ext {μ μ' : Mu} (h : Ext μ μ') {x y : List Value} (r : LRel μ x y) : LRel μ' x y :=
  ⟨r.1, fun i a b ha hb => (r.2 i a b ha hb).ext h⟩
theorem LRel.nil (μ : Mu) : LRel μ [] [] := ⟨rfl, fun i x y h => by simp at h⟩
theorem LRel.cons {μ : Mu} {x y : Value} {xs ys : List Value} (h : VRel μ x y) (t : LRel μ xs ys) : LRel μ (x :: xs) (y :: ys) :=
  ⟨by simp [t.1], fun i a b ha hb => by
    cases i with
    | zero => simp at ha hb; exact ha ▸ hb ▸ h
    | succ i => simp at ha hb; exact t.2 i a b ha hb⟩
theorem LRel.uncons {μ : Mu} {x y : Value} {xs ys : List Value} (h : LRel μ (x :: xs) (y :: ys)) : VRel μ x y ∧ LRel μ xs ys :=
  ⟨h.2 0 x y rfl rfl, by have := h.1; simpa using this, fun i a b ha hb => h.2 (i + 1) a b (by simpa using ha) (by simpa using hb)⟩
theorem LRel.append {μ : Mu} {xs ys xs' ys' : List Value} (h : LRel μ xs ys) (h' : LRel μ xs' ys') : LRel μ (xs ++ xs') (ys ++ ys') :=
  ⟨by simp [h.1, h'.1], fun i a b ha hb => by
    by_cases hi : i < xs.length
    · rw [List.getElem?_append_left hi] at ha
      rw [List.getElem?_append_left (h.1 ▸ hi)] at hb
      exact h.2 i a b ha hb
    · rw [List.getElem?_append_right (by omega)] at ha
      rw [List.getElem?_append_right (by have := h.1; omega), ← h.1] at hb
      exact h'.2 _ a b ha hb⟩
theorem LRel.take {μ : Mu} {xs ys : List Value} (h : LRel μ xs ys) (n : Nat) : LRel μ (xs.take n) (ys.take n) :=
  ⟨by simp [h.1], fun i a b ha hb => by
    rw [List.getElem?_take] at ha hb
    split at ha
    · rw [if_pos (by assumption)] at hb; exact h.2 i a b ha hb
    · simp at ha⟩
theorem LRel.drop {μ : Mu} {xs ys : List Value} (h : LRel μ xs ys) (n : Nat) : LRel μ (xs.drop n) (ys.drop n) :=
  ⟨by simp [h.1], fun i a b ha hb => by
    rw [List.getElem?_drop] at ha hb
    exact h.2 _ a b ha hb⟩
theorem LRel.get {μ : Mu} {xs ys : List Value} (h : LRel μ xs ys) {i : Nat} {x : Value} (hx : xs[i]? = some x) : ∃ y, ys[i]? = some y ∧ VRel μ x y := by
  have hi : i < xs.length := by
    rcases Nat.lt_or_ge i xs.length with h' | h'
    · exact h'
    · simp [List.getElem?_eq_none h'] at hx
  have hi' : i < ys.length := h.1 ▸ hi
  have hy : ys[i]? = some ys[i] := List.getElem?_eq_getElem hi'
  exact ⟨_, hy, h.2 i _ _ hx hy⟩

/-- A value of one cell. -/
theorem VRel.one {μ : Mu} {x y : Value} (h : VRel μ x y) : one y = one x := by cases h <;> rfl
theorem VRel.oneCell {μ : Mu} {x y : Value} (h : VRel μ x y) : y.oneCell' = Am.one x := by cases h <;> rfl
theorem VRel.cells {μ : Mu} {x y : Value} (h : VRel μ x y) : LRel μ (vcells x) y.cells.toList := by
  cases h with
  | agg e ho hp => exact ⟨e, hp⟩
  | _ => exact .cons (by constructor <;> assumption) (.nil μ)

-- values without addresses
theorem plain_rel {μ : Mu} {v : Value} (h : plain v = true) : VRel μ v v := by
  cases v with
  | bool b => exact .bool b
  | int k n => exact .int k n
  | string s => exact .str s
  | pointer a => cases a <;> simp [plain] at h; exact .ptrNil
  | slice a n c =>
    cases a with
    | none =>
      cases n <;> cases c <;> simp [plain] at h
      exact .slNil
    | some a => simp [plain] at h
  | map r => cases r <;> simp [plain] at h; exact .mapNil
  | nilFunc => exact .nilFunc
  | nilIface => exact .nilIface
  | func fn a b =>
    cases fn <;> simp [plain] at h
    obtain ⟨rfl, rfl⟩ := h
    exact .func rfl (fun i x y h => by simp at h) rfl (fun i x y h => by simp at h)
  | _ => simp [plain] at h
theorem plain_one {v : Value} (h : plain v = true) : one v = true := by cases v <;> simp [plain] at h <;> rfl
theorem plain1_rel {μ : Mu} {v : Value} (h : plain1 v = true) : VRel μ v v := by
  cases v with
  | agg cs =>
    obtain ⟨l⟩ := cs
    have h' : ∀ x ∈ l, plain x = true := by simpa [plain1] using h
    refine .agg rfl (fun x hx => plain_one (h' x hx)) (fun i x y hx hy => ?_)
    rw [hx] at hy
    cases hy
    exact plain_rel (h' x (List.mem_of_getElem? hx))
  | tuple vs =>
    obtain ⟨l⟩ := vs
    have : l = [] := by simpa [plain1] using h
    subst this
    exact .tuple rfl (fun i x y h => by simp at h)
  | _ => exact plain_rel h

/-- Slots. -/
def TRel (μ : Mu) (tm : T Value) (a : Array Value) : Prop :=
  ∀ t, VRel μ (match tm.get t with | some v => v | none => undef) (a.getD t undef)
theorem undef_rel (μ : Mu) : VRel μ undef undef := .tuple rfl (fun i x y h => by simp at h)
theorem TRel.ext {μ μ' : Mu} (h : Ext μ μ') {tm : T Value} {a : Array Value} (r : TRel μ tm a) : TRel μ' tm a := fun t => (r t).ext h

theorem TRel.put {μ : Mu} {tm : T Value} {a : Act} (r : TRel μ tm a.tmps) {d : Option Nat} {v v' : Value} (hv : VRel μ v v')
    (hd : ∀ t, d = some t → t < a.tmps.size) : TRel μ (put tm d v) (a.put d v').tmps := by
  intro t
  cases d with
  | none => exact r t
  | some d =>
    have hsz := hd d rfl
    simp only [Am.put, Act.put, T.get_set]
    by_cases e : t = d
    · subst e
      simpa [Array.getElem?_setIfInBounds, hsz] using hv
    · have := r t
      rw [if_neg e]
      simpa [Array.getElem?_setIfInBounds, Ne.symm e, fun h : d = t => e h.symm] using this
theorem put_size (a : Act) (d : Option Nat) (v : Value) : (a.put d v).tmps.size = a.tmps.size := by cases d <;> simp [Act.put]
theorem put_defers (a : Act) (d : Option Nat) (v : Value) : (a.put d v).defers = a.defers := by cases d <;> simp [Act.put]

-- the heap

/-- Which versions of an object are good. -/
def Ob.good : Ob → Nat → Prop
  | .row _ _ minv, v => minv ≤ v
  | .map _ _, v => v = 0
  | .iter _ _, v => v = 0
  | .dead, _ => False
  | .ro _, _ => False

def EntRel (μ : Mu) (e : Value × Value × Nat) (E : MapEntry) : Prop := E.key = e.1 ∧ isScal e.1 = true ∧ VRel μ e.2.1 E.val ∧ E.born = e.2.2

/-- A version of a row in its block. -/
structure RowAt (μ : Mu) (cells : List Value) (v : Nat) (l : Loc) (w : World) : Prop where
  le : v ≤ cells.length
  ex : ∃ C e f, w.heap[l.b]? = some (.cells C e f) ∧ C.size = l.z ∧ (∀ o, o < l.z → ¬ (f.1 ≤ o ∧ o < f.2)) ∧
    ∀ i x, i < v → cells[i]? = some x → ∃ y, C[l.s + i]? = some y ∧ VRel μ x y

/-- Cells that are only read, in their block. -/
def RoAt (μ : Mu) (cells : List Value) (v : Nat) (l : Loc) (w : World) : Prop := ∃ C e f, w.heap[l.b]? = some (.cells C e f) ∧
    ∀ i x, i < v → cells[i]? = some x → ∃ y, C[l.s + i]? = some y ∧ VRel μ x y
def ORel (μ : Mu) (g : Nat) (w : World) : Ob → Prop
  | .row cells n minv => n = cells.length ∧ (∀ x ∈ cells, one x = true) ∧
      (∀ v l, μ g v = some l → minv ≤ v → RowAt μ cells v l w) ∧
      (∀ v l v' l', μ g v = some l → minv ≤ v → μ g v' = some l' → minv ≤ v' → l.b = l'.b → l.s = l'.s ∧ l.z = l'.z)
  | .map es clock => ∀ l, μ g 0 = some l → ∃ ES : Array MapEntry, w.heap[l.b]? = some (.map ES clock) ∧ ES.size = es.length ∧
      ∀ (i : Nat) (e : Value × Value × Nat) (E : MapEntry), es[i]? = some e → ES[i]? = some E → EntRel μ e E
  | .iter s pos => ∀ l, μ g 0 = some l → w.heap[l.b]? = some (.stringIter s pos)
  | .dead => True
  | .ro cells => (∀ x ∈ cells, one x = true) ∧ ∀ v l, μ g v = some l → v ≤ cells.length → RoAt μ cells v l w

/-- An object owns a block. -/
def Owns (μ : Mu) (H : T Ob) (g b : Nat) : Prop := ∃ o v l, H.get g = some o ∧ o.good v ∧ μ g v = some l ∧ l.b = b

structure Rel (μ : Mu) (H : T Ob) (w : World) : Prop where
  obj : ∀ g o, H.get g = some o → ORel μ g w o
  cst : ∀ g cells v l, H.get g = some (.ro cells) → μ g v = some l → v ≤ cells.length → ∀ g', ¬ Owns μ H g' l.b
  inj : ∀ g g' b, Owns μ H g b → Owns μ H g' b → g = g'
  fit : ∀ g v l, μ g v = some l → l.s + v ≤ l.z ∧ (1000 ≤ g → l.s = 0)

/-- Rows of cells stay rows of as many cells, of their type, frozen where they were. -/
def Kinds (w w' : World) : Prop := ∀ (b : Nat) (C : Array Value) (e : TypeId) (f : Nat × Nat), w.heap[b]? = some (Obj.cells C e f) → ∃ C' : Array Value, w'.heap[b]? = some (Obj.cells C' e f) ∧ C'.size = C.size
theorem Kinds.refl (w : World) : Kinds w w := fun b C e f h => ⟨C, h, rfl⟩
theorem Kinds.trans {a b c : World} (h : Kinds a b) (h' : Kinds b c) : Kinds a c := fun k C e f hk => by
  obtain ⟨C1, h1, h2⟩ := h k C e f hk
  obtain ⟨C2, h3, h4⟩ := h' k C1 e f h1
  exact ⟨C2, h3, h4.trans h2⟩
theorem Kinds.of_same {w w' : World} (h : ∀ b, b < w.heap.size → w'.heap[b]? = w.heap[b]?) : Kinds w w' := fun b C e f hb => by
  have hlt : b < w.heap.size := by
    rcases Nat.lt_or_ge b w.heap.size with h' | h'
    · exact h'
    · simp [Array.getElem?_eq_none h'] at hb
  exact ⟨C, by rw [h b hlt]; exact hb, rfl⟩

/-- From one state to another one. -/
structure StepR (μ : Mu) (H : T Ob) (nx : Nat) (w : World) (μ' : Mu) (H' : T Ob) (nx' : Nat) (w' : World) : Prop where
  ext : Ext μ μ'
  rel : Rel μ' H' w'
  le : nx ≤ nx'
  dom : ∀ g, (H.get g).isSome → (H'.get g).isSome
  new : ∀ g, (H'.get g).isSome → H.get g = none → nx ≤ g ∧ g < nx'
  other : ∀ g v, H.get g = none → (g < nx ∨ nx' ≤ g) → μ' g v = μ g v
  size : w.heap.size ≤ w'.heap.size
  tape : w'.tape = w.tape
  os : w'.os = w.os
  output : w'.output = w.output
  own : ∀ g b, Owns μ' H' g b → b < w.heap.size → ∃ g0, Owns μ H g0 b
  frame : ∀ b, b < w.heap.size → (∀ g, ¬ Owns μ H g b) → w'.heap[b]? = w.heap[b]?
  kind : Kinds w w'
  roo : ∀ g cells, H'.get g = some (.ro cells) → H.get g = some (.ro cells) ∧ ∀ v, μ' g v = μ g v

/-- No name from nx to hi is placed. -/
def Fresh (μ : Mu) (nx hi : Nat) : Prop := ∀ g v, nx ≤ g → g < hi → μ g v = none

theorem owns_lt {μ : Mu} {H : T Ob} {w : World} (r : Rel μ H w) {g b : Nat} (h : Owns μ H g b) : b < w.heap.size := by
  obtain ⟨o, v, l, ho, hg, hl, rfl⟩ := h
  have hr := r.obj g o ho
  have key : ∀ x, w.heap[l.b]? = some x → l.b < w.heap.size := fun x hx => by
    rcases Nat.lt_or_ge l.b w.heap.size with h | h
    · exact h
    · simp [Array.getElem?_eq_none h] at hx
  cases o with
  | row cells n minv => obtain ⟨C, e, f, hC, _⟩ := (hr.2.2.1 v l hl hg).ex; exact key _ hC
  | map es clock => cases (hg : v = 0); obtain ⟨ES, hE, _⟩ := hr l hl; exact key _ hE
  | iter s pos => cases (hg : v = 0); exact key _ (hr l hl)
  | dead => exact hg.elim
  | ro cells => exact hg.elim
/-- What is only read lies in a block that is there. -/
theorem ro_lt {μ : Mu} {H : T Ob} {w : World} (r : Rel μ H w) {g v : Nat} {cells : List Value} {l : Loc} (h : H.get g = some (.ro cells)) (hl : μ g v = some l) (hv : v ≤ cells.length) : l.b < w.heap.size := by
  obtain ⟨C, e, f, hC, _⟩ := (r.obj g _ h).2 v l hl hv
  rcases Nat.lt_or_ge l.b w.heap.size with h | h
  · exact h
  · simp [Array.getElem?_eq_none h] at hC

theorem StepR.refl {μ : Mu} {H : T Ob} {nx : Nat} {w : World} (r : Rel μ H w) : StepR μ H nx w μ H nx w :=
  ⟨.refl μ, r, Nat.le_refl _, fun _ h => h, fun g h h' => by simp [h'] at h, fun _ _ _ _ => rfl, Nat.le_refl _, rfl, rfl, rfl, fun g b h _ => ⟨g, h⟩, fun _ _ _ => rfl, .refl w, fun _ _ h => ⟨h, fun _ => rfl⟩⟩

theorem StepR.trans {μ μ1 μ2 : Mu} {H H1 H2 : T Ob} {nx nx1 nx2 : Nat} {w w1 w2 : World}
    (a : StepR μ H nx w μ1 H1 nx1 w1) (b : StepR μ1 H1 nx1 w1 μ2 H2 nx2 w2) : StepR μ H nx w μ2 H2 nx2 w2 where
  ext := a.ext.trans b.ext
  rel := b.rel
  le := Nat.le_trans a.le b.le
  dom g h := b.dom g (a.dom g h)
  new g h h' := by
    by_cases e : H1.get g = none
    · have := b.new g h e; exact ⟨Nat.le_trans a.le this.1, this.2⟩
    · have := a.new g (by cases hh : H1.get g <;> simp_all) h'; exact ⟨this.1, Nat.lt_of_lt_of_le this.2 b.le⟩
  other g v h h' := by
    have h1 : H1.get g = none := by
      cases e : H1.get g with
      | none => rfl
      | some o =>
        have := a.new g (by simp [e]) h
        rcases h' with h' | h'
        · omega
        · have := b.le; omega
    rw [b.other g v h1 (by rcases h' with h' | h'; · left; have := a.le; omega
                           · right; exact h'),
        a.other g v h (by rcases h' with h' | h'; · left; exact h'
                          · right; have := b.le; omega)]
  size := Nat.le_trans a.size b.size
  tape := b.tape.trans a.tape
  os := b.os.trans a.os
  output := b.output.trans a.output
  own g bb h hb := by
    obtain ⟨g1, h1⟩ := b.own g bb h (Nat.lt_of_lt_of_le hb a.size)
    exact a.own g1 bb h1 hb
  frame bb hb hn := by
    rw [b.frame bb (Nat.lt_of_lt_of_le hb a.size) (fun g hg => by
      obtain ⟨g0, h0⟩ := a.own g bb hg hb
      exact hn g0 h0), a.frame bb hb hn]
  kind := a.kind.trans b.kind
  roo g cells h := by
    obtain ⟨h1, h2⟩ := b.roo g cells h
    obtain ⟨h3, h4⟩ := a.roo g cells h1
    exact ⟨h3, fun v => (h2 v).trans (h4 v)⟩

theorem Fresh.step {μ μ' : Mu} {H H' : T Ob} {nx nx' hi : Nat} {w w' : World} (f : Fresh μ nx hi) (s : StepR μ H nx w μ' H' nx' w')
    (hd : ∀ g, nx' ≤ g → H.get g = none) : Fresh μ' nx' hi := fun g v h1 h2 => by
  rw [s.other g v (hd g h1) (.inr h1)]
  exact f g v (Nat.le_trans s.le h1) h2

end Go.Am

/-
  THE ABSTRACT MACHINE: what becomes of its heap, and of the model's, step by step.
-/
namespace Go.Am

/-- What holds between operations: no name from nx on is taken, none from nx to hi is placed. -/
structure Inv (μ : Mu) (H : T Ob) (nx hi : Nat) (w : World) : Prop where
  rel : Rel μ H w
  dom : ∀ g, nx ≤ g → H.get g = none
  fresh : Fresh μ nx hi

theorem Inv.step {μ μ' : Mu} {H H' : T Ob} {nx nx' hi : Nat} {w w' : World} (i : Inv μ H nx hi w) (s : StepR μ H nx w μ' H' nx' w') :
    Inv μ' H' nx' hi w' where
  rel := s.rel
  dom g hg := by
    cases e : H'.get g with
    | none => rfl
    | some o => have := s.new g (by simp [e]) (i.dom g (Nat.le_trans s.le hg)); omega
  fresh := i.fresh.step s (fun g hg => i.dom g (Nat.le_trans s.le hg))

/-- Nothing but the heap is another one. -/
structure OnlyHeap (w w' : World) : Prop where
  size : w.heap.size ≤ w'.heap.size
  tape : w'.tape = w.tape
  os : w'.os = w.os
  output : w'.output = w.output
  kind : Kinds w w'

/-- What an object says of memory stays said where its blocks stay. -/
theorem ORel.keep {μ μ' : Mu} {g : Nat} {w w' : World} {o : Ob} (h : ORel μ g w o) (hx : Ext μ μ') (hg : ∀ v, μ' g v = μ g v)
    (hb : ∀ v l, o.good v → μ g v = some l → w'.heap[l.b]? = w.heap[l.b]?)
    (hr : ∀ cells v l, o = .ro cells → μ g v = some l → v ≤ cells.length → w'.heap[l.b]? = w.heap[l.b]?) : ORel μ' g w' o := by
  cases o with
  | row cells n minv =>
    obtain ⟨h1, h2, h3, h4⟩ := h
    refine ⟨h1, h2, fun v l hl hv => ?_, fun v l v' l' hl hv hl' hv' e => ?_⟩
    · rw [hg] at hl
      obtain ⟨a, C, e, f, hC, hz, hf, hr⟩ := h3 v l hl hv
      exact ⟨a, C, e, f, by rw [hb v l hv hl]; exact hC, hz, hf, fun i x hi hxx => by
        obtain ⟨y, hy, hv⟩ := hr i x hi hxx
        exact ⟨y, hy, hv.ext hx⟩⟩
    · rw [hg] at hl hl'
      exact h4 v l v' l' hl hv hl' hv' e
  | map es clock =>
    intro l hl
    rw [hg] at hl
    obtain ⟨ES, hE, hs, hr⟩ := h l hl
    refine ⟨ES, by rw [hb 0 l rfl hl]; exact hE, hs, fun i e E he hE' => ?_⟩
    obtain ⟨a, b, c, d⟩ := hr i e E he hE'
    exact ⟨a, b, c.ext hx, d⟩
  | iter s pos =>
    intro l hl
    rw [hg] at hl
    rw [hb 0 l rfl hl]; exact h l hl
  | dead => trivial
  | ro cells =>
    refine ⟨h.1, fun v l hl hv => ?_⟩
    rw [hg] at hl
    obtain ⟨C, e, f, hC, hq⟩ := h.2 v l hl hv
    refine ⟨C, e, f, by rw [hr cells v l rfl hl hv]; exact hC, fun i x hi hxx => ?_⟩
    obtain ⟨y, hy, hv⟩ := hq i x hi hxx
    exact ⟨y, hy, hv.ext hx⟩

theorem Owns.keep {μ μ' : Mu} {H H' : T Ob} {g b : Nat} (h : Owns μ' H' g b) (hg : ∀ v, μ' g v = μ g v) (hH : H'.get g = H.get g) : Owns μ H g b := by
  obtain ⟨o, v, l, ho, hgd, hl, hb⟩ := h
  exact ⟨o, v, l, hH ▸ ho, hgd, hg v ▸ hl, hb⟩

/-- An object that is there is turned: nobody else's block is touched. -/
theorem step_obj {μ μ' : Mu} {H : T Ob} {nx hi : Nat} {w w' : World} {g : Nat} {o o' : Ob} (i : Inv μ H nx hi w) (hg : H.get g = some o)
    (hx : Ext μ μ') (hμ : ∀ g' v, g' ≠ g → μ' g' v = μ g' v) (hw : OnlyHeap w w')
    (hf : ∀ b, b < w.heap.size → ¬ Owns μ H g b → w'.heap[b]? = w.heap[b]?)
    (hfit : ∀ v l, μ' g v = some l → l.s + v ≤ l.z ∧ (1000 ≤ g → l.s = 0)) (ho : ORel μ' g w' o') (hown : ∀ v l, o'.good v → μ' g v = some l → Owns μ H g l.b ∨ w.heap.size ≤ l.b) (hro : ∀ cells, o' ≠ .ro cells := by intro cells h; cases h) :
    StepR μ H nx w μ' (H.set g o') nx w' where
  ext := hx
  rel := {
    obj := fun g' p hp => by
      rw [T.get_set] at hp
      by_cases e : g' = g
      · subst e; simp at hp; exact hp ▸ ho
      · rw [if_neg e] at hp
        refine (i.rel.obj g' p hp).keep hx (fun v => hμ g' v e) (fun v l hgd hl => hf l.b (owns_lt i.rel ⟨p, v, l, hp, hgd, hl, rfl⟩) fun h => ?_) (fun cells v l he hl hv => ?_)
        · exact e (i.rel.inj g' g l.b ⟨p, v, l, hp, hgd, hl, rfl⟩ h)
        · subst he
          exact hf l.b (ro_lt i.rel hp hl hv) (i.rel.cst g' cells v l hp hl hv g)
    cst := fun g' cells v l hp hl hv g2 h2 => by
      rw [T.get_set] at hp
      by_cases e : g' = g
      · subst e
        simp at hp
        subst hp
        exact (hro cells rfl).elim
      · rw [if_neg e] at hp
        rw [hμ g' v e] at hl
        have hlt := ro_lt i.rel hp hl hv
        by_cases e2 : g2 = g
        · subst e2
          obtain ⟨p, v2, l2, hp2, hgd, hl2, hb2⟩ := h2
          rw [T.get_set_same] at hp2; cases hp2
          rcases hown v2 l2 hgd hl2 with h | h
          · rw [hb2] at h; exact i.rel.cst g' cells v l hp hl hv _ h
          · omega
        · exact i.rel.cst g' cells v l hp hl hv g2 (h2.keep (fun v => hμ g2 v e2) (T.get_set_ne _ _ e2))
    inj := fun g1 g2 b h1 h2 => by
      have key : ∀ g', g' ≠ g → Owns μ' (H.set g o') g' b → Owns μ H g' b := fun g' e h => h.keep (fun v => hμ g' v e) (T.get_set_ne _ _ e)
      have own : Owns μ' (H.set g o') g b → Owns μ H g b ∨ w.heap.size ≤ b := fun h => by
        obtain ⟨p, v, l, hp, hgd, hl, rfl⟩ := h
        rw [T.get_set_same] at hp; cases hp
        exact hown v l hgd hl
      by_cases e1 : g1 = g <;> by_cases e2 : g2 = g
      · rw [e1, e2]
      · subst e1
        have k2 := key g2 e2 h2
        rcases own h1 with h | h
        · exact i.rel.inj _ _ b h k2
        · exact absurd (owns_lt i.rel k2) (by omega)
      · subst e2
        have k1 := key g1 e1 h1
        rcases own h2 with h | h
        · exact i.rel.inj _ _ b k1 h
        · exact absurd (owns_lt i.rel k1) (by omega)
      · exact i.rel.inj _ _ b (key g1 e1 h1) (key g2 e2 h2)
    fit := fun g' v l h => by
      by_cases e : g' = g
      · subst e; exact hfit v l h
      · rw [hμ g' v e] at h; exact i.rel.fit g' v l h }
  le := Nat.le_refl _
  dom g' h := by rw [T.get_set]; split <;> simp_all
  new g' h h' := by
    rw [T.get_set] at h
    split at h
    · rename_i e; subst e; simp [hg] at h'
    · simp [h'] at h
  other g' v h _ := hμ g' v (fun e => by subst e; simp [hg] at h)
  size := hw.size
  tape := hw.tape
  os := hw.os
  output := hw.output
  own g' b h hb := by
    by_cases e : g' = g
    · subst e
      obtain ⟨p, v, l, hp, hgd, hl, rfl⟩ := h
      rw [T.get_set_same] at hp; cases hp
      rcases hown v l hgd hl with h | h
      · exact ⟨_, h⟩
      · omega
    · exact ⟨g', h.keep (fun v => hμ g' v e) (T.get_set_ne _ _ e)⟩
  frame b hb hn := hf b hb (hn g)
  kind := hw.kind
  roo g' cells h := by
    rw [T.get_set] at h
    by_cases e : g' = g
    · rw [if_pos e] at h; exact (hro cells (Option.some.inj h)).elim
    · rw [if_neg e] at h; exact ⟨h, fun v => hμ g' v e⟩

/-- A new object, in blocks that are new. -/
theorem step_name {μ μ' : Mu} {H : T Ob} {nx hi : Nat} {w w' : World} {o' : Ob} (i : Inv μ H nx hi w) (hlt : nx < hi)
    (hμ : ∀ g' v, g' ≠ nx → μ' g' v = μ g' v) (hw : OnlyHeap w w')
    (hf : ∀ b, b < w.heap.size → w'.heap[b]? = w.heap[b]?)
    (hfit : ∀ v l, μ' nx v = some l → l.s + v ≤ l.z ∧ (1000 ≤ nx → l.s = 0)) (ho : ORel μ' nx w' o') (hown : ∀ v l, o'.good v → μ' nx v = some l → w.heap.size ≤ l.b) (hro : ∀ cells, o' ≠ .ro cells := by intro cells h; cases h) :
    StepR μ H nx w μ' (H.set nx o') (nx + 1) w' where
  ext g v l h := by
    by_cases e : g = nx
    · subst e; rw [i.fresh g v (Nat.le_refl _) hlt] at h; cases h
    · rw [hμ g v e]; exact h
  rel := {
    obj := fun g' p hp => by
      have hx : Ext μ μ' := fun g v l h => by
        by_cases e : g = nx
        · subst e; rw [i.fresh g v (Nat.le_refl _) hlt] at h; cases h
        · rw [hμ g v e]; exact h
      rw [T.get_set] at hp
      by_cases e : g' = nx
      · subst e; simp at hp; exact hp ▸ ho
      · rw [if_neg e] at hp
        exact (i.rel.obj g' p hp).keep hx (fun v => hμ g' v e) (fun v l hgd hl => hf l.b (owns_lt i.rel ⟨p, v, l, hp, hgd, hl, rfl⟩)) (fun cells v l he hl hv => by subst he; exact hf l.b (ro_lt i.rel hp hl hv))
    cst := fun g' cells v l hp hl hv g2 h2 => by
      rw [T.get_set] at hp
      by_cases e : g' = nx
      · subst e
        simp at hp
        subst hp
        exact (hro cells rfl).elim
      · rw [if_neg e] at hp
        rw [hμ g' v e] at hl
        have hlt := ro_lt i.rel hp hl hv
        by_cases e2 : g2 = nx
        · subst e2
          obtain ⟨p, v2, l2, hp2, hgd, hl2, hb2⟩ := h2
          rw [T.get_set_same] at hp2; cases hp2
          have := hown v2 l2 hgd hl2
          omega
        · exact i.rel.cst g' cells v l hp hl hv g2 (h2.keep (fun v => hμ g2 v e2) (T.get_set_ne _ _ e2))
    inj := fun g1 g2 b h1 h2 => by
      have key : ∀ g', g' ≠ nx → Owns μ' (H.set nx o') g' b → Owns μ H g' b := fun g' e h => h.keep (fun v => hμ g' v e) (T.get_set_ne _ _ e)
      have own : Owns μ' (H.set nx o') nx b → w.heap.size ≤ b := fun h => by
        obtain ⟨p, v, l, hp, hgd, hl, rfl⟩ := h
        rw [T.get_set_same] at hp; cases hp
        exact hown v l hgd hl
      by_cases e1 : g1 = nx <;> by_cases e2 : g2 = nx
      · rw [e1, e2]
      · subst e1
        exact absurd (owns_lt i.rel (key g2 e2 h2)) (by have := own h1; omega)
      · subst e2
        exact absurd (owns_lt i.rel (key g1 e1 h1)) (by have := own h2; omega)
      · exact i.rel.inj _ _ b (key g1 e1 h1) (key g2 e2 h2)
    fit := fun g' v l h => by
      by_cases e : g' = nx
      · subst e; exact hfit v l h
      · rw [hμ g' v e] at h; exact i.rel.fit g' v l h }
  le := Nat.le_succ _
  dom g' h := by rw [T.get_set]; split <;> simp_all
  new g' h h' := by
    rw [T.get_set] at h
    split at h
    · rename_i e; subst e; omega
    · simp [h'] at h
  other g' v h h' := hμ g' v (by omega)
  size := hw.size
  tape := hw.tape
  os := hw.os
  output := hw.output
  own g' b h hb := by
    by_cases e : g' = nx
    · subst e
      obtain ⟨p, v, l, hp, hgd, hl, rfl⟩ := h
      rw [T.get_set_same] at hp; cases hp
      have := hown v l hgd hl
      omega
    · exact ⟨g', h.keep (fun v => hμ g' v e) (T.get_set_ne _ _ e)⟩
  frame b hb _ := hf b hb
  kind := hw.kind
  roo g' cells h := by
    rw [T.get_set] at h
    by_cases e : g' = nx
    · rw [if_pos e] at h; exact (hro cells (Option.some.inj h)).elim
    · rw [if_neg e] at h; exact ⟨h, fun v => hμ g' v e⟩

/-- A new object takes an old one's place: the old one is dead. -/
theorem step_take {μ μ' : Mu} {H : T Ob} {nx hi : Nat} {w w' : World} {g : Nat} {o o' : Ob} (i : Inv μ H nx hi w) (hlt : nx < hi) (hg : H.get g = some o)
    (hμ : ∀ g' v, g' ≠ nx → μ' g' v = μ g' v) (hw : OnlyHeap w w')
    (hf : ∀ b, b < w.heap.size → ¬ Owns μ H g b → w'.heap[b]? = w.heap[b]?)
    (hfit : ∀ v l, μ' nx v = some l → l.s + v ≤ l.z ∧ (1000 ≤ nx → l.s = 0)) (ho : ORel μ' nx w' o') (hown : ∀ v l, o'.good v → μ' nx v = some l → Owns μ H g l.b ∨ w.heap.size ≤ l.b) (hro : ∀ cells, o' ≠ .ro cells := by intro cells h; cases h) :
    StepR μ H nx w μ' ((H.set g .dead).set nx o') (nx + 1) w' := by
  have hgn : g ≠ nx := fun e => by subst e; rw [i.dom g (Nat.le_refl _)] at hg; cases hg
  have hx : Ext μ μ' := fun g v l h => by
    by_cases e : g = nx
    · subst e; rw [i.fresh g v (Nat.le_refl _) hlt] at h; cases h
    · rw [hμ g v e]; exact h
  have get : ∀ g', g' ≠ nx → g' ≠ g → ((H.set g .dead).set nx o').get g' = H.get g' := fun g' e1 e2 => by
    rw [T.get_set_ne _ _ e1, T.get_set_ne _ _ e2]
  have dead : ∀ b, ¬ Owns μ' ((H.set g .dead).set nx o') g b := fun b h => by
    obtain ⟨p, v, l, hp, hgd, hl, rfl⟩ := h
    rw [T.get_set_ne _ _ hgn, T.get_set_same] at hp
    cases hp
    exact hgd
  have key : ∀ g' b, g' ≠ nx → Owns μ' ((H.set g .dead).set nx o') g' b → g' ≠ g ∧ Owns μ H g' b := fun g' b e h => by
    have e2 : g' ≠ g := fun e2 => dead b (e2 ▸ h)
    exact ⟨e2, h.keep (fun v => hμ g' v e) (get g' e e2)⟩
  have own : ∀ b, Owns μ' ((H.set g .dead).set nx o') nx b → Owns μ H g b ∨ w.heap.size ≤ b := fun b h => by
    obtain ⟨p, v, l, hp, hgd, hl, rfl⟩ := h
    rw [T.get_set_same] at hp; cases hp
    exact hown v l hgd hl
  exact {
    ext := hx
    rel := {
      obj := fun g' p hp => by
        by_cases e : g' = nx
        · subst e; rw [T.get_set_same] at hp; cases hp; exact ho
        · by_cases e2 : g' = g
          · subst e2; rw [T.get_set_ne _ _ e, T.get_set_same] at hp; cases hp; trivial
          · rw [get g' e e2] at hp
            refine (i.rel.obj g' p hp).keep hx (fun v => hμ g' v e) (fun v l hgd hl => hf l.b (owns_lt i.rel ⟨p, v, l, hp, hgd, hl, rfl⟩) fun h => ?_) (fun cells v l he hl hv => ?_)
            · exact e2 (i.rel.inj g' g l.b ⟨p, v, l, hp, hgd, hl, rfl⟩ h)
            · subst he
              exact hf l.b (ro_lt i.rel hp hl hv) (i.rel.cst g' cells v l hp hl hv g)
      cst := fun g' cells v l hp hl hv g2 h2 => by
        by_cases e : g' = nx
        · subst e; rw [T.get_set_same] at hp; cases hp; exact (hro cells rfl).elim
        · by_cases e2 : g' = g
          · subst e2; rw [T.get_set_ne _ _ e, T.get_set_same] at hp; cases hp
          · rw [get g' e e2] at hp
            rw [hμ g' v e] at hl
            have hlt := ro_lt i.rel hp hl hv
            by_cases e3 : g2 = nx
            · subst e3
              rcases own l.b h2 with h | h
              · exact i.rel.cst g' cells v l hp hl hv _ h
              · omega
            · exact i.rel.cst g' cells v l hp hl hv g2 (key g2 _ e3 h2).2
      inj := fun g1 g2 b h1 h2 => by
        by_cases e1 : g1 = nx <;> by_cases e2 : g2 = nx
        · rw [e1, e2]
        · subst e1
          obtain ⟨n2, k2⟩ := key g2 b e2 h2
          rcases own b h1 with h | h
          · exact absurd (i.rel.inj _ _ b k2 h) n2
          · exact absurd (owns_lt i.rel k2) (by omega)
        · subst e2
          obtain ⟨n1, k1⟩ := key g1 b e1 h1
          rcases own b h2 with h | h
          · exact absurd (i.rel.inj _ _ b k1 h) n1
          · exact absurd (owns_lt i.rel k1) (by omega)
        · exact i.rel.inj _ _ b (key g1 b e1 h1).2 (key g2 b e2 h2).2
      fit := fun g' v l h => by
        by_cases e : g' = nx
        · subst e; exact hfit v l h
        · rw [hμ g' v e] at h; exact i.rel.fit g' v l h }
    le := Nat.le_succ _
    dom := fun g' h => by
      by_cases e : g' = nx
      · subst e; simp [T.get_set_same]
      · by_cases e2 : g' = g
        · subst e2; simp [T.get_set_ne _ _ e, T.get_set_same]
        · rw [get g' e e2]; exact h
    new := fun g' h h' => by
      by_cases e : g' = nx
      · omega
      · by_cases e2 : g' = g
        · subst e2; simp [hg] at h'
        · rw [get g' e e2, h'] at h; simp at h
    other := fun g' v h h' => hμ g' v (by omega)
    size := hw.size
    tape := hw.tape
    os := hw.os
    output := hw.output
    own := fun g' b h hb => by
      by_cases e : g' = nx
      · subst e
        rcases own b h with h | h
        · exact ⟨_, h⟩
        · omega
      · exact ⟨g', (key g' b e h).2⟩
    frame := fun b hb hn => hf b hb (hn g)
    kind := hw.kind
    roo := fun g' cells h => by
      by_cases e : g' = nx
      · subst e; rw [T.get_set_same] at h; exact (hro cells (Option.some.inj h)).elim
      · by_cases e2 : g' = g
        · subst e2; rw [T.get_set_ne _ _ e, T.get_set_same] at h; cases h
        · rw [get g' e e2] at h
          exact ⟨h, fun v => hμ g' v e⟩ }

/-- An object dies. -/
theorem step_kill {μ : Mu} {H : T Ob} {nx hi : Nat} {w : World} {g : Nat} {o : Ob} (i : Inv μ H nx hi w) (hg : H.get g = some o) :
    StepR μ H nx w μ (H.set g .dead) nx w :=
  step_obj i hg (.refl μ) (fun _ _ _ => rfl) ⟨Nat.le_refl _, rfl, rfl, rfl, .refl w⟩ (fun _ _ _ => rfl) (fun v l h => i.rel.fit g v l h) trivial (fun _ _ h _ => h.elim)

-- worlds
def setBlock (w : World) (b : Nat) (o : Obj) : World := { w with heap := w.heap.setIfInBounds b o }
theorem setBlock_get (w : World) (b : Nat) (o : Obj) (h : b < w.heap.size) : (setBlock w b o).heap[b]? = some o := by simp [setBlock, h]
theorem setBlock_ne (w : World) {b b' : Nat} (o : Obj) (h : b' ≠ b) : (setBlock w b o).heap[b']? = w.heap[b']? := by
  simp [setBlock, Ne.symm h]
theorem setBlock_only (w : World) (b : Nat) (o : Obj) (h : ∀ (C : Array Value) (e : TypeId) (f : Nat × Nat), w.heap[b]? = some (Obj.cells C e f) → ∃ C' : Array Value, o = Obj.cells C' e f ∧ C'.size = C.size) : OnlyHeap w (setBlock w b o) :=
  ⟨by simp [setBlock], rfl, rfl, rfl, fun k C e f hk => by
    by_cases e1 : k = b
    · subst e1
      obtain ⟨C', rfl, h2⟩ := h C e f hk
      have hlt : k < w.heap.size := by
        rcases Nat.lt_or_ge k w.heap.size with h' | h'
        · exact h'
        · simp [Array.getElem?_eq_none h'] at hk
      exact ⟨C', setBlock_get _ _ _ hlt, h2⟩
    · exact ⟨C, by rw [setBlock_ne _ _ e1]; exact hk, rfl⟩⟩
theorem pushed_get (w : World) (o : Obj) : (w.alloc o).heap[w.heap.size]? = some o := by
  show (w.heap.push o)[w.heap.size]? = some o
  exact Array.getElem?_push_size
theorem pushed_old (w : World) (o : Obj) {b : Nat} (h : b < w.heap.size) : (w.alloc o).heap[b]? = w.heap[b]? := by
  show (w.heap.push o)[b]? = w.heap[b]?
  rw [Array.getElem?_push, if_neg (Nat.ne_of_lt h)]
theorem pushed_only (w : World) (o : Obj) : OnlyHeap w (w.alloc o) :=
  ⟨by show w.heap.size ≤ (w.heap.push o).size; rw [Array.size_push]; exact Nat.le_succ _, rfl, rfl, rfl, .of_same fun b hb => pushed_old w o hb⟩
/-- The tape has been drawn from. -/
def drawn (w : World) : World := { w with drawn := w.drawn + 1 }

def muSet (μ : Mu) (g v : Nat) (l : Loc) : Mu := fun g' v' => if g' = g ∧ v' = v then some l else μ g' v'
theorem muSet_same (μ : Mu) (g v : Nat) (l : Loc) : muSet μ g v l g v = some l := by simp [muSet]
theorem muSet_ne (μ : Mu) {g g' v v' : Nat} (l : Loc) (h : g' ≠ g) : muSet μ g v l g' v' = μ g' v' := by simp [muSet, h]
theorem muSet_ne_v (μ : Mu) {g g' v v' : Nat} (l : Loc) (h : v' ≠ v) : muSet μ g v l g' v' = μ g' v' := by simp [muSet, h]
theorem ext_muSet {μ : Mu} {g v : Nat} (l : Loc) (h : μ g v = none) : Ext μ (muSet μ g v l) := fun g' v' l' hl => by
  unfold muSet
  by_cases e : g' = g ∧ v' = v
  · obtain ⟨rfl, rfl⟩ := e; rw [h] at hl; cases hl
  · rw [if_neg e]; exact hl

/-- Drawing from the tape changes nothing of what is said of memory. -/
theorem Rel.drawn {μ : Mu} {H : T Ob} {w w' : World} (r : Rel μ H w) (h : w'.heap = w.heap) : Rel μ H w' where
  obj g o ho := (r.obj g o ho).keep (.refl μ) (fun _ => rfl) (fun _ _ _ _ => by rw [h]) (fun _ _ _ _ _ _ => by rw [h])
  cst := r.cst
  inj := r.inj
  fit := r.fit
theorem Inv.drawn {μ : Mu} {H : T Ob} {nx hi : Nat} {w w' : World} (i : Inv μ H nx hi w) (h : w'.heap = w.heap) : Inv μ H nx hi w' :=
  ⟨i.rel.drawn h, i.dom, i.fresh⟩
theorem StepR.drawn {μ μ' : Mu} {H H' : T Ob} {nx nx' : Nat} {w w1 w' : World} (s : StepR μ H nx w1 μ' H' nx' w') (h : w1.heap = w.heap)
    (ht : w1.tape = w.tape) (ho : w1.os = w.os) (hp : w1.output = w.output) : StepR μ H nx w μ' H' nx' w' :=
  ⟨s.ext, s.rel, s.le, s.dom, s.new, s.other, h ▸ s.size, ht ▸ s.tape, ho ▸ s.os, hp ▸ s.output, h ▸ s.own, h ▸ s.frame, fun b C e f hb => s.kind b C e f (h ▸ hb), s.roo⟩

/-- A new row: the model's array may be longer. -/
theorem step_row {μ : Mu} {H : T Ob} {nx hi : Nat} {w : World} (i : Inv μ H nx hi w) (hlt : nx < hi) {cells : List Value} (C : Array Value) (e : TypeId)
    (ho : ∀ x ∈ cells, one x = true) (hl : cells.length ≤ C.size) (hr : ∀ (j : Nat) (x : Value), cells[j]? = some x → ∃ y, C[j]? = some y ∧ VRel μ x y) (minv : Nat)
    (fz : Nat × Nat := (0, 0)) (hfz : ∀ o, o < C.size → ¬ (fz.1 ≤ o ∧ o < fz.2) := by intro o _; simp) :
    StepR μ H nx w (muSet μ nx cells.length ⟨w.heap.size, 0, C.size⟩) (H.set nx (.row cells cells.length minv)) (nx + 1) (w.alloc (.cells C e fz)) := by
  have hx : Ext μ (muSet μ nx cells.length ⟨w.heap.size, 0, C.size⟩) := ext_muSet _ (i.fresh _ _ (Nat.le_refl _) hlt)
  have at_ : ∀ v l, muSet μ nx cells.length ⟨w.heap.size, 0, C.size⟩ nx v = some l → v = cells.length ∧ l = ⟨w.heap.size, 0, C.size⟩ := fun v l h => by
    by_cases e : v = cells.length
    · subst e; rw [muSet_same] at h; cases h; exact ⟨rfl, rfl⟩
    · rw [muSet_ne_v _ _ e, i.fresh _ _ (Nat.le_refl _) hlt] at h; cases h
  refine step_name i hlt (fun g' v e => muSet_ne _ _ e) (pushed_only _ _) (fun b hb => pushed_old _ _ hb) (fun v l h => by obtain ⟨rfl, rfl⟩ := at_ v l h; exact ⟨by simpa using hl, fun _ => rfl⟩) ?_ ?_
  · refine ⟨rfl, ho, fun v l h hv => ?_, fun v l v' l' h _ h' _ _ => ?_⟩
    · obtain ⟨rfl, rfl⟩ := at_ v l h
      refine ⟨Nat.le_refl _, C, e, fz, pushed_get _ _, rfl, hfz, fun j x hj hxx => ?_⟩
      obtain ⟨y, hy, hv⟩ := hr j x hxx
      exact ⟨y, by simpa using hy, hv.ext hx⟩
    · obtain ⟨_, rfl⟩ := at_ v l h
      obtain ⟨_, rfl⟩ := at_ v' l' h'
      exact ⟨rfl, rfl⟩
  · intro v l _ h
    obtain ⟨_, rfl⟩ := at_ v l h
    exact Nat.le_refl _

end Go.Am
