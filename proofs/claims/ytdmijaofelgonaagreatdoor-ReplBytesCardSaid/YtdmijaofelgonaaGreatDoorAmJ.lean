/-
  THE ABSTRACT MACHINE: regions whose order is open, on the machine's side: two operations that are not ordered may come in either order.
-/
import Derived.Test.YtdmijaofelgonaaGreatDoorAmI
namespace Go.Am

/-- Two states of the slots that look alike at some of them. -/
structure Same (tm tm' : T Value) (l : List Nat) : Prop where
  at_ : ∀ t ∈ l, tm.get t = tm'.get t
theorem same_app {tm tm' : T Value} {a b : List Nat} : Same tm tm' (a ++ b) ↔ Same tm tm' a ∧ Same tm tm' b :=
  ⟨fun h => ⟨⟨fun t ht => h.at_ t (List.mem_append_left _ ht)⟩, ⟨fun t ht => h.at_ t (List.mem_append_right _ ht)⟩⟩,
   fun h => ⟨fun t ht => (List.mem_append.1 ht).elim (h.1.at_ t) (h.2.at_ t)⟩⟩
theorem opd_congr {tm tm' : T Value} {x : Opd} (h : Same tm tm' (opdReads x)) : opd tm x = opd tm' x := by
  cases x with
  | tmp t => simp only [opd, h.at_ t (by simp [opdReads])]
  | const v => rfl
theorem evs_congr {tm tm' : T Value} : ∀ {l : List Opd}, Same tm tm' (opdsReads l) → evs tm l = evs tm' l
  | [], _ => rfl
  | x :: l, h => by
    simp only [opdsReads, same_app] at h
    simp only [evs, opd_congr h.1, evs_congr h.2]
theorem parts_congr {n : Nat} {tm tm' : T Value} : ∀ {l : List (Nat × Nat × Opd)}, Same tm tm' (partsReads l) → partsOk n tm l = partsOk n tm' l
  | [], _ => rfl
  | (_, _, x) :: l, h => by
    simp only [partsReads, same_app] at h
    simp only [partsOk, opd_congr h.1, parts_congr h.2]
theorem opt_congr {tm tm' : T Value} {d y : Nat} {x : Option Opd} (h : Same tm tm' (optReads x)) : optBound tm d y x = optBound tm' d y x := by
  cases x with
  | none => rfl
  | some x => simp only [optReads] at h; simp only [optBound, opd_congr h]
theorem aop_congr {ms : Meths} {tm tm' : T Value} {a : AOp} (h : Same tm tm' (readsOf a)) (s : St) : aop ms tm a s = aop ms tm' a s := by
  have k1 : ∀ x, Same tm tm' (opdReads x) → opd tm x = opd tm' x := fun x => opd_congr
  have k2 : ∀ x, Same tm tm' (opdsReads x) → evs tm x = evs tm' x := fun x => evs_congr
  have k3 : ∀ n x, Same tm tm' (partsReads x) → partsOk n tm x = partsOk n tm' x := fun n x => parts_congr
  have k4 : ∀ d y x, Same tm tm' (optReads x) → optBound tm d y x = optBound tm' d y x := fun d y x => opt_congr
  cases a
  case sliceSl k x lo hi mx =>
    simp only [readsOf, same_app] at h
    cases mx with
    | none => simp only [aop, k1 _ h.1, k4 _ _ _ h.2.1, k4 _ _ _ h.2.2.1, k4 _ _ _ h.2.2.2]
    | some o =>
      have ho : opd tm o = opd tm' o := k1 _ h.2.2.2
      simp only [aop, k1 _ h.1, k4 _ _ _ h.2.1, k4 _ _ _ h.2.2.1, k4 _ _ _ h.2.2.2, ho]
  all_goals simp only [readsOf, same_app] at h
  all_goals simp only [aop, k1, k2, k3, k4, h]

theorem wanted_congr {tm tm' : T Value} {g : Option (Nat × Bool)} (h : ∀ t b, g = some (t, b) → tm.get t = tm'.get t) : wanted tm g = wanted tm' g := by
  cases g with
  | none => rfl
  | some p => obtain ⟨t, b⟩ := p; simp only [wanted, h t b rfl]

theorem memN_iff {t : Nat} : ∀ {l : List Nat}, memN t l = true ↔ t ∈ l
  | [] => by simp [memN]
  | u :: l => by simp [memN, memN_iff (l := l)]

section
variable {ms : Meths} {call : CallK}
theorem runOp_congr {tm tm' : T Value} {a : AOp} (h : Same tm tm' (readsOf a)) (s : St) : runOp ms call tm a s = runOp ms call tm' a s := by
  simp only [runOp, aop_congr h]

theorem kind_pure {tm : T Value} {a : AOp} (hk : a.kind = .pure) {s s' : St} {v : Value} (h : aop ms tm a s = .ok (.val v s')) :
    s' = s ∧ ∀ t, aop ms tm a t = .ok (.val v t) := by
  cases a
  all_goals first
    | (simp only [AOp.kind, reduceCtorEq] at hk; done)
    | skip
  all_goals simp only [aop, Bool.cond_eq_ite] at h ⊢
  all_goals (repeat' split at h)
  all_goals first
    | (cases h; done)
    | (cases h; exact ⟨rfl, fun t => rfl⟩)
    | (cases h; simp_all; done)
theorem kind_make {tm : T Value} {a : AOp} (hk : a.kind = .make) {s s' : St} {v : Value} (h : aop ms tm a s = .ok (.val v s')) :
    ∃ o, s' = ⟨s.heap.set s.next o, s.next + 1, s.low⟩ ∧ ∀ t : St, t.next = s.next → aop ms tm a t = .ok (.val v ⟨t.heap.set s.next o, s.next + 1, t.low⟩) := by
  cases a
  all_goals first
    | (simp only [AOp.kind, reduceCtorEq] at hk; done)
    | skip
  all_goals simp only [aop, newRow, Bool.cond_eq_ite] at h ⊢
  all_goals (repeat' split at h)
  all_goals first
    | (cases h; done)
    | (cases h; exact ⟨_, rfl, fun t ht => by simp_all⟩)
theorem kind_call {a : AOp} (h : a.isCall = true) : a.kind = .other := by
  cases a <;> simp only [AOp.isCall, reduceCtorEq, Bool.false_eq_true] at h <;> rfl
end
end Go.Am

/-
  THE ABSTRACT MACHINE: what an operation of a region does, as data; two that are apart may come in either order.
-/
namespace Go.Am

namespace T
variable {α : Type}
def over : T α → T α → T α
  | .e, t => t
  | .n l v r, .e => .n l v r
  | .n l v r, .n l' v' r' => .n (over l l') (match v with | some x => some x | none => v') (over r r')
theorem get_over : ∀ (a b : T α) (g : Nat), (over a b).get g = match a.get g with | some x => some x | none => b.get g
  | .e, t, g => by simp [over, get]
  | .n l v r, .e, g => by
    simp only [over, get_e]
    cases (T.n l v r).get g <;> rfl
  | .n l v r, .n l' v' r', 0 => by simp only [over, get]
  | .n l v r, .n l' v' r', g + 1 => by
    simp only [over, get]
    cases Nat.beq (g % 2) 0 <;> simp only [cond_true, cond_false, get_over]
end T

/-- What an operation of a region has done. -/
inductive DD where
  | skip
  | pure (v : Value)
  | make (v : Value) (a n : Nat) (N : T Ob)
  | load (v : Value) (g k u : Nat) (agg : Bool) (n : Nat)
  | store (g k u : Nat) (vs : List Value)
  | call (v : Value) (a n : Nat) (S S' : T Ob) (q : Bool)

def rowVal (agg : Bool) (k n : Nat) (cells : List Value) : Option Value :=
  if agg then some (.agg ⟨(cells.drop k).take n⟩) else lget cells k
namespace DD
def val : DD → Value
  | .skip => undef
  | .pure v => v
  | .make v _ _ _ => v
  | .load v _ _ _ _ _ => v
  | .store _ _ _ _ => undef
  | .call v _ _ _ _ _ => v
/-- The names that it makes. -/
def mine : DD → Nat → Prop
  | .make _ a n _, g => a ≤ g ∧ g < a + n
  | .call _ a n _ _ _, g => a ≤ g ∧ g < a + n
  | _, _ => False
/-- The names that it changes. -/
def chg : DD → Nat → Prop
  | .make _ a n _, g => a ≤ g ∧ g < a + n
  | .call _ a n S _ q, g => (a ≤ g ∧ g < a + n) ∨ (q = false ∧ (S.get g).isSome)
  | .store g0 _ _ _, g => g = g0
  | _, _ => False
/-- The names that it looks at. -/
def touch : DD → Nat → Prop
  | .load _ g0 _ _ _ _, g => g = g0
  | .store g0 _ _ _, g => g = g0
  | .call _ _ _ S _ _, g => (S.get g).isSome
  | _, _ => False
def putRow (k u : Nat) (vs : List Value) : Option Ob → Option Ob
  | some (.row cells _ _) => some (.row (lput cells k vs) u u)
  | x => x
def ovr (N : T Ob) (g : Nat) (x : Option Ob) : Option Ob :=
  match N.get g with
  | some o => some o
  | none => x
/-- What then stands at a name. -/
def pw (d : DD) (g : Nat) (x : Option Ob) : Option Ob :=
  match d with
  | .make _ a n N => if a ≤ g ∧ g < a + n then ovr N g x else x
  | .store g0 k u vs => if g = g0 then putRow k u vs x else x
  | .call _ a n S S' q => if (a ≤ g ∧ g < a + n) ∨ (q = false ∧ (S.get g).isSome) then ovr S' g x else x
  | _ => x
theorem pw_id {d : DD} {g : Nat} (h : ¬ d.chg g) (x : Option Ob) : d.pw g x = x := by
  cases d <;> simp only [chg, pw] at h ⊢ <;> first | rfl | rw [if_neg h]

/-- Cells that a version sees. -/
def Sees (x : Option Ob) (u : Nat) (cells : List Value) : Prop := (∃ len minv, x = some (.row cells len minv) ∧ minv ≤ u) ∨ (x = some (.ro cells) ∧ u ≤ cells.length)
/-- What the heap must hold. -/
def hPre (d : DD) (H : Nat → Option Ob) : Prop :=
  match d with
  | .load v g k u agg n => ∃ cells, Sees (H g) u cells ∧ k + spanOf agg n ≤ u ∧ rowVal agg k n cells = some v
  | .store g k u vs => ∃ cells minv, H g = some (.row cells u minv) ∧ minv ≤ u ∧ k + vs.length ≤ u ∧ cells.length = u
  | .call _ _ _ S _ _ => ∀ g o, S.get g = some o → H g = some o
  | _ => True
/-- What holds of it anyway. -/
def fact (d : DD) : Prop :=
  match d with
  | .call _ a n S S' q => (∀ g, a ≤ g → S.get g = none) ∧ (∀ g, (S'.get g).isSome → (S.get g).isSome ∨ (a ≤ g ∧ g < a + n)) ∧
      (∀ g, S'.get g = none → S.get g = none) ∧ (q = true → ∀ g, (S.get g).isSome → S'.get g = S.get g)
  | .make _ a n N => ∀ g, (N.get g).isSome → a ≤ g ∧ g < a + n
  | _ => True
theorem hPre_congr {d : DD} {H H' : Nat → Option Ob} (h : ∀ g, d.touch g → H' g = H g) (hp : d.hPre H) : d.hPre H' := by
  cases d with
  | load v g k u agg n => obtain ⟨c, h1, h2⟩ := hp; exact ⟨c, by rw [h g rfl]; exact h1, h2⟩
  | store g k u vs => obtain ⟨c, m, h1, h2⟩ := hp; exact ⟨c, m, by rw [h g rfl, h1], h2⟩
  | call v a n S S' q => exact fun g o ho => by rw [h g (by simp [touch, ho])]; exact hp g o ho
  | _ => trivial

def tPre (ms : Meths) (call : CallK) (o : AOper) (d : DD) (tm : T Value) : Prop :=
  match d with
  | .skip => wanted tm o.guard = false
  | .pure v => wanted tm o.guard = true ∧ o.op.kind = .pure ∧ ∀ s, aop ms tm o.op s = .ok (.val v s)
  | .make v a n N => wanted tm o.guard = true ∧ o.op.kind = .make ∧ aop ms tm o.op ⟨.e, a, a⟩ = .ok (.val v ⟨N, a + n, a⟩)
  | .load v g k u agg n => wanted tm o.guard = true ∧ ∃ x, o.op = .load agg n x ∧ opd tm x = .pointer (some ⟨g, k, some u⟩)
  | .store g k u vs => wanted tm o.guard = true ∧ ∃ x y, o.op = .store vs.length x y ∧ opd tm x = .pointer (some ⟨g, k, some u⟩) ∧ vcells (opd tm y) = vs ∧ vs.all one = true
  | .call v a n S S' q => wanted tm o.guard = true ∧ o.op.kind = .other ∧ ∃ low, runOp ms call tm o.op ⟨S, a, a⟩ = .ok (v, ⟨S', a + n, low⟩)
theorem tPre_congr {ms : Meths} {call : CallK} {o : AOper} {d : DD} {tm tm' : T Value} (h : Same tm tm' (slotsOf o)) (hp : d.tPre ms call o tm) : d.tPre ms call o tm' := by
  have hw : wanted tm o.guard = wanted tm' o.guard := wanted_congr fun t b e => h.at_ t (by simp [slotsOf, e])
  have hr : Same tm tm' (readsOf o.op) := ⟨fun t ht => h.at_ t (by
    unfold slotsOf
    cases o.guard with
    | none => exact ht
    | some p => exact List.mem_cons_of_mem _ ht)⟩
  cases d with
  | skip => simp only [tPre] at hp ⊢; rw [← hw]; exact hp
  | pure v => exact ⟨hw ▸ hp.1, hp.2.1, fun s => by rw [← aop_congr hr]; exact hp.2.2 s⟩
  | make v a n N => exact ⟨hw ▸ hp.1, hp.2.1, by rw [← aop_congr hr]; exact hp.2.2⟩
  | load v g k u agg n =>
    obtain ⟨h1, x, h2, h3⟩ := hp
    refine ⟨hw ▸ h1, x, h2, ?_⟩
    rw [h2] at hr
    rw [← opd_congr hr]
    exact h3
  | store g k u vs =>
    obtain ⟨h1, x, y, h2, h3, h4⟩ := hp
    refine ⟨hw ▸ h1, x, y, h2, ?_⟩
    rw [h2] at hr
    simp only [readsOf, same_app] at hr
    rw [← opd_congr hr.1, ← opd_congr hr.2]
    exact ⟨h3, h4⟩
  | call v a n S S' q =>
    obtain ⟨h1, h2, low, h3⟩ := hp
    exact ⟨hw ▸ h1, h2, low, by rw [← runOp_congr hr]; exact h3⟩

/-- Cells that two operations look at or write: those of other objects, or other cells. -/
def cellsApart (g k u n g' k' u' n' : Nat) : Prop := g = g' → u = u' ∧ (k + n ≤ k' ∨ k' + n' ≤ k)
def clash (x y : DD) : Prop :=
  match x, y with
  | .load _ g k u agg n, .store g' k' u' vs => cellsApart g k u (spanOf agg n) g' k' u' vs.length
  | .store g k u vs, .load _ g' k' u' agg n => cellsApart g k u vs.length g' k' u' (spanOf agg n)
  | .store g k u vs, .store g' k' u' vs' => cellsApart g k u vs.length g' k' u' vs'.length
  | .store .., .call .. => False
  | .call .., .store .. => False
  | .call _ _ _ _ _ q, .call _ _ _ _ _ q' => q = true ∧ q' = true
  | .call _ _ _ _ _ q, .load .. => q = true
  | .load .., .call _ _ _ _ _ q => q = true
  | _, _ => True
/-- Two that may come in either order. -/
structure Apart (x y : DD) : Prop where
  l : ∀ g, x.mine g → ¬ y.touch g
  r : ∀ g, y.mine g → ¬ x.touch g
  m : ∀ g, x.mine g → ¬ y.mine g
  c : clash x y
theorem clash_symm {x y : DD} (h : clash x y) : clash y x := by
  have key : ∀ {g k u n g' k' u' n' : Nat}, cellsApart g k u n g' k' u' n' → cellsApart g' k' u' n' g k u n := fun h e => ⟨(h e.symm).1.symm, (h e.symm).2.symm⟩
  cases x <;> cases y <;> simp only [clash] at h ⊢ <;> first | trivial | exact key h | exact h | exact h.symm | exact ⟨h.2, h.1⟩
theorem Apart.symm {x y : DD} (h : Apart x y) : Apart y x := ⟨h.r, h.l, fun g a b => h.m g b a, clash_symm h.c⟩

theorem rowVal_put {agg : Bool} {k n k' : Nat} {cells vs : List Value} (hl : k' + vs.length ≤ cells.length) (h : k + spanOf agg n ≤ k' ∨ k' + vs.length ≤ k) :
    rowVal agg k n (lput cells k' vs) = rowVal agg k n cells := by
  cases agg with
  | false =>
    simp only [rowVal, spanOf, cond_false, Bool.false_eq_true, if_false, lget_eq] at h ⊢
    rw [getElem?_lput _ _ _ hl, if_neg (by omega)]
  | true =>
    simp only [rowVal, spanOf, cond_true, if_true] at h ⊢
    congr 2
    congr 1
    apply List.ext_getElem?
    intro i
    simp only [List.getElem?_take, List.getElem?_drop]
    split
    · rw [getElem?_lput _ _ _ hl, if_neg (by omega)]
    · rfl
theorem lput_comm {k k' : Nat} {cells vs vs' : List Value} (h1 : k + vs.length ≤ cells.length) (h2 : k' + vs'.length ≤ cells.length)
    (h : k + vs.length ≤ k' ∨ k' + vs'.length ≤ k) : lput (lput cells k vs) k' vs' = lput (lput cells k' vs') k vs := by
  apply List.ext_getElem?
  intro i
  rw [getElem?_lput _ _ _ (by rw [length_lput _ _ _ h1]; exact h2), getElem?_lput _ _ _ h1, getElem?_lput _ _ _ (by rw [length_lput _ _ _ h2]; exact h1), getElem?_lput _ _ _ h2]
  by_cases e1 : k ≤ i ∧ i < k + vs.length
  · by_cases e2 : k' ≤ i ∧ i < k' + vs'.length
    · omega
    · simp [e1, e2]
  · simp [e1]

/-- Where one changes nothing that the other one looks at. -/
theorem chg_touch {x y : DD} (h : Apart x y) (hs : (∀ g k u vs, x ≠ .store g k u vs) ∨ (∀ g, ¬ y.touch g)) (g : Nat) (ht : y.touch g) : ¬ x.chg g := by
  rcases hs with hs | hs
  · intro hc
    cases x with
    | skip => exact hc
    | pure v => exact hc
    | load => exact hc
    | make => exact h.l g hc ht
    | store g k u vs => exact hs _ _ _ _ rfl
    | call v a n S S' q =>
      rcases hc with hc | hc
      · exact h.l g hc ht
      · cases y with
        | skip => exact ht
        | pure v => exact ht
        | make => exact ht
        | load => have := h.c; simp only [clash] at this; rw [this] at hc; exact absurd hc.1 (by simp)
        | store => exact h.c
        | call => have := h.c; simp only [clash] at this; rw [this.1] at hc; exact absurd hc.1 (by simp)
  · exact absurd ht (hs g)

/-- The second one could have come first. -/
theorem pre_back {x y : DD} {H : Nat → Option Ob} (h : Apart x y) (hx : x.hPre H) (hy : y.hPre (fun g => x.pw g (H g))) : y.hPre H := by
  by_cases hs : ∀ g k u vs, x ≠ .store g k u vs
  · exact hPre_congr (fun g ht => (pw_id (chg_touch h (.inl hs) g ht) _).symm) hy
  · cases x with
    | store g0 k u vs =>
      obtain ⟨cells, minv, h1, h2, h3, h4⟩ := hx
      cases y with
      | load v g k' u' agg n =>
        obtain ⟨c, e1, e3, e4⟩ := hy
        by_cases e : g = g0
        · subst e
          obtain ⟨rfl, hd⟩ := h.c rfl
          simp only [pw, if_true, h1, putRow] at e1
          rcases e1 with ⟨l, m, e1, e2⟩ | ⟨e1, e2⟩ <;> cases e1
          exact ⟨cells, .inl ⟨u, minv, h1, h2⟩, e3, by rw [← e4, rowVal_put (by omega) hd.symm]⟩
        · simp only [pw, if_neg e] at e1
          exact ⟨c, e1, e3, e4⟩
      | store g k' u' vs' =>
        obtain ⟨c, m, e1, e2, e3, e4⟩ := hy
        by_cases e : g = g0
        · subst e
          obtain ⟨rfl, hd⟩ := h.c rfl
          exact ⟨cells, minv, h1, h2, e3, h4⟩
        · simp only [pw, if_neg e] at e1
          exact ⟨c, m, e1, e2, e3, e4⟩
      | call v a n S S' q => exact h.c.elim
      | _ => trivial
    | _ => exact absurd (fun _ _ _ _ e => by cases e) hs
/-- The first one may come behind. -/
theorem pre_fwd {x y : DD} {H : Nat → Option Ob} (h : Apart x y) (hx : x.hPre H) (hy : y.hPre H) : x.hPre (fun g => y.pw g (H g)) := by
  by_cases hs : ∀ g k u vs, y ≠ .store g k u vs
  · exact hPre_congr (fun g ht => pw_id (chg_touch h.symm (.inl hs) g ht) _) hx
  · cases y with
    | store g0 k u vs =>
      obtain ⟨cells, minv, h1, h2, h3, h4⟩ := hy
      cases x with
      | load v g k' u' agg n =>
        obtain ⟨c, e1, e3, e4⟩ := hx
        by_cases e : g = g0
        · subst e
          obtain ⟨rfl, hd⟩ := h.c rfl
          rw [h1] at e1
          rcases e1 with ⟨l, m, e1, e2⟩ | ⟨e1, e2⟩ <;> cases e1
          exact ⟨lput cells k vs, .inl ⟨u', u', by simp only [pw, if_true, h1, putRow], Nat.le_refl _⟩, e3, by rw [rowVal_put (by omega) hd, e4]⟩
        · exact ⟨c, by simp only [pw, if_neg e]; exact e1, e3, e4⟩
      | store g k' u' vs' =>
        obtain ⟨c, m, e1, e2, e3, e4⟩ := hx
        by_cases e : g = g0
        · subst e
          obtain ⟨rfl, hd⟩ := h.c rfl
          rw [h1] at e1
          cases e1
          exact ⟨lput cells k vs, u', by simp only [pw, if_true, h1, putRow], Nat.le_refl _, e3, by rw [length_lput _ _ _ (by omega), h4]⟩
        · exact ⟨c, m, by simp only [pw, if_neg e]; exact e1, e2, e3, e4⟩
      | call v a n S S' q => exact h.c.elim
      | _ => trivial
    | _ => exact absurd (fun _ _ _ _ e => by cases e) hs
/-- Either order comes to the same. -/
theorem pw_comm {x y : DD} {H : Nat → Option Ob} (h : Apart x y) (hx : x.hPre H) (hy : y.hPre H) (g : Nat) : y.pw g (x.pw g (H g)) = x.pw g (y.pw g (H g)) := by
  by_cases cx : x.chg g
  · by_cases cy : y.chg g
    · -- both change it: two stores
      have : ∃ g0 k u vs g0' k' u' vs', x = .store g0 k u vs ∧ y = .store g0' k' u' vs' := by
        cases x with
        | skip => exact cx.elim
        | pure => exact cx.elim
        | load => exact cx.elim
        | make v a n N =>
          cases y with
          | skip => exact cy.elim
          | pure => exact cy.elim
          | load => exact cy.elim
          | make => exact absurd cy (h.m g cx)
          | store => exact absurd cy (h.l g cx)
          | call =>
            rcases cy with cy | cy
            · exact absurd cy (h.m g cx)
            · exact absurd cy.2 (h.l g cx)
        | store g0 k u vs =>
          cases y with
          | skip => exact cy.elim
          | pure => exact cy.elim
          | load => exact cy.elim
          | make => exact absurd cx (h.r g cy)
          | store => exact ⟨_, _, _, _, _, _, _, _, rfl, rfl⟩
          | call => exact h.c.elim
        | call v a n S S' q =>
          cases y with
          | skip => exact cy.elim
          | pure => exact cy.elim
          | load => exact cy.elim
          | make =>
            rcases cx with cx | cx
            · exact absurd cy (h.m g cx)
            · exact absurd cx.2 (h.r g cy)
          | store => exact h.c.elim
          | call =>
            have hc := h.c
            simp only [clash] at hc
            rcases cx with cx | cx
            · rcases cy with cy | cy
              · exact absurd cy (h.m g cx)
              · exact absurd cy.2 (h.l g cx)
            · rw [hc.1] at cx; exact absurd cx.1 (by simp)
      obtain ⟨g0, k, u, vs, g0', k', u', vs', rfl, rfl⟩ := this
      simp only [chg] at cx cy
      subst cx
      subst cy
      obtain ⟨rfl, hd⟩ := h.c rfl
      obtain ⟨cells, minv, h1, h2, h3, h4⟩ := hx
      obtain ⟨c, m, e1, e2, e3, e4⟩ := hy
      rw [h1] at e1
      cases e1
      simp only [pw, if_true, h1, putRow]
      rw [lput_comm (by omega) (by omega) hd]
    · rw [pw_id cy, pw_id cy]
  · rw [pw_id cx, pw_id cx]
end DD

theorem pw_trie {d : DD} (hf : d.fact) (H : T Ob) : ∃ H' : T Ob, ∀ g, H'.get g = d.pw g (H.get g) := by
  cases d with
  | make v a n N =>
    refine ⟨layFrom N a n H, fun g => ?_⟩
    rw [get_layFrom]
    simp only [DD.pw, DD.ovr]
    by_cases h : a ≤ g ∧ g < a + n
    · rw [if_pos h]
      cases hN : N.get g with
      | none => simp
      | some o => simp [h]
    · rw [if_neg h, if_neg (fun h' => h ⟨h'.1, h'.2.1⟩)]
  | store g0 k u vs =>
    cases hH : H.get g0 with
    | none =>
      refine ⟨H, fun g => ?_⟩
      simp only [DD.pw]
      by_cases e : g = g0
      · subst e; rw [if_pos rfl, hH]; rfl
      · rw [if_neg e]
    | some o =>
      cases o with
      | row cells n m =>
        refine ⟨H.set g0 (.row (lput cells k vs) u u), fun g => ?_⟩
        rw [T.get_set]
        simp only [DD.pw]
        by_cases e : g = g0
        · subst e; rw [if_pos rfl, if_pos rfl, hH]; rfl
        · rw [if_neg e, if_neg e]
      | _ =>
        refine ⟨H, fun g => ?_⟩
        simp only [DD.pw]
        by_cases e : g = g0
        · subst e; rw [if_pos rfl, hH]; rfl
        · rw [if_neg e]
  | call v a n S S' q =>
    cases q with
    | true =>
      refine ⟨layFrom S' a n H, fun g => ?_⟩
      rw [get_layFrom]
      simp only [DD.pw, DD.ovr, Bool.true_eq_false, false_and, or_false]
      by_cases h : a ≤ g ∧ g < a + n
      · rw [if_pos h]
        cases hN : S'.get g with
        | none => simp
        | some o => simp [h]
      · rw [if_neg h, if_neg (fun h' => h ⟨h'.1, h'.2.1⟩)]
    | false =>
      refine ⟨S'.over H, fun g => ?_⟩
      rw [T.get_over]
      simp only [DD.pw, DD.ovr, true_and]
      by_cases h : (a ≤ g ∧ g < a + n) ∨ (S.get g).isSome
      · rw [if_pos h]; cases S'.get g <;> rfl
      · rw [if_neg h]
        cases hN : S'.get g with
        | none => rfl
        | some o => exact absurd (hf.2.1 g (by simp [hN])).symm h
  | _ => exact ⟨H, fun g => rfl⟩

/-- Slots behind an operation. -/
def PutR (o : AOper) (v : Value) (tm tm' : T Value) : Prop := ∀ t, tm'.get t = if o.dst = some t then some v else tm.get t
theorem putR_put (o : AOper) (v : Value) (tm : T Value) : PutR o v tm (put tm o.dst v) := by
  intro t
  cases hd : o.dst with
  | none => simp [put]
  | some d => simp only [put, T.get_set, Option.some.injEq]; by_cases e : t = d <;> simp [e, eq_comm]

structure Step (ms : Meths) (call : CallK) (o : AOper) (d : DD) (tm : T Value) (H : T Ob) (tm' : T Value) (H' : T Ob) : Prop where
  t : d.tPre ms call o tm
  h : d.hPre H.get
  tm : PutR o d.val tm tm'
  heap : ∀ g, H'.get g = d.pw g (H.get g)

theorem slots_free {o : AOper} {d : Option Nat} (h : freeOf d o = true) : ∀ t, d = some t → t ∉ slotsOf o := by
  intro t ht hm
  subst ht
  simp only [freeOf, Bool.and_eq_true, Bool.not_eq_true'] at h
  rw [← Bool.not_eq_true, memN_iff] at h
  exact h.1 hm
theorem dst_free {o : AOper} {d : Option Nat} (h : freeOf d o = true) : ∀ t, d = some t → o.dst ≠ some t := by
  intro t ht hm
  subst ht
  simp [freeOf, hm] at h
theorem same_put {o o' : AOper} {v : Value} {tm tm' : T Value} (h : freeOf o.dst o' = true) (hp : PutR o v tm tm') : Same tm tm' (slotsOf o') :=
  ⟨fun t ht => by rw [hp t, if_neg (fun e => slots_free h t e ht)]⟩

theorem Step.swap {ms : Meths} {call : CallK} {x y : AOper} {dx dy : DD} {tm tm1 tm2 : T Value} {H H1 H2 : T Ob} (hp : pairOk x y = true) (ha : DD.Apart dx dy) (fy : dy.fact)
    (s1 : Step ms call x dx tm H tm1 H1) (s2 : Step ms call y dy tm1 H1 tm2 H2) :
    ∃ tm' H', Step ms call y dy tm H tm' H' ∧ Step ms call x dx tm' H' tm2 H2 := by
  simp only [pairOk, Bool.and_eq_true] at hp
  have e1 : H1.get = fun g => dx.pw g (H.get g) := funext s1.heap
  have hy : dy.hPre H.get := DD.pre_back ha s1.h (e1 ▸ s2.h)
  obtain ⟨H', hH'⟩ := pw_trie fy H
  have e2 : H'.get = fun g => dy.pw g (H.get g) := funext hH'
  have c1 := same_put hp.1 s1.tm
  have p1 := putR_put y dy.val tm
  have c2 := same_put hp.2 p1
  refine ⟨put tm y.dst dy.val, H', ⟨DD.tPre_congr ⟨fun t ht => (c1.at_ t ht).symm⟩ s2.t, hy, p1, hH'⟩, ⟨DD.tPre_congr c2 s1.t, ?_, ?_, ?_⟩⟩
  · rw [e2]; exact DD.pre_fwd ha s1.h hy
  · intro t
    rw [s2.tm t, s1.tm t, p1 t]
    by_cases ey : y.dst = some t
    · rw [if_pos ey, if_neg (fun e => dst_free hp.2 t ey e), if_pos ey]
    · rw [if_neg ey, if_neg ey]
  · intro g
    rw [s2.heap, s1.heap, hH', DD.pw_comm ha s1.h hy]

/-- A run of some operations. -/
def RunD (ms : Meths) (call : CallK) : List (AOper × DD) → T Value → T Ob → T Value → T Ob → Prop
  | [], tm, H, tm', H' => (∀ t, tm'.get t = tm.get t) ∧ ∀ g, H'.get g = H.get g
  | (o, d) :: r, tm, H, tm', H' => ∃ tm1 H1, Step ms call o d tm H tm1 H1 ∧ RunD ms call r tm1 H1 tm' H'

theorem RunD.bubble {ms : Meths} {call : CallK} {y : AOper} {dy : DD} (fy : dy.fact) : ∀ {js r : List (AOper × DD)} {tm tm' : T Value} {H H' : T Ob},
    (∀ p ∈ js, pairOk p.1 y = true ∧ DD.Apart p.2 dy) → RunD ms call (js ++ (y, dy) :: r) tm H tm' H' →
    ∃ tm1 H1, Step ms call y dy tm H tm1 H1 ∧ RunD ms call (js ++ r) tm1 H1 tm' H'
  | [], r, tm, tm', H, H', _, h => h
  | (x, dx) :: js, r, tm, tm', H, H', hj, h => by
    obtain ⟨tm1, H1, s1, h1⟩ := h
    obtain ⟨tm2, H2, s2, h2⟩ := bubble fy (fun p hp => hj p (List.mem_cons_of_mem _ hp)) h1
    have hx := hj (x, dx) List.mem_cons_self
    obtain ⟨tm3, H3, s3, s4⟩ := Step.swap hx.1 hx.2 fy s1 s2
    exact ⟨tm3, H3, s3, tm2, H2, s4, h2⟩
end Go.Am
