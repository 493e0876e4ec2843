/-
  THE ABSTRACT MACHINE: a table of functions, entry by entry.
-/
import Derived.Test.YtdmijaofelgonaaGreatDoorAmN
namespace Go.Am
namespace T
variable {α : Type}
def toList : T α → List (Nat × α)
  | .e => []
  | .n l v r => (match v with | some x => [(0, x)] | none => []) ++ (l.toList).map (fun p => (2 * p.1 + 1, p.2)) ++ (r.toList).map (fun p => (2 * p.1 + 2, p.2))
theorem mem_toList : ∀ (t : T α) (k : Nat) (v : α), t.get k = some v → (k, v) ∈ t.toList
  | .e, k, v, h => by simp [get] at h
  | .n l x r, 0, v, h => by
    simp only [get] at h
    subst h
    simp [toList]
  | .n l x r, k + 1, v, h => by
    simp only [get] at h
    cases hb : Nat.beq (k % 2) 0 with
    | true =>
      simp only [hb, cond_true] at h
      have e : k % 2 = 0 := Nat.eq_of_beq_eq_true hb
      have := mem_toList l (k / 2) v h
      simp only [toList, List.mem_append, List.mem_map]
      exact .inl (.inr ⟨_, this, by simp; omega⟩)
    | false =>
      simp only [hb, cond_false] at h
      have e : k % 2 ≠ 0 := fun e => by rw [e] at hb; simp at hb
      have := mem_toList r (k / 2) v h
      simp only [toList, List.mem_append, List.mem_map]
      exact .inr ⟨_, this, by simp; omega⟩
end T

/-- What is to be shown of an entry. -/
def EntOk (P : Program) (f : Nat) (e : AFn) : Prop :=
  match e with
  | .code fn => ∃ F, P.funcs[f]? = some F ∧ (F.name == "runtime.NumGoroutine") = false ∧ compFn P F = some fn
  | .keys ck fs => FnOk P f (sortedKeys ck fs)
  | .clone => FnOk P f cloneStr
  | .prim g _ => FnOk P f g
theorem all_nil {Q : Nat × AFn → Prop} : ∀ p ∈ ([] : List (Nat × AFn)), Q p := fun _ h => by cases h
theorem all_cons {Q : Nat × AFn → Prop} {x : Nat × AFn} {l : List (Nat × AFn)} (h : Q x) (h' : ∀ p ∈ l, Q p) : ∀ p ∈ x :: l, Q p := fun p hp => by
  rcases List.mem_cons.1 hp with rfl | hp
  · exact h
  · exact h' p hp
theorem tabOk_of {P : Program} {t : T AFn} {l : List (Nat × AFn)} (h : t.toList = l) (h' : ∀ p ∈ l, EntOk P p.1 p.2) : TabOk P t.get := fun f e he => h' (f, e) (h ▸ T.mem_toList t f e he)
end Go.Am

namespace Go.Am.R1
abbrev o (d : Nat) (op : AOp) : AOper := ⟨some d, none, 0, op⟩
abbrev t := Opd.tmp
end Go.Am.R1

/-
  THE ABSTRACT MACHINE: a call that was run upon a part of the heap and has left it as it was is a call that does nothing, seen from the whole.
-/
namespace Go.Am

/-- What is related in a later placing was so in the earlier one, if it was placed there at all. -/
theorem VRel.back {a b : Mu} (h : Ext a b) {x y0 : Value} (h1 : VRel a x y0) : ∀ {y : Value}, VRel b x y → VRel a x y := by
  have loc : ∀ {g v : Nat} {l l' : Loc}, a g v = some l → b g v = some l' → l' = l := fun e e' => Option.some.inj (e'.symm.trans (h _ _ _ e))
  induction h1 with
  | bool c => intro y h2; cases h2; exact .bool c
  | int k n => intro y h2; cases h2; exact .int k n
  | str s => intro y h2; cases h2; exact .str s
  | ptrNil => intro y h2; cases h2; exact .ptrNil
  | ptr e =>
    intro y h2
    cases h2 with
    | ptr e' => have := loc e e'; subst this; exact .ptr e
  | slNil => intro y h2; cases h2; exact .slNil
  | sl e _ _ _ _ _ =>
    intro y h2
    cases h2 with
    | sl e' k1 k2 k3 k4 k5 => have := loc e e'; subst this; exact .sl e k1 k2 k3 k4 k5
  | mapNil => intro y h2; cases h2; exact .mapNil
  | map e =>
    intro y h2
    cases h2 with
    | map e' => have := loc e e'; subst this; exact .map e
  | nilFunc => intro y h2; cases h2; exact .nilFunc
  | func l1 _ l2 _ i1 i2 =>
    intro y h2
    cases h2 with
    | func m1 q1 m2 q2 =>
      refine .func m1 (fun i x y hx hy => ?_) m2 (fun i x y hx hy => ?_)
      · obtain ⟨hi, _⟩ := List.getElem?_eq_some_iff.1 hx
        exact i1 i x _ hx (List.getElem?_eq_getElem (l1 ▸ hi)) (q1 i x y hx hy)
      · obtain ⟨hi, _⟩ := List.getElem?_eq_some_iff.1 hx
        exact i2 i x _ hx (List.getElem?_eq_getElem (l2 ▸ hi)) (q2 i x y hx hy)
  | nilIface => intro y h2; cases h2; exact .nilIface
  | iface _ ih =>
    intro y h2
    cases h2 with
    | iface h3 => exact .iface (ih h3)
  | agg l1 ho _ ih =>
    intro y h2
    cases h2 with
    | agg m1 mo q =>
      refine .agg m1 mo (fun i x y hx hy => ?_)
      obtain ⟨hi, _⟩ := List.getElem?_eq_some_iff.1 hx
      exact ih i x _ hx (List.getElem?_eq_getElem (l1 ▸ hi)) (q i x y hx hy)
  | tuple l1 _ ih =>
    intro y h2
    cases h2 with
    | tuple m1 q =>
      refine .tuple m1 (fun i x y hx hy => ?_)
      obtain ⟨hi, _⟩ := List.getElem?_eq_some_iff.1 hx
      exact ih i x _ hx (List.getElem?_eq_getElem (l1 ▸ hi)) (q i x y hx hy)

theorem StepR.forget {μ μS μ' : Mu} {H S S' : T Ob} {a b : Nat} {w w' : World} (r : Rel μ H w) (rS : Rel μS S w) (hsub : ∀ g o, S.get g = some o → H.get g = some o) (hμ : Ext μS μ)
    (hμS : ∀ g, (S.get g).isSome → ∀ v, μ g v = μS g v) (s : StepR μS S a w μ' S' b w') (hsame : ∀ g o, S.get g = some o → S'.get g = some o) (nx : Nat) : StepR μ H nx w μ H nx w' := by
  have hown : ∀ g b, Owns μS S g b → Owns μ H g b := fun g b ⟨o, v, l, h1, h2, h3, h4⟩ => ⟨o, v, l, hsub g o h1, h2, hμ _ _ _ h3, h4⟩
  have hblock : ∀ g o v l, H.get g = some o → S.get g = none → o.good v → μ g v = some l → w'.heap[l.b]? = w.heap[l.b]? := fun g o v l h1 h2 h3 h4 => by
    have hO : Owns μ H g l.b := ⟨o, v, l, h1, h3, h4, rfl⟩
    refine s.frame l.b (owns_lt r hO) (fun g' hg' => ?_)
    have := r.inj g' g l.b (hown _ _ hg') hO
    subst this
    obtain ⟨o', v', l', e1, _⟩ := hg'
    rw [h2] at e1; cases e1
  refine ⟨.refl μ, ⟨fun g o ho => ?_, r.cst, r.inj, r.fit⟩, Nat.le_refl _, fun _ h => h, fun g h h' => by simp [h'] at h, fun _ _ _ _ => rfl, s.size, s.tape, s.os, s.output, fun g b h _ => ⟨g, h⟩,
    fun b hb hn => s.frame b hb (fun g hg => hn g (hown _ _ hg)), s.kind, fun _ _ h => ⟨h, fun _ => rfl⟩⟩
  have hro : ∀ g cells v l, H.get g = some (.ro cells) → μ g v = some l → v ≤ cells.length → w'.heap[l.b]? = w.heap[l.b]? := fun g cells v l h1 h2 h3 =>
    s.frame l.b (ro_lt r h1 h2 h3) (fun g' hg' => r.cst g cells v l h1 h2 h3 g' (hown _ _ hg'))
  cases e : S.get g with
  | none => exact (r.obj g o ho).keep (.refl μ) (fun _ => rfl) (fun v l hg hl => hblock g o v l ho e hg hl) (fun cells v l he hl hv => by subst he; exact hro g cells v l ho hl hv)
  | some o' =>
    have : o' = o := Option.some.inj ((hsub g o' e).symm.trans ho)
    subst this
    have hS : (S.get g).isSome := by simp [e]
    have r0 := r.obj g _ ho
    have r1 := rS.obj g _ e
    have r2 := s.rel.obj g _ (hsame g _ e)
    cases o' with
    | row cells n minv =>
      refine ⟨r0.1, r0.2.1, fun v l hl hv => ?_, r0.2.2.2⟩
      have hl1 : μS g v = some l := by rw [← hμS g hS]; exact hl
      have q1 := r1.2.2.1 v l hl1 hv
      have q2 := r2.2.2.1 v l (s.ext _ _ _ hl1) hv
      obtain ⟨C1, e1, f1, _, _, _, d1⟩ := q1.ex
      obtain ⟨C2, e2, f2, a2, b2, c2, d2⟩ := q2.ex
      refine ⟨q2.le, C2, e2, f2, a2, b2, c2, fun i x hi hx => ?_⟩
      obtain ⟨y0, _, hy0⟩ := d1 i x hi hx
      obtain ⟨y, hy, hyy⟩ := d2 i x hi hx
      exact ⟨y, hy, (hy0.back s.ext hyy).ext hμ⟩
    | map es clock =>
      intro l hl
      have hl1 : μS g 0 = some l := by rw [← hμS g hS]; exact hl
      obtain ⟨ES1, _, s1, q1⟩ := r1 l hl1
      obtain ⟨ES2, a2, s2, q2⟩ := r2 l (s.ext _ _ _ hl1)
      refine ⟨ES2, a2, s2, fun i e' E he hE => ?_⟩
      obtain ⟨k1, k2, k3, k4⟩ := q2 i e' E he hE
      have hi : i < ES1.size := by
        rcases Nat.lt_or_ge i es.length with h' | h'
        · omega
        · simp [List.getElem?_eq_none h'] at he
      obtain ⟨_, _, j3, _⟩ := q1 i e' ES1[i] he (by simp [hi])
      exact ⟨k1, k2, (j3.back s.ext k3).ext hμ, k4⟩
    | iter sx pos =>
      intro l hl
      have hl1 : μS g 0 = some l := by rw [← hμS g hS]; exact hl
      exact r2 l (s.ext _ _ _ hl1)
    | dead => trivial
    | ro cells => exact r0.keep (.refl μ) (fun _ => rfl) (fun v l hg _ => hg.elim) (fun c v l he hl hv => by cases he; exact hro g _ v l ho hl hv)

/-- The placing of what was handed in alone. -/
def lowMu (μ : Mu) : Mu := fun g v => if g < 1000 then μ g v else none
theorem lowMu_ext (μ : Mu) : Ext (lowMu μ) μ := fun g v l h => by
  unfold lowMu at h
  split at h
  · exact h
  · cases h
/-- A value that names nothing but what was handed in. -/
def lowV : Value → Bool
  | .bool _ => true
  | .int _ _ => true
  | .string _ => true
  | .pointer (some ⟨g, _, _⟩) => Nat.blt g 1000
  | .iface _ v => lowV v
  | _ => false
theorem low_rel {μ : Mu} : ∀ {x y : Value}, lowV x = true → VRel μ x y → VRel (lowMu μ) x y := by
  intro x y hx h
  induction h with
  | bool c => exact .bool c
  | int k n => exact .int k n
  | str s => exact .str s
  | ptr e =>
    rename_i g i v l
    simp only [lowV] at hx
    have : g < 1000 := Nat.le_of_ble_eq_true hx
    exact .ptr (by unfold lowMu; rw [if_pos this]; exact e)
  | iface _ ih => simp only [lowV] at hx; exact .iface (ih hx)
  | _ => simp [lowV] at hx

section
variable {P : Program}
/-- A closed call, run once upon what was handed in, which it leaves as it was: wherever that stands, it yields what it has yielded, and does nothing. -/
theorem closed_ok {tab : Nat → Option AFn} {ms : Meths} {k f : Nat} {S : T Ob} {c : Bool} {s' : St} (hrun : acall tab ms k f [] ⟨S, 1000, 1000⟩ = .ok (.bool c, s')) (hlow : 1000 ≤ s'.low)
    (hS : ∀ g o, S.get g = some o → g < 1000 ∧ ∃ cells, o = .ro cells ∧ ∀ x ∈ cells, lowV x = true) (hglob : P.globals.size ≤ 1000) (hcall : CallOk P (acall tab ms k))
    {g : List Value → St → R (Value × St)} (hgs : ∀ args s v s', g args s = .ok (v, s') → args = [] ∧ v = .bool c ∧ s' = s ∧ ∀ g o, S.get g = some o → s.heap.get g = some o) : FnOk P f g := by
  intro args argsc s s1 v μ w hi hgl ha hinv h hle
  obtain ⟨rfl, rfl, rfl, hsub⟩ := hgs _ _ _ _ h
  obtain rfl : argsc = [] := List.eq_nil_of_length_eq_zero ha.1.symm
  have hfr := acall_fr k f [] ⟨S, 1000, 1000⟩ _ _ hrun
  have rS : Rel (lowMu μ) S w := by
    refine ⟨fun g0 o ho => ?_, fun g0 cells v0 l hp hl hv g2 h2 => ?_, fun g1 g2 b h1 h2 => ?_, fun g0 v0 l hl => hinv.rel.fit g0 v0 l (lowMu_ext μ _ _ _ hl)⟩
    · obtain ⟨hg0, cells, rfl, hc⟩ := hS g0 o ho
      have r0 := hinv.rel.obj g0 _ (hsub g0 _ ho)
      have hμ : ∀ v, lowMu μ g0 v = μ g0 v := fun v => by unfold lowMu; rw [if_pos hg0]
      refine ⟨r0.1, fun v0 l hl hv => ?_⟩
      obtain ⟨C, e, f0, a1, a4⟩ := r0.2 v0 l (by rw [← hμ]; exact hl) hv
      refine ⟨C, e, f0, a1, fun i x hi hx => ?_⟩
      obtain ⟨y, hy, hyy⟩ := a4 i x hi hx
      exact ⟨y, hy, low_rel (hc x (List.mem_of_getElem? hx)) hyy⟩
    · obtain ⟨o2, v2, l2, b1, b2, b3, b4⟩ := h2
      exact hinv.rel.cst g0 cells v0 l (hsub _ _ hp) (lowMu_ext μ _ _ _ hl) hv g2 ⟨o2, v2, l2, hsub _ _ b1, b2, lowMu_ext μ _ _ _ b3, b4⟩
    · obtain ⟨o1, v1, l1, a1, a2, a3, a4⟩ := h1
      obtain ⟨o2, v2, l2, b1, b2, b3, b4⟩ := h2
      exact hinv.rel.inj g1 g2 b ⟨o1, v1, l1, hsub _ _ a1, a2, lowMu_ext μ _ _ _ a3, a4⟩ ⟨o2, v2, l2, hsub _ _ b1, b2, lowMu_ext μ _ _ _ b3, b4⟩
  have hdom : ∀ g0, 1000 ≤ g0 → S.get g0 = none := fun g0 h0 => by
    cases e : S.get g0 with
    | none => rfl
    | some o => have := (hS g0 o e).1; omega
  have hI : Inv (lowMu μ) S 1000 s'.next w := ⟨rS, hdom, fun g0 v0 h1 h2 => by unfold lowMu; rw [if_neg (by omega)]⟩
  have hgl' : Gl P (lowMu μ) := fun g0 gl i h1 h2 => by
    obtain ⟨z, hz⟩ := hgl g0 gl i h1 h2
    refine ⟨z, ?_⟩
    have : g0 < P.globals.size := by
      rcases Nat.lt_or_ge g0 P.globals.size with h' | h'
      · exact h'
      · simp [Array.getElem?_eq_none h'] at h1
    unfold lowMu
    rw [if_pos (by omega)]
    exact hz
  obtain ⟨c1, c2⟩ := hcall f [] [] ⟨S, 1000, 1000⟩ s' (.bool c) (lowMu μ) w s'.next hgl' (.nil _) hI hrun (Nat.le_refl _)
  refine ⟨c1, Calls.mono c2 fun e w' he => ?_⟩
  obtain ⟨vc, μ', rfl, h3, h4⟩ := he
  cases h3
  refine ⟨_, μ, rfl, .bool c, StepR.forget hinv.rel rS hsub (lowMu_ext μ) (fun g0 h0 v0 => ?_) h4 (fun g0 o ho => ?_) s1.next⟩
  · cases e : S.get g0 with
    | none => rw [e] at h0; cases h0
    | some o => unfold lowMu; rw [if_pos (hS g0 o e).1]
  · have hg0 := (hS g0 o ho).1
    have h5 := hfr.same g0 hg0 (Nat.lt_of_lt_of_le hg0 hlow)
    rw [h5]
    exact ho
end
end Go.Am
