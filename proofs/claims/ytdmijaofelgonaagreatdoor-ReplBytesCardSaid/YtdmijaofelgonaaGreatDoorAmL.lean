/-
  THE ABSTRACT MACHINE: one operation of a region, in the model; an operation that looks at a part of the heap alone.
-/
import Derived.Test.YtdmijaofelgonaaGreatDoorAmK
import Derived.Tactics
namespace Go.Am

theorem Rel.sub {μ : Mu} {S H : T Ob} {w : World} (r : Rel μ H w) (h : ∀ g o, S.get g = some o → H.get g = some o) : Rel μ S w where
  obj g o ho := r.obj g o (h g o ho)
  cst g cells v l hp hl hv g' h2 := by
    obtain ⟨o, v2, l2, a1, a2⟩ := h2
    exact r.cst g cells v l (h g _ hp) hl hv g' ⟨o, v2, l2, h g' o a1, a2⟩
  inj g g' b h1 h2 := by
    obtain ⟨o, v, l, a1, a2⟩ := h1
    obtain ⟨o', v', l', b1, b2⟩ := h2
    exact r.inj g g' b ⟨o, v, l, h g o a1, a2⟩ ⟨o', v', l', h g' o' b1, b2⟩
  fit := r.fit

/-- From one state to another one; the names that are made are among N. -/
structure StepN (N : Nat → Prop) (μ : Mu) (H : T Ob) (w : World) (μ' : Mu) (H' : T Ob) (w' : World) : Prop where
  ext : Ext μ μ'
  rel : Rel μ' H' w'
  dom : ∀ g, (H.get g).isSome → (H'.get g).isSome
  new : ∀ g, (H'.get g).isSome → H.get g = none → N g
  other : ∀ g v, H.get g = none → ¬ N g → μ' g v = μ g v
  size : w.heap.size ≤ w'.heap.size
  tape : w'.tape = w.tape
  os : w'.os = w.os
  output : w'.output = w.output
  own : ∀ g b, Owns μ' H' g b → b < w.heap.size → ∃ g0, Owns μ H g0 b
  frame : ∀ b, b < w.heap.size → (∀ g, ¬ Owns μ H g b) → w'.heap[b]? = w.heap[b]?
  kind : Kinds w w'
  roo : ∀ g cells, H'.get g = some (.ro cells) → H.get g = some (.ro cells) ∧ ∀ v, μ' g v = μ g v

theorem StepR.toN {μ μ' : Mu} {H H' : T Ob} {a b : Nat} {w w' : World} (s : StepR μ H a w μ' H' b w') : StepN (fun g => a ≤ g ∧ g < b) μ H w μ' H' w' :=
  ⟨s.ext, s.rel, s.dom, s.new, fun g v h1 h2 => s.other g v h1 (by omega), s.size, s.tape, s.os, s.output, s.own, s.frame, s.kind, s.roo⟩
theorem StepN.toR {μ μ' : Mu} {H H' : T Ob} {a b : Nat} {w w' : World} (s : StepN (fun g => a ≤ g ∧ g < b) μ H w μ' H' w') (h : a ≤ b) : StepR μ H a w μ' H' b w' :=
  ⟨s.ext, s.rel, h, s.dom, s.new, fun g v h1 h2 => s.other g v h1 (by omega), s.size, s.tape, s.os, s.output, s.own, s.frame, s.kind, s.roo⟩
theorem StepN.mono {N M : Nat → Prop} {μ μ' : Mu} {H H' : T Ob} {w w' : World} (s : StepN N μ H w μ' H' w') (h : ∀ g, N g → M g) : StepN M μ H w μ' H' w' :=
  ⟨s.ext, s.rel, s.dom, fun g h1 h2 => h g (s.new g h1 h2), fun g v h1 h2 => s.other g v h1 (fun h3 => h2 (h g h3)), s.size, s.tape, s.os, s.output, s.own, s.frame, s.kind, s.roo⟩
theorem StepN.refl {N : Nat → Prop} {μ : Mu} {H : T Ob} {w : World} (r : Rel μ H w) : StepN N μ H w μ H w :=
  ⟨.refl μ, r, fun _ h => h, fun g h h' => by simp [h'] at h, fun _ _ _ _ => rfl, Nat.le_refl _, rfl, rfl, rfl, fun g b h _ => ⟨g, h⟩, fun _ _ _ => rfl, .refl w, fun _ _ h => ⟨h, fun _ => rfl⟩⟩
theorem StepN.trans {N : Nat → Prop} {μ μ1 μ2 : Mu} {H H1 H2 : T Ob} {w w1 w2 : World}
    (a : StepN N μ H w μ1 H1 w1) (b : StepN N μ1 H1 w1 μ2 H2 w2) : StepN N μ H w μ2 H2 w2 where
  ext := a.ext.trans b.ext
  rel := b.rel
  dom g h := b.dom g (a.dom g h)
  new g h h' := by
    by_cases e : H1.get g = none
    · exact b.new g h e
    · exact a.new g (by cases hh : H1.get g <;> simp_all) h'
  other g v h h' := by
    have h1 : H1.get g = none := by
      cases e : H1.get g with
      | none => rfl
      | some o => exact absurd (a.new g (by simp [e]) h) h'
    rw [b.other g v h1 h', a.other g v h h']
  size := Nat.le_trans a.size b.size
  tape := b.tape.trans a.tape
  os := b.os.trans a.os
  output := b.output.trans a.output
  own g bb h hb := by
    obtain ⟨g1, h1⟩ := b.own g bb h (Nat.lt_of_lt_of_le hb a.size)
    exact a.own g1 bb h1 hb
  frame bb hb hn := by
    rw [b.frame bb (Nat.lt_of_lt_of_le hb a.size) (fun g hg => by
      obtain ⟨g0, h0⟩ := a.own g bb hg hb
      exact hn g0 h0), a.frame bb hb hn]
  kind := a.kind.trans b.kind
  roo g cells h := by
    obtain ⟨h1, h2⟩ := b.roo g cells h
    obtain ⟨h3, h4⟩ := a.roo g cells h1
    exact ⟨h3, fun v => (h2 v).trans (h4 v)⟩
theorem Rel.congr {μ : Mu} {H H2 : T Ob} {w : World} (r : Rel μ H w) (h : ∀ g, H2.get g = H.get g) : Rel μ H2 w :=
  r.sub fun g o ho => by rw [← h g]; exact ho
theorem StepN.congr {N : Nat → Prop} {μ μ' : Mu} {H H' H2 : T Ob} {w w' : World} (s : StepN N μ H w μ' H' w') (h : ∀ g, H2.get g = H'.get g) : StepN N μ H w μ' H2 w' :=
  ⟨s.ext, s.rel.congr h, fun g hg => by rw [h]; exact s.dom g hg, fun g h1 h2 => s.new g (by rw [← h]; exact h1) h2, s.other, s.size, s.tape, s.os, s.output,
   fun g b ⟨o, v, l, h1, h2⟩ hb => s.own g b ⟨o, v, l, by rw [← h]; exact h1, h2⟩ hb, s.frame, s.kind, fun g cells hg => s.roo g cells (by rw [← h]; exact hg)⟩

/-- What is done upon a part of the heap, seen from the whole. -/
theorem StepN.over {N : Nat → Prop} {μ μ' : Mu} {S S' H H' : T Ob} {w w' : World} (r : Rel μ H w) (hsub : ∀ g o, S.get g = some o → H.get g = some o)
    (s : StepN N μ S w μ' S' w') (hN : ∀ g, N g → H.get g = none) (hH' : ∀ g, H'.get g = match S'.get g with | some o => some o | none => H.get g) : StepN N μ H w μ' H' w' := by
  -- what stands in H alone
  have hout : ∀ g, S'.get g = none → S.get g = none ∧ H'.get g = H.get g := fun g hg => by
    refine ⟨?_, by rw [hH', hg]⟩
    cases e : S.get g with
    | none => rfl
    | some o => have := s.dom g (by simp [e]); rw [hg] at this; cases this
  have hin : ∀ g o, S'.get g = some o → H'.get g = some o := fun g o hg => by rw [hH', hg]
  have hkeep : ∀ g o, H.get g = some o → S'.get g = none → ∀ v, μ' g v = μ g v := fun g o ho hg v =>
    s.other g v (hout g hg).1 (fun hn => by rw [hN g hn] at ho; cases ho)
  have hown : ∀ g b, Owns μ S g b → Owns μ H g b := fun g b ⟨o, v, l, h1, h2⟩ => ⟨o, v, l, hsub g o h1, h2⟩
  have hblock : ∀ g o v l, H.get g = some o → S'.get g = none → o.good v → μ g v = some l → w'.heap[l.b]? = w.heap[l.b]? := fun g o v l h1 h2 h3 h4 => by
    have hO : Owns μ H g l.b := ⟨o, v, l, h1, h3, h4, rfl⟩
    refine s.frame l.b (owns_lt r hO) (fun g' hg' => ?_)
    have := r.inj g' g l.b (hown _ _ hg') hO
    subst this
    obtain ⟨o', v', l', e1, _⟩ := hg'
    rw [(hout g' h2).1] at e1; cases e1
  have cls : ∀ b g, Owns μ' H' g b → Owns μ' S' g b ∨ (S'.get g = none ∧ Owns μ H g b) := fun b g h => by
    obtain ⟨o, v, l, a1, a2, a3, a4⟩ := h
    cases e : S'.get g with
    | some o' => rw [hin g o' e] at a1; cases a1; exact .inl ⟨_, v, l, e, a2, a3, a4⟩
    | none =>
      rw [(hout g e).2] at a1
      exact .inr ⟨rfl, o, v, l, a1, a2, by rw [← hkeep g o a1 e]; exact a3, a4⟩
  refine ⟨s.ext, ⟨fun g o ho => ?_, fun g cells v l hp hl hv g2 h2 => ?_, fun g g' b h1 h2 => ?_, s.rel.fit⟩, fun g hg => ?_, fun g h1 h2 => ?_, fun g v h1 h2 => ?_, s.size, s.tape, s.os, s.output, fun g b h hb => ?_, fun b hb hn => ?_, s.kind, fun g cells hg => ?_⟩
  · cases e : S'.get g with
    | some o' =>
      rw [hin g o' e] at ho
      cases ho
      exact s.rel.obj g _ e
    | none =>
      rw [(hout g e).2] at ho
      have ro := r.obj g o ho
      have k := hkeep g o ho e
      cases o with
      | row cells n minv =>
        refine ⟨ro.1, ro.2.1, fun v l hl hv => ?_, fun v l v' l' hl hv hl' hv' => ?_⟩
        · rw [k] at hl
          have := ro.2.2.1 v l hl hv
          refine ⟨this.le, ?_⟩
          obtain ⟨C, e', f, c1, c2, c3, c4⟩ := this.ex
          refine ⟨C, e', f, by rw [hblock g _ v l ho e hv hl]; exact c1, c2, c3, fun i x hi hx => ?_⟩
          obtain ⟨y, y1, y2⟩ := c4 i x hi hx
          exact ⟨y, y1, y2.ext s.ext⟩
        · rw [k] at hl hl'
          exact ro.2.2.2 v l v' l' hl hv hl' hv'
      | map es clock =>
        intro l hl
        rw [k] at hl
        obtain ⟨ES, c1, c2, c3⟩ := ro l hl
        refine ⟨ES, by rw [hblock g _ 0 l ho e rfl hl]; exact c1, c2, fun i e E he hE => ?_⟩
        obtain ⟨d1, d2, d3, d4⟩ := c3 i e E he hE
        exact ⟨d1, d2, d3.ext s.ext, d4⟩
      | iter sx pos =>
        intro l hl
        rw [k] at hl
        rw [hblock g _ 0 l ho e rfl hl]
        exact ro l hl
      | dead => trivial
      | ro cells =>
        refine ⟨ro.1, fun v l hl hv => ?_⟩
        rw [k] at hl
        obtain ⟨C, e', f, c1, c2⟩ := ro.2 v l hl hv
        have hb : w'.heap[l.b]? = w.heap[l.b]? := s.frame l.b (ro_lt r ho hl hv) (fun g' hg' => r.cst g cells v l ho hl hv g' (hown _ _ hg'))
        refine ⟨C, e', f, by rw [hb]; exact c1, fun i x hi hx => ?_⟩
        obtain ⟨y, y1, y2⟩ := c2 i x hi hx
        exact ⟨y, y1, y2.ext s.ext⟩
  · -- what is only read is nobody's
    cases e : S'.get g with
    | some o' =>
      rw [hin g o' e] at hp
      cases hp
      rcases cls l.b g2 h2 with a | a
      · exact s.rel.cst g cells v l e hl hv g2 a
      · obtain ⟨e1, e2⟩ := s.roo g cells e
        exact r.cst g cells v l (hsub g _ e1) (by rw [← e2]; exact hl) hv g2 a.2
    | none =>
      rw [(hout g e).2] at hp
      have hl0 := hl
      rw [hkeep g _ hp e] at hl0
      rcases cls l.b g2 h2 with a | a
      · obtain ⟨g0, h0⟩ := s.own g2 l.b a (ro_lt r hp hl0 hv)
        exact r.cst g cells v l hp hl0 hv g0 (hown _ _ h0)
      · exact r.cst g cells v l hp hl0 hv g2 a.2
  · -- one block, one object
    have cls := cls b
    have cross : ∀ g g', Owns μ' S' g b → S'.get g' = none → Owns μ H g' b → g = g' := fun g g' h1 h2 h3 => by
      obtain ⟨g0, h0⟩ := s.own g b h1 (owns_lt r h3)
      have := r.inj g0 g' b (hown _ _ h0) h3
      subst this
      obtain ⟨o, v, l, e1, _⟩ := h0
      rw [(hout g0 h2).1] at e1; cases e1
    rcases cls g h1 with a | a <;> rcases cls g' h2 with c | c
    · exact s.rel.inj g g' b a c
    · exact cross g g' a c.1 c.2
    · exact (cross g' g c a.1 a.2).symm
    · exact r.inj g g' b a.2 c.2
  · cases e : S'.get g with
    | some o => rw [hin g o e]; rfl
    | none => rw [(hout g e).2]; exact hg
  · cases e : S'.get g with
    | some o =>
      refine s.new g (by simp [e]) ?_
      cases e' : S.get g with
      | none => rfl
      | some o' => rw [hsub g o' e'] at h2; cases h2
    | none => rw [(hout g e).2, h2] at h1; cases h1
  · refine s.other g v ?_ h2
    cases e' : S.get g with
    | none => rfl
    | some o' => rw [hsub g o' e'] at h1; cases h1
  · obtain ⟨o, v, l, a1, a2, a3, a4⟩ := h
    cases e : S'.get g with
    | some o' =>
      rw [hin g o' e] at a1; cases a1
      obtain ⟨g0, h0⟩ := s.own g b ⟨_, v, l, e, a2, a3, a4⟩ hb
      exact ⟨g0, hown _ _ h0⟩
    | none =>
      rw [(hout g e).2] at a1
      exact ⟨g, o, v, l, a1, a2, by rw [← hkeep g o a1 e]; exact a3, a4⟩
  · exact s.frame b hb (fun g hg => hn g (hown _ _ hg))
  · cases e : S'.get g with
    | some o' =>
      rw [hin g o' e] at hg
      cases hg
      obtain ⟨e1, e2⟩ := s.roo g cells e
      exact ⟨hsub g _ e1, e2⟩
    | none =>
      rw [(hout g e).2] at hg
      exact ⟨hg, hkeep g _ hg e⟩

section
variable {P : Program}
/-- What a call of a function does, in the model. -/
def CallOk (P : Program) (call : CallK) : Prop :=
  ∀ (f : Nat) (args argsc : List Value) (s s' : St) (v : Value) (μ : Mu) (w : World) (hi : Nat), Gl P μ → LRel μ args argsc → Inv μ s.heap s.next hi w →
    call f args s = .ok (v, s') → s'.next ≤ hi →
    (callFunc f ⟨argsc⟩).run P w = .ok (.enter f ⟨argsc⟩) w ∧
    Calls P f ⟨argsc⟩ w fun e w' => ∃ vc μ', e = .returned vc ∧ VRel μ' v vc ∧ StepR μ s.heap s.next w μ' s'.heap s'.next w'

theorem op_run {ms : Meths} {call : CallK} (hms : ∀ x ∈ ms, x ∈ methsOf P) (hcall : CallOk P call) {o : Oper} {a : AOp} (hc : a = (compOp P o).getD .fail)
    {tm : T Value} {s s' : St} {v : Value} {μ : Mu} {w : World} {hi : Nat} {act : Act} (hg : Gl P μ) (ht : TRel μ tm act.tmps) (hinv : Inv μ s.heap s.next hi w)
    (h : runOp ms call tm a s = .ok (v, s')) (hle : s'.next ≤ hi) {K : Act → World → Prop} {Q : Exit → Act → World → Prop}
    (hK : ∀ vc w' μ', VRel μ' v vc → StepR μ s.heap s.next w μ' s'.heap s'.next w' → K (act.put o.dst vc) w') : o.wp P act w K Q := by
  cases hco : compOp P o with
  | none =>
    rw [hco] at hc
    simp only [Option.getD_none] at hc
    subst hc
    simp only [runOp, aop] at h
    cases h
  | some a' =>
    rw [hco] at hc
    simp only [Option.getD_some] at hc
    subst hc
    have sound := compOp_sound hco
    have hr := eval_rel ht hg
    unfold runOp at h
    split at h
    · rename_i v1 s1 h1
      cases h
      have hnc : a.isCall = false := by
        cases e : a.isCall with
        | false => rfl
        | true => exact absurd h1 (aop_no_val e)
      obtain ⟨nv, vc, w', μ', e1, e2, e3, e4⟩ := (sound.1 hnc ms tm act.eval μ s _ v w hi hr hinv h1 hle).ex
      unfold Oper.wp
      rw [e1]
      rcases e2 with rfl | ⟨rfl, rfl⟩
      · exact hK _ _ _ e3 e4
      · exact hK _ _ _ e3 e4
    · rename_i f args s1 h1
      have hic : a.isCall = true := by
        cases e : a.isCall with
        | true => rfl
        | false => exact absurd h1 (aop_no_call e)
      obtain ⟨rfl, argsc, e1, e2⟩ := sound.2 hic ms tm act.eval μ s _ f args w hms hr hinv.rel h1
      obtain ⟨c1, c2⟩ := hcall f args argsc _ s' v μ w hi hg e2 hinv h hle
      unfold Oper.wp
      rw [e1, c1]
      refine Calls.mono c2 fun e w' he => ?_
      obtain ⟨vc, μ', rfl, h3, h4⟩ := he
      exact hK _ _ _ h3 h4
    · cases h
end
end Go.Am

/-
  THE ABSTRACT MACHINE: a region of operations, in the model.
-/
namespace Go.Am

inductive All2 {α β : Type} (R : α → β → Prop) : List α → List β → Prop where
  | nil : All2 R [] []
  | cons {x : α} {y : β} {l : List α} {m : List β} : R x y → All2 R l m → All2 R (x :: l) (y :: m)
theorem All2.get {α β : Type} {R : α → β → Prop} : ∀ {l : List α} {m : List β}, All2 R l m → ∀ (i : Nat) (x : α), l[i]? = some x → ∃ y, m[i]? = some y ∧ R x y
  | _, _, .nil, i, x, h => by simp at h
  | _, _, .cons hr hl, 0, x, h => by simp at h; subst h; exact ⟨_, rfl, hr⟩
  | _, _, .cons hr hl, i + 1, x, h => by simp at h; simpa using hl.get i x h
theorem All2.length {α β : Type} {R : α → β → Prop} : ∀ {l : List α} {m : List β}, All2 R l m → l.length = m.length
  | _, _, .nil => rfl
  | _, _, .cons _ hl => by simp [hl.length]

section
variable {P : Program}

/-- An operation and its compiled form. -/
structure CompRel (P : Program) (ops : Array Oper) (n : Nat) (o : Oper) (a : AOper) : Prop where
  dst : a.dst = o.dst
  op : a.op = (compOp P o).getD .fail
  guard : compGuard ops o.guard = some a.guard
  lt : ∀ d, o.dst = some d → d < n

theorem wanted_rel {ops : Array Oper} {n : Nat} {o : Oper} {a : AOper} (h : CompRel P ops n o a) {μ : Mu} {tm : T Value} {act : Act} (ht : TRel μ tm act.tmps) :
    Region.wanted o (yielded ops act.tmps) = wanted tm a.guard := by
  have hg := h.guard
  unfold Region.wanted
  cases ho : o.guard with
  | none =>
    rw [ho] at hg
    simp only [compGuard] at hg
    cases hg' : a.guard with
    | none => rfl
    | some p => rw [hg'] at hg; cases hg
  | some p =>
    obtain ⟨j, b⟩ := p
    rw [ho] at hg
    simp only [compGuard] at hg
    split at hg
    · rename_i o' hj
      split at hg
      · rename_i d hd
        have hg : a.guard = some (d, b) := by simpa using hg.symm
        rw [hg]
        simp only [wanted, yielded, hj, Option.bind_some, hd]
        have hv := ht d
        rw [Array.getD_eq_getD_getElem?] at hv
        cases hx : act.tmps[d]? with
        | none =>
          rw [hx] at hv
          simp only [Option.getD_none, undef] at hv
          cases hy : tm.get d with
          | none => rfl
          | some y => rw [hy] at hv; cases y <;> first | rfl | (cases hv)
        | some x =>
          rw [hx] at hv
          simp only [Option.getD_some] at hv
          cases hy : tm.get d with
          | none =>
            rw [hy] at hv
            simp only [undef] at hv
            cases x <;> first | rfl | (cases hv)
          | some y =>
            rw [hy] at hv
            simp only at hv
            cases hv <;> first | rfl | (simp; done)
      · cases hg
    · cases hg

/-- One operation upon a part of the heap. -/
theorem op_over {ms : Meths} {call : CallK} (hms : ∀ x ∈ ms, x ∈ methsOf P) (hcall : CallOk P call) {ops : Array Oper} {nt : Nat} {o : Oper} {a : AOper} (hc : CompRel P ops nt o a)
    {tm tm' : T Value} {S S' H H' : T Ob} {b n lo lo' : Nat} {v : Value} {μ : Mu} {w : World} {act : Act} (hnt : nt ≤ act.tmps.size) (hg : Gl P μ) (ht : TRel μ tm act.tmps) (r : Rel μ H w)
    (h : runOp ms call tm a.op ⟨S, b, lo⟩ = .ok (v, ⟨S', b + n, lo'⟩)) (hsub : ∀ g o, S.get g = some o → H.get g = some o) (hdom : ∀ g, b ≤ g → S.get g = none)
    (hfr : ∀ g, b ≤ g → g < b + n → H.get g = none ∧ ∀ v, μ g v = none) (hH : ∀ g, H'.get g = match S'.get g with | some o => some o | none => H.get g) (hp : PutR a v tm tm')
    {K : Act → World → Prop} {Q : Exit → Act → World → Prop}
    (hK : ∀ act' w' μ', TRel μ' tm' act'.tmps → act'.defers = act.defers → act'.tmps.size = act.tmps.size → StepN (fun g => b ≤ g ∧ g < b + n) μ H w μ' H' w' → K act' w') : o.wp P act w K Q := by
  refine op_run hms hcall hc.op hg ht (hi := b + n) ⟨r.sub hsub, hdom, fun g v h1 h2 => (hfr g h1 h2).2 v⟩ h (Nat.le_refl _) (fun vc w' μ' hv hs => ?_)
  refine hK _ w' μ' (fun t => ?_) (put_defers _ _ _) (put_size _ _ _) ((hs.toN).over r hsub (fun g hg => (hfr g hg.1 hg.2).1) hH)
  have := TRel.put (ht.ext hs.ext) (d := o.dst) hv (fun t ht => Nat.lt_of_lt_of_le (hc.lt t ht) hnt) t
  rw [hp t, hc.dst]
  cases hd : o.dst with
  | none => rw [hd] at this; simpa [put] using this
  | some d =>
    rw [hd] at this
    simp only [put, T.get_set] at this
    by_cases e : t = d
    · subst e; simpa using this
    · rw [if_neg e] at this
      rw [if_neg (by intro h; cases h; exact e rfl)]
      exact this

theorem step_ok {ms : Meths} {call : CallK} (hms : ∀ x ∈ ms, x ∈ methsOf P) (hcall : CallOk P call) {ops : Array Oper} {nt : Nat} {o : Oper} {a : AOper} (hc : CompRel P ops nt o a)
    {d : DD} {tm tm' : T Value} {H H' : T Ob} {μ : Mu} {w : World} {act : Act} (hnt : nt ≤ act.tmps.size) (hg : Gl P μ) (ht : TRel μ tm act.tmps) (r : Rel μ H w)
    (hs : Step ms call a d tm H tm' H') (hf : d.fact) (hfr : ∀ g, d.mine g → H.get g = none ∧ ∀ v, μ g v = none) {i : Nat} (hi : ops[i]? = some o)
    {K : Act → World → Prop} {Q : Exit → Act → World → Prop}
    (hK : ∀ act' w' μ', TRel μ' tm' act'.tmps → act'.defers = act.defers → act'.tmps.size = act.tmps.size → StepN d.mine μ H w μ' H' w' → K act' w') : wpOp P ops Q i K act w := by
  unfold wpOp
  simp only [hi]
  have hw := wanted_rel hc ht
  rw [hw]
  obtain ⟨t1, t2, t3, t4⟩ := hs
  cases d with
  | skip =>
    simp only [DD.tPre] at t1
    rw [t1]
    simp only [Bool.false_eq_true, if_false]
    refine hK _ w μ (fun t => ?_) (put_defers _ _ _) (put_size _ _ _) ((StepN.refl r).congr t4)
    have := TRel.put ht (d := o.dst) (undef_rel μ) (fun t ht => Nat.lt_of_lt_of_le (hc.lt t ht) hnt) t
    rw [t3 t, hc.dst]
    cases hd : o.dst with
    | none => rw [hd] at this; simpa [put] using this
    | some d =>
      rw [hd] at this
      simp only [put, T.get_set] at this
      by_cases e : t = d
      · subst e; simpa [DD.val] using this
      · rw [if_neg e] at this
        rw [if_neg (by intro h; cases h; exact e rfl)]
        exact this
  | pure v =>
    obtain ⟨e1, e2, e3⟩ := t1
    rw [e1, if_pos rfl]
    left
    refine op_over hms hcall hc hnt hg ht r (S := .e) (S' := .e) (b := 0) (n := 0) (lo := 0) (lo' := 0) (v := v) (H' := H') (by simp only [runOp, e3]) (fun g o h => by simp [T.get_e] at h) (fun g _ => rfl)
      (fun g h1 h2 => by omega) (fun g => by rw [t4]; simp [DD.pw, T.get_e]) t3 (fun act' w' μ' h1 h2 h3 h4 => hK act' w' μ' h1 h2 h3 (h4.mono fun g h => by omega))
  | make v b n N =>
    obtain ⟨e1, e2, e3⟩ := t1
    rw [e1, if_pos rfl]
    left
    refine op_over hms hcall hc hnt hg ht r (S := .e) (S' := N) (b := b) (n := n) (lo := b) (lo' := b) (v := v) (H' := H') (by simp only [runOp, e3]) (fun g o h => by simp [T.get_e] at h) (fun g _ => rfl)
      (fun g h1 h2 => hfr g ⟨h1, h2⟩) (fun g => ?_) t3 (fun act' w' μ' h1 h2 h3 h4 => hK act' w' μ' h1 h2 h3 h4)
    rw [t4]
    simp only [DD.pw, DD.ovr]
    by_cases e : b ≤ g ∧ g < b + n
    · rw [if_pos e]; cases N.get g <;> rfl
    · rw [if_neg e]
      cases hN : N.get g with
      | none => rfl
      | some o' => exact absurd (hf g (by simp [hN])) e
  | load v g k u agg n =>
    obtain ⟨e1, x, e2, e3⟩ := t1
    obtain ⟨cells, c1, c3, c4⟩ := t2
    obtain ⟨o, ho, hread⟩ : ∃ o, H.get g = some o ∧ runOp ms call tm (.load agg n x) ⟨T.e.set g o, g + 1, 0⟩ = .ok (v, ⟨T.e.set g o, g + 1 + 0, 0⟩) := by
      rcases c1 with ⟨len, minv, c1, c2⟩ | ⟨c1, c2⟩
      · refine ⟨_, c1, ?_⟩
        simp only [runOp, aop, e3, readCells, readOne, T.get_set_same]
        cases agg with
        | true =>
          simp only [spanOf, cond_true] at c3
          simp only [rowVal, if_true, Option.some.injEq] at c4
          have a1 : Nat.ble minv u = true := Nat.ble_eq_true_of_le c2
          have a2 : Nat.ble (k + n) u = true := Nat.ble_eq_true_of_le c3
          simp [a1, a2, c4]
        | false =>
          simp only [spanOf, cond_false] at c3
          simp only [rowVal, Bool.false_eq_true, if_false] at c4
          have a1 : Nat.ble minv u = true := Nat.ble_eq_true_of_le c2
          have a2 : Nat.blt k u = true := Nat.ble_eq_true_of_le c3
          simp [a1, a2, c4]
      · refine ⟨_, c1, ?_⟩
        simp only [runOp, aop, e3, readCells, readOne, T.get_set_same]
        cases agg with
        | true =>
          simp only [spanOf, cond_true] at c3
          simp only [rowVal, if_true, Option.some.injEq] at c4
          have a1 : Nat.ble u cells.length = true := Nat.ble_eq_true_of_le c2
          have a2 : Nat.ble (k + n) u = true := Nat.ble_eq_true_of_le c3
          simp [a1, a2, c4]
        | false =>
          simp only [spanOf, cond_false] at c3
          simp only [rowVal, Bool.false_eq_true, if_false] at c4
          have a1 : Nat.ble u cells.length = true := Nat.ble_eq_true_of_le c2
          have a2 : Nat.blt k u = true := Nat.ble_eq_true_of_le c3
          simp [a1, a2, c4]
    rw [e1, if_pos rfl]
    left
    refine op_over hms hcall hc hnt hg ht r (S := T.e.set g o) (S' := T.e.set g o) (b := g + 1) (n := 0) (lo := 0) (lo' := 0) (v := v) (H' := H') ?_
      (fun g' o' h => ?_) (fun g' hg' => ?_) (fun g h1 h2 => by omega) (fun g' => ?_) t3 (fun act' w' μ' h1 h2 h3 h4 => hK act' w' μ' h1 h2 h3 (h4.mono fun g h => by omega))
    · rw [e2]
      exact hread
    · by_cases e : g' = g
      · subst e; rw [T.get_set_same] at h; cases h; exact ho
      · rw [T.get_set_ne _ _ e] at h; simp [T.get_e] at h
    · rw [T.get_set_ne _ _ (by omega)]; rfl
    · rw [t4, T.get_set]
      by_cases e : g' = g
      · subst e; simp [DD.pw, ho]
      · simp [DD.pw, e, T.get_e]
  | store g k u vs =>
    obtain ⟨e1, x, y, e2, e3, e4, e5⟩ := t1
    obtain ⟨cells, minv, c1, c2, c3, c4⟩ := t2
    rw [e1, if_pos rfl]
    left
    refine op_over hms hcall hc hnt hg ht r (S := T.e.set g (.row cells u minv)) (S' := (T.e.set g (.row cells u minv)).set g (.row (lput cells k vs) u u)) (b := g + 1) (n := 0) (lo := 0) (lo' := Nat.min 0 g) (v := undef) (H' := H') ?_
      (fun g' o' h => ?_) (fun g' hg' => ?_) (fun g h1 h2 => by omega) (fun g' => ?_) t3 (fun act' w' μ' h1 h2 h3 h4 => hK act' w' μ' h1 h2 h3 (h4.mono fun g h => by omega))
    · rw [e2]
      have a1 : Nat.ble minv u = true := Nat.ble_eq_true_of_le c2
      have a2 : Nat.ble (k + vs.length) u = true := Nat.ble_eq_true_of_le c3
      simp only [runOp, aop, e3, e4, writeCells, T.get_set_same, e5, Nat.beq_refl, Bool.and_self, cond_true, a1, a2, Nat.add_zero]
    · by_cases e : g' = g
      · subst e; rw [T.get_set_same] at h; cases h; exact c1
      · rw [T.get_set_ne _ _ e] at h; simp [T.get_e] at h
    · rw [T.get_set_ne _ _ (by omega)]; rfl
    · rw [t4, T.get_set]
      by_cases e : g' = g
      · subst e; simp [DD.pw, c1, DD.putRow]
      · rw [if_neg e, T.get_set_ne _ _ e]; simp [DD.pw, e, T.get_e]
  | call v b n S S' q =>
    obtain ⟨e1, e2, low, e3⟩ := t1
    rw [e1, if_pos rfl]
    left
    refine op_over hms hcall hc hnt hg ht r (S := S) (S' := S') (b := b) (n := n) (lo := b) (lo' := low) (v := v) (H' := H') e3 t2 hf.1
      (fun g h1 h2 => hfr g ⟨h1, h2⟩) (fun g => ?_) t3 (fun act' w' μ' h1 h2 h3 h4 => hK act' w' μ' h1 h2 h3 h4)
    rw [t4]
    simp only [DD.pw, DD.ovr]
    by_cases e : (b ≤ g ∧ g < b + n) ∨ (q = false ∧ (S.get g).isSome)
    · rw [if_pos e]; cases S'.get g <;> rfl
    · rw [if_neg e]
      cases hN : S'.get g with
      | none => rfl
      | some o' =>
        have hl : (S.get g).isSome := (hf.2.1 g (by simp [hN])).resolve_right (fun h => e (.inl h))
        cases q with
        | false => exact absurd (.inr ⟨rfl, hl⟩) e
        | true =>
          have h1 := hf.2.2.2 rfl g hl
          rw [hN] at h1
          simp only [t2 g o' h1.symm]

/-- A region in the order of its text. -/
theorem runOps_ok {ms : Meths} {call : CallK} (hms : ∀ x ∈ ms, x ∈ methsOf P) (hcall : CallOk P call) {ops : Array Oper} {nt : Nat} :
    ∀ {l : List Oper} {al : List AOper}, All2 (CompRel P ops nt) l al → ∀ {tm tm' : T Value} {s s' : St} {μ : Mu} {w : World} {hi : Nat} {act : Act}, nt ≤ act.tmps.size → Gl P μ →
      TRel μ tm act.tmps → Inv μ s.heap s.next hi w → runOps ms call al tm s = .ok (tm', s') → s'.next ≤ hi → FrCall call → ∀ {Q : Exit → Act → World → Prop},
      (∀ act' w' μ', TRel μ' tm' act'.tmps → act'.defers = act.defers → act'.tmps.size = act.tmps.size → StepR μ s.heap s.next w μ' s'.heap s'.next w' → Q .normal act' w') →
      wpList P ops Q l act w
  | [], _, .nil, tm, tm', s, s', μ, w, hi, act, hnt, hg, ht, hinv, h, hle, hfc, Q, hQ => by
    simp only [runOps] at h
    cases h
    exact hQ act w μ ht rfl rfl (.refl hinv.rel)
  | o :: l, a :: al, .cons hc hl, tm, tm', s, s', μ, w, hi, act, hnt, hg, ht, hinv, h, hle, hfc, Q, hQ => by
    simp only [wpList]
    rw [wanted_rel hc ht]
    simp only [runOps, Bool.cond_eq_ite] at h
    have hput : ∀ (μ' : Mu) (v vc : Value), TRel μ' tm act.tmps → VRel μ' v vc → TRel μ' (put tm a.dst v) (act.put o.dst vc).tmps := fun μ' v vc h1 h2 => by
      rw [hc.dst]
      exact h1.put h2 (fun t ht => Nat.lt_of_lt_of_le (hc.lt t ht) hnt)
    split at h
    · rename_i hw
      rw [if_pos hw]
      left
      split at h
      · rename_i v s1 h1
        have hf1 := runOps_fr hfc h
        have hle1 : s1.next ≤ hi := Nat.le_trans hf1.le hle
        refine op_run hms hcall hc.op hg ht hinv h1 hle1 (fun vc w' μ' hv hs => ?_)
        refine runOps_ok hms hcall hl (by rw [put_size]; exact hnt) (hg.ext hs.ext) (hput μ' v vc (ht.ext hs.ext) hv) (hinv.step hs) h hle hfc (fun act' w2 μ2 k1 k2 k3 k4 => ?_)
        exact hQ act' w2 μ2 k1 (by rw [k2, put_defers]) (by rw [k3, put_size]) (hs.trans k4)
      · cases h
    · rename_i hw
      rw [if_neg hw]
      refine runOps_ok hms hcall hl (by rw [put_size]; exact hnt) hg (hput μ undef undef ht (undef_rel μ)) hinv h hle hfc (fun act' w2 μ2 k1 k2 k3 k4 => ?_)
      exact hQ act' w2 μ2 k1 (by rw [k2, put_defers]) (by rw [k3, put_size]) k4
end
end Go.Am
