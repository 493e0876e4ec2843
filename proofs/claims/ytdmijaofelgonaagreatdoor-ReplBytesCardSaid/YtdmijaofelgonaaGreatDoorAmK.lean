/-
  THE ABSTRACT MACHINE: a run of a region whose order is open, as data.
-/
import Derived.Test.YtdmijaofelgonaaGreatDoorAmJ
namespace Go.Am

section
variable {ms : Meths} {call : CallK}
theorem runOp_val {tm : T Value} {a : AOp} {s s' : St} {v : Value} (hk : a.kind ≠ .other) (h : runOp ms call tm a s = .ok (v, s')) : aop ms tm a s = .ok (.val v s') := by
  have hc : a.isCall = false := by
    cases e : a.isCall with
    | false => rfl
    | true => exact absurd (kind_call e) hk
  unfold runOp at h
  split at h
  · rename_i v1 s1 h1; cases h; exact h1
  · rename_i f args s1 h1; exact absurd h1 (aop_no_call hc)
  · cases h

theorem target_eq {tm : T Value} {x : Opd} {g k u : Nat} (h : target tm x = some (g, k, u)) : opd tm x = .pointer (some ⟨g, k, some u⟩) := by
  simp only [target] at h
  split at h
  · rename_i h1; cases h; exact h1
  · cases h
theorem aop_load {tm : T Value} {agg : Bool} {n : Nat} {x : Opd} {s s' : St} {v : Value} {g k u : Nat} (h : aop ms tm (.load agg n x) s = .ok (.val v s')) (hx : opd tm x = .pointer (some ⟨g, k, some u⟩)) :
    s' = s ∧ DD.hPre (.load v g k u agg n) s.heap.get := by
  simp only [aop, hx, Bool.cond_eq_ite] at h
  cases agg with
  | true =>
    simp only [if_true] at h
    split at h
    · rename_i l hl
      cases h
      unfold readCells at hl
      split at hl
      · rename_i cells len minv hg
        rw [Bool.cond_eq_ite] at hl
        split at hl
        · rename_i hb
          cases hl
          simp only [Bool.and_eq_true] at hb
          exact ⟨rfl, cells, .inl ⟨len, minv, hg, Nat.le_of_ble_eq_true hb.1⟩, by simpa [spanOf] using Nat.le_of_ble_eq_true hb.2, by simp [rowVal]⟩
        · cases hl
      · rename_i cells hg
        rw [Bool.cond_eq_ite] at hl
        split at hl
        · rename_i hb
          cases hl
          simp only [Bool.and_eq_true] at hb
          exact ⟨rfl, cells, .inr ⟨hg, Nat.le_of_ble_eq_true hb.1⟩, by simpa [spanOf] using Nat.le_of_ble_eq_true hb.2, by simp [rowVal]⟩
        · cases hl
      · cases hl
      · cases hl
    · cases h
  | false =>
    simp only [Bool.false_eq_true, if_false] at h
    split at h
    · rename_i y hl
      cases h
      unfold readOne at hl
      split at hl
      · rename_i cells len minv hg
        rw [Bool.cond_eq_ite] at hl
        split at hl
        · rename_i hb
          split at hl
          · rename_i hc
            cases hl
            simp only [Bool.and_eq_true] at hb
            exact ⟨rfl, cells, .inl ⟨len, minv, hg, Nat.le_of_ble_eq_true hb.1⟩, by simpa [spanOf, Nat.blt] using Nat.le_of_ble_eq_true hb.2, by simp [rowVal, hc]⟩
          · cases hl
        · cases hl
      · rename_i cells hg
        rw [Bool.cond_eq_ite] at hl
        split at hl
        · rename_i hb
          split at hl
          · rename_i hc
            cases hl
            simp only [Bool.and_eq_true] at hb
            exact ⟨rfl, cells, .inr ⟨hg, Nat.le_of_ble_eq_true hb.1⟩, by simpa [spanOf, Nat.blt] using Nat.le_of_ble_eq_true hb.2, by simp [rowVal, hc]⟩
          · cases hl
        · cases hl
      · cases hl
      · cases hl
    · cases h
theorem aop_store {tm : T Value} {n : Nat} {x y : Opd} {s s' : St} {v : Value} {g k u : Nat} (h : aop ms tm (.store n x y) s = .ok (.val v s')) (hx : opd tm x = .pointer (some ⟨g, k, some u⟩))
    (hr : rowOk s g = true) :
    v = undef ∧ n = (vcells (opd tm y)).length ∧ (vcells (opd tm y)).all one = true ∧ DD.hPre (.store g k u (vcells (opd tm y))) s.heap.get ∧
      (∀ g', s'.heap.get g' = DD.pw (.store g k u (vcells (opd tm y))) g' (s.heap.get g')) ∧ s'.next = s.next := by
  simp only [aop, hx, Bool.cond_eq_ite] at h
  split at h
  · rename_i hb
    simp only [Bool.and_eq_true] at hb
    split at h
    · rename_i s1 hw
      cases h
      unfold writeCells at hw
      split at hw
      · rename_i cells len minv hg
        rw [Bool.cond_eq_ite] at hw
        split at hw
        · rename_i hb2
          cases hw
          simp only [Bool.and_eq_true] at hb2
          have e1 := Nat.eq_of_beq_eq_true hb2.1.2
          have e2 := Nat.le_of_ble_eq_true hb2.1.1
          have e3 := Nat.le_of_ble_eq_true hb2.2
          subst e1
          simp only [rowOk, hg] at hr
          have e4 := Nat.eq_of_beq_eq_true hr
          refine ⟨rfl, (Nat.eq_of_beq_eq_true hb.1).symm, hb.2, ⟨cells, minv, hg, e2, e3, e4⟩, fun g' => ?_, rfl⟩
          simp only [DD.pw]
          by_cases e : g' = g
          · subst e; rw [if_pos rfl, hg]; simp [T.get_set, DD.putRow]
          · rw [if_neg e, T.get_set_ne _ _ e]
        · cases hw
      · cases hw
      · cases hw
    · cases h
  · cases h

theorem allApart_mem {anc : Nat} {d : Done} : ∀ {ds : List (Nat × Done)}, allApart anc d ds = true → ∀ p ∈ ds, bit anc p.1 = false → p.2.apart d = true
  | [], _, p, hp, _ => by cases hp
  | (j, x) :: r, h, p, hp, hb => by
    simp only [allApart, Bool.and_eq_true, Bool.or_eq_true] at h
    rcases List.mem_cons.1 hp with e | hp
    · subst e
      rcases h.1 with h1 | h1
      · rw [hb] at h1; cases h1
      · exact h1
    · exact allApart_mem h.2 p hp hb
theorem known_mem {anc g : Nat} : ∀ {qs : Made}, known anc g qs = true → ∀ j a n, (j, a, n) ∈ qs → bit anc j = false → ¬ (a ≤ g ∧ g < a + n)
  | [], _, _, _, _, hp, _ => by cases hp
  | (j', a', n') :: r, h, j, a, n, hp, hb => by
    simp only [known, Bool.and_eq_true, Bool.or_eq_true] at h
    rcases List.mem_cons.1 hp with e | hp
    · cases e
      intro hg
      rcases h.1 with h1 | h1
      · rcases h1 with h1 | h1
        · rw [hb] at h1; cases h1
        · have : g + 1 ≤ a' := Nat.le_of_ble_eq_true h1
          omega
      · have := Nat.le_of_ble_eq_true h1
        omega
    · exact known_mem h.2 j a n hp hb
theorem allAhead_mem {anc : Nat} : ∀ {qs : Made}, allAhead anc qs = true → ∀ j a n, (j, a, n) ∈ qs → bit anc j = true
  | [], _, _, _, _, hp => by cases hp
  | (j', a', n') :: r, h, j, a, n, hp => by
    simp only [allAhead, Bool.and_eq_true] at h
    rcases List.mem_cons.1 hp with e | hp
    · cases e; exact h.1
    · exact allAhead_mem h.2 j a n hp

/-- What is recorded of it. -/
def DD.done : DD → Option Done
  | .load _ g k u agg n => some (.read g k u (spanOf agg n))
  | .store g k u vs => some (.wrote g k u vs.length)
  | .call _ _ _ _ _ q => some (if q then .quiet else .effect)
  | _ => none
theorem apartCells_spec {g k u n g' k' u' n' : Nat} (h : apartCells g k u n g' k' u' n' = true) : DD.cellsApart g k u n g' k' u' n' := by
  intro e
  subst e
  simp only [apartCells, Nat.beq_refl, Bool.not_true, Bool.false_or, Bool.and_eq_true, Bool.or_eq_true] at h
  exact ⟨Nat.eq_of_beq_eq_true h.1, h.2.imp Nat.le_of_ble_eq_true Nat.le_of_ble_eq_true⟩
theorem clash_of {x y : DD} (h : ∀ p q, x.done = some p → y.done = some q → p.apart q = true) : DD.clash x y := by
  cases x <;> cases y <;> simp only [DD.clash]
  case load.store => exact apartCells_spec (h _ _ rfl rfl)
  case store.load => exact apartCells_spec (h _ _ rfl rfl)
  case store.store => exact apartCells_spec (h _ _ rfl rfl)
  case load.call v g k u agg n v' a n' S S' q =>
    have := h _ _ rfl rfl
    cases q
    · simp [Done.apart] at this
    · rfl
  case call.load v' a n' S S' q v g k u agg n =>
    have := h _ _ rfl rfl
    cases q
    · simp [Done.apart] at this
    · rfl
  case store.call g k u vs v' a n' S S' q =>
    have := h _ _ rfl rfl
    cases q <;> simp [Done.apart] at this
  case call.store v' a n' S S' q g k u vs =>
    have := h _ _ rfl rfl
    cases q <;> simp [Done.apart] at this
  case call.call v' a n' S S' q v2 a2 n2 S2 S2' q2 =>
    have := h _ _ rfl rfl
    cases q <;> cases q2 <;> simp [Done.apart] at this ⊢

/-- What has been done so far. -/
structure Hist (E : List (Nat × DD)) (ds : List (Nat × Done)) (qs : Made) (s : St) : Prop where
  dom : ∀ g, s.next ≤ g → s.heap.get g = none
  ds : ∀ e ∈ E, ∀ p, e.2.done = some p → (e.1, p) ∈ ds
  qs : ∀ e ∈ E, ∀ g, e.2.mine g → ∃ a n, (e.1, a, n) ∈ qs ∧ a ≤ g ∧ g < a + n
  mine : ∀ e ∈ E, ∀ g, e.2.mine g → g < s.next
  touch : ∀ e ∈ E, ∀ g, e.2.touch g → g < s.next

def Against (E : List (Nat × DD)) (L : List (AOper × DD)) : Prop := ∀ e ∈ E, ∀ p ∈ L, bit p.1.anc e.1 = false → DD.Apart e.2 p.2
def Pairs (i : Nat) : List (AOper × DD) → Prop
  | [] => True
  | (o, d) :: r => (∀ p ∈ r, bit p.1.anc i = false → DD.Apart d p.2) ∧ Pairs (i + 1) r

structure DrawOk (ms : Meths) (call : CallK) (i : Nat) (l : List AOper) (E : List (Nat × DD)) (tm : T Value) (s : St) (tm' : T Value) (s' : St) (L : List (AOper × DD)) : Prop where
  ops : L.map (·.1) = l
  run : RunD ms call L tm s.heap tm' s'.heap
  fact : ∀ p ∈ L, p.2.fact
  mine : ∀ p ∈ L, ∀ g, p.2.mine g → s.next ≤ g ∧ g < s'.next
  call : ∀ p ∈ L, ∀ v a n S S' q, p.2 = .call v a n S S' q → s.next ≤ a ∧ a + n ≤ s'.next
  against : Against E L
  pairs : Pairs i L
  dis : L.Pairwise fun p q => ∀ g, p.2.mine g → ¬ q.2.mine g

theorem DrawOk.cons {i : Nat} {o : AOper} {l : List AOper} {E : List (Nat × DD)} {tm tm1 tm' : T Value} {s s1 s' : St} {d : DD} {L : List (AOper × DD)}
    (hs : Step ms call o d tm s.heap tm1 s1.heap) (hf : d.fact) (hm : ∀ g, d.mine g → s.next ≤ g ∧ g < s1.next) (hc : ∀ v a n S S' q, d = .call v a n S S' q → s.next ≤ a ∧ a + n ≤ s1.next)
    (h1 : s.next ≤ s1.next) (h2 : s1.next ≤ s'.next)
    (ha : ∀ e ∈ E, bit o.anc e.1 = false → DD.Apart e.2 d) (h : DrawOk ms call (i + 1) l ((i, d) :: E) tm1 s1 tm' s' L) : DrawOk ms call i (o :: l) E tm s tm' s' ((o, d) :: L) where
  ops := by simp [h.ops]
  run := ⟨tm1, s1.heap, hs, h.run⟩
  fact p hp := by
    rcases List.mem_cons.1 hp with e | hp
    · subst e; exact hf
    · exact h.fact p hp
  mine p hp g hg := by
    rcases List.mem_cons.1 hp with e | hp
    · subst e; have := hm g hg; omega
    · have := h.mine p hp g hg; omega
  call p hp v a n S S' q e0 := by
    rcases List.mem_cons.1 hp with e | hp
    · subst e; have := hc v a n S S' q e0; omega
    · have := h.call p hp v a n S S' q e0; omega
  against e he p hp hb := by
    rcases List.mem_cons.1 hp with e' | hp
    · subst e'; exact ha e he hb
    · exact h.against e (List.mem_cons_of_mem _ he) p hp hb
  pairs := ⟨fun p hp hb => h.against (i, d) List.mem_cons_self p hp hb, h.pairs⟩
  dis := List.pairwise_cons.2 ⟨fun p hp g hg hg' => by have := hm g hg; have := h.mine p hp g hg'; omega, h.dis⟩

/-- An operation that is apart from what has been done, as far as it is not ordered. -/
theorem apart_of {E : List (Nat × DD)} {ds : List (Nat × Done)} {qs : Made} {s : St} {anc : Nat} {d : DD} (H : Hist E ds qs s)
    (ht : ∀ j a n, (j, a, n) ∈ qs → bit anc j = false → ∀ g, a ≤ g → g < a + n → ¬ d.touch g) (hm : ∀ g, d.mine g → s.next ≤ g) (hd : ∀ p, d.done = some p → allApart anc p ds = true) :
    ∀ e ∈ E, bit anc e.1 = false → DD.Apart e.2 d := fun e he hb =>
  ⟨fun g hg hg' => by
    obtain ⟨a, n, h1, h2, h3⟩ := H.qs e he g hg
    exact ht e.1 a n h1 hb g h2 h3 hg',
   fun g hg hg' => by have := H.touch e he g hg'; have := hm g hg; omega,
   fun g hg hg' => by have := H.mine e he g hg; have := hm g hg'; omega,
   clash_of fun p q hp hq => allApart_mem (hd q hq) (e.1, p) (H.ds e he p hp) hb⟩

theorem Hist.next {E : List (Nat × DD)} {ds ds' : List (Nat × Done)} {qs qs' : Made} {s s' : St} {i : Nat} {d : DD} (H : Hist E ds qs s)
    (h1 : s.next ≤ s'.next) (h2 : ∀ g, s'.next ≤ g → s'.heap.get g = none) (h3 : ∀ p ∈ ds, p ∈ ds') (h4 : ∀ p, d.done = some p → (i, p) ∈ ds') (h5 : ∀ p ∈ qs, p ∈ qs')
    (h6 : ∀ g, d.mine g → ∃ a n, (i, a, n) ∈ qs' ∧ a ≤ g ∧ g < a + n) (h7 : ∀ g, d.mine g → g < s'.next) (h8 : ∀ g, d.touch g → g < s'.next) : Hist ((i, d) :: E) ds' qs' s' where
  dom := h2
  ds e he p hp := by
    rcases List.mem_cons.1 he with rfl | he
    · exact h4 p hp
    · exact h3 _ (H.ds e he p hp)
  qs e he g hg := by
    rcases List.mem_cons.1 he with rfl | he
    · exact h6 g hg
    · obtain ⟨a, n, x, y⟩ := H.qs e he g hg; exact ⟨a, n, h5 _ x, y⟩
  mine e he g hg := by
    rcases List.mem_cons.1 he with rfl | he
    · exact h7 g hg
    · have := H.mine e he g hg; omega
  touch e he g hg := by
    rcases List.mem_cons.1 he with rfl | he
    · exact h8 g hg
    · have := H.touch e he g hg; omega

theorem madeBy_old {i a b : Nat} {qs : Made} : ∀ p ∈ qs, p ∈ madeBy i a b qs := fun p hp => by
  unfold madeBy
  rw [Bool.cond_eq_ite]
  split
  · exact hp
  · exact List.mem_cons_of_mem _ hp
theorem madeBy_new {i a b g : Nat} {qs : Made} (h1 : a ≤ g) (h2 : g < b) : ∃ a' n, (i, a', n) ∈ madeBy i a b qs ∧ a' ≤ g ∧ g < a' + n := by
  refine ⟨a, b - a, ?_, h1, by omega⟩
  unfold madeBy
  rw [Bool.cond_eq_ite, if_neg (by intro e; have := Nat.eq_of_beq_eq_true e; omega)]
  exact List.mem_cons_self

theorem fr_dom {s s' : St} (f : Fr s s') (h : ∀ g, s.next ≤ g → s.heap.get g = none) : ∀ g, s'.next ≤ g → s'.heap.get g = none :=
  fun g hg => f.dom g (by omega) (h g (Nat.le_trans f.le hg))

theorem runDraw_data (hc : FrCall call) : ∀ {l : List AOper} {i : Nat} {ds : List (Nat × Done)} {qs : Made} {tm tm' : T Value} {s s' : St} {E : List (Nat × DD)},
    Hist E ds qs s → runDraw ms call i l ds qs tm s = .ok (tm', s') → ∃ L, DrawOk ms call i l E tm s tm' s' L
  | [], i, ds, qs, tm, tm', s, s', E, H, h => by
    simp only [runDraw] at h
    cases h
    exact ⟨[], rfl, ⟨fun _ => rfl, fun _ => rfl⟩, fun _ h => (by cases h), fun _ h => (by cases h), fun _ h => (by cases h), fun _ _ _ h => (by cases h), trivial, .nil⟩
  | o :: r, i, ds, qs, tm, tm', s, s', E, H, h => by
    simp only [runDraw, Bool.cond_eq_ite] at h
    split at h
    case isFalse hw =>
      have hfr := runDraw_fr hc h
      have H' : Hist ((i, .skip) :: E) ds qs s := H.next (Nat.le_refl _) H.dom (fun _ h => h) (fun _ h => by cases h) (fun _ h => h) (fun _ h => h.elim) (fun _ h => h.elim) (fun _ h => h.elim)
      obtain ⟨L, hL⟩ := runDraw_data hc H' h
      exact ⟨_, hL.cons (d := .skip) ⟨by simpa [DD.tPre] using hw, trivial, putR_put _ _ _, fun _ => rfl⟩ trivial (fun _ h => h.elim) (fun _ _ _ _ _ _ h => by cases h) (Nat.le_refl _) hfr.le
        (apart_of H (fun _ _ _ _ _ _ _ _ h => h) (fun _ h => h.elim) (fun _ h => by cases h))⟩
    case isTrue hw =>
      split at h
      case h_1 hk =>
        split at h
        · rename_i v s1 h1
          obtain ⟨rfl, h2⟩ := kind_pure hk (runOp_val (by rw [hk]; simp) h1)
          have hfr := runDraw_fr hc h
          have H' : Hist ((i, .pure v) :: E) ds qs s1 := H.next (Nat.le_refl _) H.dom (fun _ h => h) (fun _ h => by cases h) (fun _ h => h) (fun _ h => h.elim) (fun _ h => h.elim) (fun _ h => h.elim)
          obtain ⟨L, hL⟩ := runDraw_data hc H' h
          exact ⟨_, hL.cons (d := .pure v) ⟨⟨hw, hk, h2⟩, trivial, putR_put _ _ _, fun _ => rfl⟩ trivial (fun _ h => h.elim) (fun _ _ _ _ _ _ h => by cases h) (Nat.le_refl _) hfr.le
            (apart_of H (fun _ _ _ _ _ _ _ _ h => h) (fun _ h => h.elim) (fun _ h => by cases h))⟩
        · cases h
      case h_2 hk =>
        split at h
        · rename_i v s1 h1
          obtain ⟨ob, rfl, h2⟩ := kind_make hk (runOp_val (by rw [hk]; simp) h1)
          have hfr := runDraw_fr hc h
          have hget : ∀ g, (s.heap.set s.next ob).get g = DD.pw (.make v s.next 1 (T.e.set s.next ob)) g (s.heap.get g) := fun g => by
            simp only [DD.pw, DD.ovr, T.get_set, T.get_e]
            by_cases e : g = s.next
            · subst e; simp
            · rw [if_neg e, if_neg e, if_neg (by omega)]
          have H' : Hist ((i, .make v s.next 1 (T.e.set s.next ob)) :: E) ds (madeBy i s.next (s.next + 1) qs) ⟨s.heap.set s.next ob, s.next + 1, s.low⟩ :=
            H.next (Nat.le_succ _) (fun g hg => by
              have hg' : s.next + 1 ≤ g := hg
              show (s.heap.set s.next ob).get g = none
              rw [T.get_set_ne _ _ (by omega)]; exact H.dom g (by omega)) (fun _ h => h) (fun _ h => by cases h) madeBy_old
              (fun g hg => madeBy_new hg.1 hg.2) (fun g hg => hg.2) (fun _ h => h.elim)
          obtain ⟨L, hL⟩ := runDraw_data hc H' h
          exact ⟨_, hL.cons (s1 := ⟨s.heap.set s.next ob, s.next + 1, s.low⟩) (d := .make v s.next 1 (T.e.set s.next ob)) ⟨⟨hw, hk, h2 ⟨.e, s.next, s.next⟩ rfl⟩, trivial, putR_put _ _ _, hget⟩
            (fun g hg => by
              by_cases e : g = s.next
              · omega
              · rw [T.get_set_ne _ _ e] at hg; simp [T.get_e] at hg) (fun _ h => h) (fun _ _ _ _ _ _ h => by cases h) (Nat.le_succ _) hfr.le
            (apart_of H (fun _ _ _ _ _ _ _ _ h => h) (fun _ h => h.1) (fun _ h => by cases h))⟩
        · cases h
      case h_3 hk =>
        split at h
        · rename_i agg n x hop
          split at h
          · rename_i g k u ht
            split at h
            · rename_i hb
              simp only [Bool.and_eq_true] at hb
              split at h
              · rename_i v s1 h1
                have ht := target_eq ht
                have h2 := runOp_val (by rw [hk]; simp) h1
                rw [hop] at h2
                obtain ⟨rfl, h3⟩ := aop_load h2 ht
                have hfr := runDraw_fr hc h
                have hlt : g < s1.next := by
                  obtain ⟨c, e, _⟩ := h3
                  rcases Nat.lt_or_ge g s1.next with h' | h'
                  · exact h'
                  · rw [H.dom g h'] at e
                    rcases e with ⟨_, _, e, _⟩ | ⟨e, _⟩ <;> cases e
                have H' : Hist ((i, .load v g k u agg n) :: E) ((i, .read g k u (spanOf agg n)) :: ds) qs s1 :=
                  H.next (Nat.le_refl _) H.dom (fun _ h => List.mem_cons_of_mem _ h) (fun p hp => by cases hp; exact List.mem_cons_self) (fun _ h => h) (fun _ h => h.elim) (fun _ h => h.elim)
                    (fun g' hg' => by cases hg'; exact hlt)
                obtain ⟨L, hL⟩ := runDraw_data hc H' h
                exact ⟨_, hL.cons (d := .load v g k u agg n) ⟨⟨hw, x, hop, ht⟩, h3, putR_put _ _ _, fun _ => rfl⟩ trivial (fun _ h => h.elim) (fun _ _ _ _ _ _ h => by cases h) (Nat.le_refl _) hfr.le
                  (apart_of H (fun j a n' hq hb' g' e1 e2 e3 => by cases e3; exact known_mem hb.2 j a n' hq hb' ⟨e1, e2⟩) (fun _ h => h.elim) (fun p hp => by cases hp; exact hb.1))⟩
              · cases h
            · cases h
          · cases h
        · cases h
      case h_4 hk =>
        split at h
        · rename_i n x y hop
          split at h
          · rename_i g k u ht
            split at h
            · rename_i hb
              simp only [Bool.and_eq_true] at hb
              split at h
              · rename_i v s1 h1
                have ht := target_eq ht
                have h2 := runOp_val (by rw [hk]; simp) h1
                rw [hop] at h2
                obtain ⟨rfl, hn, hall, h3, h4, h5⟩ := aop_store h2 ht hb.2
                have hfr := runDraw_fr hc h
                have hlt : g < s.next := by
                  obtain ⟨c, l', e, _⟩ := h3
                  rcases Nat.lt_or_ge g s.next with h' | h'
                  · exact h'
                  · rw [H.dom g h'] at e; cases e
                have H' : Hist ((i, .store g k u (vcells (opd tm y))) :: E) ((i, .wrote g k u n) :: ds) qs s1 :=
                  H.next (by omega) (fun g' hg' => by
                    rw [h4, DD.pw_id (by intro e; cases e; omega)]
                    exact H.dom g' (by omega)) (fun _ h => List.mem_cons_of_mem _ h) (fun p hp => by cases hp; rw [← hn]; exact List.mem_cons_self) (fun _ h => h) (fun _ h => h.elim) (fun _ h => h.elim)
                    (fun g' hg' => by cases hg'; omega)
                obtain ⟨L, hL⟩ := runDraw_data hc H' h
                exact ⟨_, hL.cons (d := .store g k u (vcells (opd tm y))) ⟨⟨hw, x, y, hn ▸ hop, ht, rfl, hall⟩, h3, putR_put _ _ _, h4⟩ trivial (fun _ h => h.elim) (fun _ _ _ _ _ _ h => by cases h) (by omega) hfr.le
                  (apart_of H (fun j a n' hq hb' g' e1 e2 e3 => by cases e3; exact known_mem hb.1.2 j a n' hq hb' ⟨e1, e2⟩) (fun _ h => h.elim) (fun p hp => by cases hp; rw [← hn]; exact hb.1.1))⟩
              · cases h
            · cases h
          · cases h
        · cases h
      case h_5 hk =>
        split at h
        case isTrue hahead =>
          split at h
          case h_2 => cases h
          case h_1 v s1 h1 =>
            have f1 := runOp_fr hc h1
            have hle : s.next ≤ s1.next := f1.le
            have hdom1 : ∀ g, s1.next ≤ g → s1.heap.get g = none := fr_dom f1 H.dom
            have hS : ∀ g, s.next ≤ g → s.heap.get g = none := H.dom
            have hn : s.next + (s1.next - s.next) = s1.next := by omega
            -- what the call has done
            have hgen : ∀ q : Bool, (q = true → ∀ g, (s.heap.get g).isSome → s1.heap.get g = s.heap.get g) →
                DD.fact (.call v s.next (s1.next - s.next) s.heap s1.heap q) ∧ ∀ g, s1.heap.get g = DD.pw (.call v s.next (s1.next - s.next) s.heap s1.heap q) g (s.heap.get g) := fun q hq => by
              refine ⟨⟨hS, fun g hg => ?_, f1.keep, hq⟩, fun g => ?_⟩
              · rw [hn]
                by_cases e : s.next ≤ g ∧ g < s1.next
                · exact .inr e
                · left
                  cases e' : s.heap.get g with
                  | some _ => rfl
                  | none => rw [f1.dom g e e'] at hg; cases hg
              · simp only [DD.pw, DD.ovr, hn]
                by_cases e : (s.next ≤ g ∧ g < s1.next) ∨ (q = false ∧ (s.heap.get g).isSome)
                · rw [if_pos e]
                  cases e1 : s1.heap.get g with
                  | some _ => rfl
                  | none => exact (f1.keep g e1).symm
                · rw [if_neg e]
                  cases e1 : s.heap.get g with
                  | none => exact f1.dom g (fun h' => e (.inl h')) e1
                  | some o' =>
                    cases q with
                    | false => exact absurd (.inr ⟨rfl, by simp [e1]⟩) e
                    | true => rw [hq rfl g (by simp [e1]), e1]
            split at h
            case isTrue hb =>
              have hb := Nat.le_of_ble_eq_true hb
              split at h
              case isFalse => cases h
              case isTrue hap =>
                have hfr := runDraw_fr hc h
                obtain ⟨g1, g2⟩ := hgen true (fun _ g hg => by
                  have : g < s.next := by
                    rcases Nat.lt_or_ge g s.next with h' | h'
                    · exact h'
                    · rw [hS g h'] at hg; cases hg
                  exact f1.same g this (Nat.lt_of_lt_of_le this hb))
                have H' : Hist ((i, .call v s.next (s1.next - s.next) s.heap s1.heap true) :: E) ((i, .quiet) :: ds) (madeBy i s.next s1.next qs) ⟨s1.heap, s1.next, s.low⟩ :=
                  H.next hle hdom1 (fun _ h => List.mem_cons_of_mem _ h) (fun p hp => by cases hp; exact List.mem_cons_self) madeBy_old
                    (fun g hg => madeBy_new hg.1 (by have := hg.2; omega)) (fun g hg => by have := hg.2; show g < s1.next; omega) (fun g hg => by
                      rcases Nat.lt_or_ge g s1.next with h' | h'
                      · exact h'
                      · have : (s.heap.get g).isSome := hg
                        rw [hS g (by omega)] at this; cases this)
                obtain ⟨L, hL⟩ := runDraw_data hc H' h
                exact ⟨_, hL.cons (s1 := ⟨s1.heap, s1.next, s.low⟩) (d := .call v s.next (s1.next - s.next) s.heap s1.heap true) ⟨⟨hw, hk, s1.low, by rw [hn]; exact h1⟩, fun g o' ho' => ho', putR_put _ _ _, g2⟩ g1
                  (fun g hg => ⟨hg.1, by have := hg.2; show g < s1.next; omega⟩) (fun _ _ _ _ _ _ e => by cases e; exact ⟨Nat.le_refl _, by show s.next + (s1.next - s.next) ≤ s1.next; omega⟩) hle hfr.le
                  (apart_of H (fun j a n' hq hb' => by rw [allAhead_mem hahead j a n' hq] at hb'; cases hb') (fun _ h => h.1) (fun p hp => by cases hp; exact hap))⟩
            case isFalse hb =>
              split at h
              case isFalse => cases h
              case isTrue hap =>
                have hfr := runDraw_fr hc h
                obtain ⟨g1, g2⟩ := hgen false (fun h => by cases h)
                have H' : Hist ((i, .call v s.next (s1.next - s.next) s.heap s1.heap false) :: E) ((i, .effect) :: ds) (madeBy i s.next s1.next qs) ⟨s1.heap, s1.next, Nat.min s.low s1.low⟩ :=
                  H.next hle hdom1 (fun _ h => List.mem_cons_of_mem _ h) (fun p hp => by cases hp; exact List.mem_cons_self) madeBy_old
                    (fun g hg => madeBy_new hg.1 (by have := hg.2; omega)) (fun g hg => by have := hg.2; show g < s1.next; omega) (fun g hg => by
                      rcases Nat.lt_or_ge g s1.next with h' | h'
                      · exact h'
                      · have : (s.heap.get g).isSome := hg
                        rw [hS g (by omega)] at this; cases this)
                obtain ⟨L, hL⟩ := runDraw_data hc H' h
                exact ⟨_, hL.cons (s1 := ⟨s1.heap, s1.next, Nat.min s.low s1.low⟩) (d := .call v s.next (s1.next - s.next) s.heap s1.heap false) ⟨⟨hw, hk, s1.low, by rw [hn]; exact h1⟩, fun g o' ho' => ho', putR_put _ _ _, g2⟩ g1
                  (fun g hg => ⟨hg.1, by have := hg.2; show g < s1.next; omega⟩) (fun _ _ _ _ _ _ e => by cases e; exact ⟨Nat.le_refl _, by show s.next + (s1.next - s.next) ≤ s1.next; omega⟩) hle hfr.le
                  (apart_of H (fun j a n' hq hb' => by rw [allAhead_mem hahead j a n' hq] at hb'; cases hb') (fun _ h => h.1) (fun p hp => by cases hp; exact hap))⟩
        case isFalse hahead =>
          split at h
          case h_2 => cases h
          case h_1 v s1 h1 =>
            have f1 := runOp_fr hc h1
            have hle : s.next ≤ s1.next := f1.le
            have hn : s.next + (s1.next - s.next) = s1.next := by omega
            split at h
            case isFalse => cases h
            case isTrue hb =>
              simp only [Bool.and_eq_true] at hb
              have hb1 := Nat.le_of_ble_eq_true hb.1
              have hfr := runDraw_fr hc h
              have hsub : ∀ g o', (seenBy o.anc qs s.heap).get g = some o' → s.heap.get g = some o' := fun g o' ho' => by
                rcases get_seenBy o.anc qs s.heap g with e | e
                · rw [e] at ho'; cases ho'
                · rw [← e]; exact ho'
              have hS : ∀ g, s.next ≤ g → (seenBy o.anc qs s.heap).get g = none := fun g hg => by
                cases e : (seenBy o.anc qs s.heap).get g with
                | none => rfl
                | some o' => rw [← hsub g o' e, H.dom g hg]
              have hfact : DD.fact (.call v s.next (s1.next - s.next) (seenBy o.anc qs s.heap) s1.heap true) := by
                refine ⟨hS, fun g hg => ?_, f1.keep, fun _ g hg => ?_⟩
                · rw [hn]
                  by_cases e : s.next ≤ g ∧ g < s1.next
                  · exact .inr e
                  · left
                    cases e' : (seenBy o.anc qs s.heap).get g with
                    | some _ => rfl
                    | none => rw [f1.dom g e e'] at hg; cases hg
                · have : g < s.next := by
                    rcases Nat.lt_or_ge g s.next with h' | h'
                    · exact h'
                    · rw [hS g h'] at hg; cases hg
                  exact f1.same g this (Nat.lt_of_lt_of_le this hb1)
              have hheap : ∀ g, (layFrom s1.heap s.next (s1.next - s.next) s.heap).get g = DD.pw (.call v s.next (s1.next - s.next) (seenBy o.anc qs s.heap) s1.heap true) g (s.heap.get g) := fun g => by
                rw [get_layFrom]
                simp only [DD.pw, DD.ovr, Bool.true_eq_false, false_and, or_false]
                by_cases e : s.next ≤ g ∧ g < s.next + (s1.next - s.next)
                · rw [if_pos e]
                  cases hN : s1.heap.get g with
                  | none => simp
                  | some o' => simp [e]
                · rw [if_neg e, if_neg (fun h' => e ⟨h'.1, h'.2.1⟩)]
              have H' : Hist ((i, .call v s.next (s1.next - s.next) (seenBy o.anc qs s.heap) s1.heap true) :: E) ((i, .quiet) :: ds) (madeBy i s.next s1.next qs) ⟨layFrom s1.heap s.next (s1.next - s.next) s.heap, s1.next, s.low⟩ :=
                H.next hle (fun g hg => by
                    have hg' : s1.next ≤ g := hg
                    show (layFrom s1.heap s.next (s1.next - s.next) s.heap).get g = none
                    rw [get_layFrom, if_neg (by omega)]; exact H.dom g (by omega)) (fun _ h => List.mem_cons_of_mem _ h) (fun p hp => by cases hp; exact List.mem_cons_self) madeBy_old
                  (fun g hg => madeBy_new hg.1 (by have := hg.2; omega)) (fun g hg => by have := hg.2; show g < s1.next; omega) (fun g hg => by
                    rcases Nat.lt_or_ge g s1.next with h' | h'
                    · exact h'
                    · have : ((seenBy o.anc qs s.heap).get g).isSome := hg
                      rw [hS g (by omega)] at this; cases this)
              obtain ⟨L, hL⟩ := runDraw_data hc H' h
              exact ⟨_, hL.cons (s1 := ⟨layFrom s1.heap s.next (s1.next - s.next) s.heap, s1.next, s.low⟩) (d := .call v s.next (s1.next - s.next) (seenBy o.anc qs s.heap) s1.heap true) ⟨⟨hw, hk, s1.low, by rw [hn]; exact h1⟩, hsub, putR_put _ _ _, hheap⟩ hfact
                (fun g hg => ⟨hg.1, by have := hg.2; show g < s1.next; omega⟩) (fun _ _ _ _ _ _ e => by cases e; exact ⟨Nat.le_refl _, by show s.next + (s1.next - s.next) ≤ s1.next; omega⟩) hle hfr.le
                (apart_of H (fun j a n' hq hb' g e1 e2 e3 => by
                  have e3 : ((seenBy o.anc qs s.heap).get g).isSome := e3
                  rw [get_seenBy_hid o.anc qs s.heap g j a n' hq hb' e1 e2] at e3; cases e3) (fun _ h => h.1) (fun p hp => by cases hp; exact hb.2))⟩
end
end Go.Am
