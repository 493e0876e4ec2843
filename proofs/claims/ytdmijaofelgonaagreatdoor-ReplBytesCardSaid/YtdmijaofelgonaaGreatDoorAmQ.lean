/-
  THE ABSTRACT MACHINE: from a run upon what was handed in to what the model does: true, and everything that was there is as it was.
-/
import Derived.Test.YtdmijaofelgonaaGreatDoorAmP
import Derived.ProofKit
import Derived.Carry
import Derived.Stop.LaidErr
namespace Go.Am
open Go Go.RowKit
section
variable {P : Program}
/-- One of the listed variables. -/
theorem laid_part {w : World} : ∀ {l : List (String × DataW Unit)} {ps : List MemPlace} {n : String} {d : DataW Unit}, DataW.LaidVars P w l ps → (n, d) ∈ l →
    ∃ g t cs fuel p, P.globalNamed n = some g ∧ (P.globals[g]?).map (·.type) = some t ∧ w.var? P n = some cs ∧ DataW.trod (fun _ => ()) P w 0 (fun _ => true) false fuel t cs.toList = some (d, p) ∧
      ∀ x ∈ MemPlace.row ⟨g, 0, none⟩ cs.size ++ p, x ∈ ps
  | [], ps, n, d, _, hm => by cases hm
  | (n', d') :: r, ps, n, d, h, hm => by
    obtain ⟨g, t, cs, fuel, p, q, h1, h2, h3, h4, h5, rfl⟩ := h
    rcases List.mem_cons.1 hm with e | hm
    · cases e
      exact ⟨g, t, cs, fuel, p, h1, h2, h3, h4, fun x hx => List.mem_append_left _ hx⟩
    · obtain ⟨g', t', cs', fuel', p', k1, k2, k3, k4, k5⟩ := laid_part h5 hm
      exact ⟨g', t', cs', fuel', p', k1, k2, k3, k4, fun x hx => List.mem_append_right _ (k5 x hx)⟩
/-- A listed error of errors.New's make: its variable's cell, and that it points to something that is there. -/
theorem laid_err {n nm : String} {text : List UInt8} {l : List (String × DataW Unit)} {W : World} {g : Nat} {ti tp te ts : TypeId} {ms : Array (String × TypeId)} {f : Field}
    (h : laidMet P l W) (hm : (n, DataW.iface nm (.ptr (.agg [.lit (.string text)]))) ∈ l)
    (hg : P.globalNamed n = some g) (ht : (P.globals[g]?).map (·.type) = some ti) (hi : P.underlying ti = some (.interface ms)) (hrow : ∀ u, P.typeName? 3 u = some nm → u = tp)
    (hp : P.underlying tp = some (.pointer te)) (he : P.underlying te = some (.struct #[f])) (hft : f.type = ts) (hfo : f.offset = 0) (hs : P.underlying ts = some .string) (hc : P.cellsOf te = 1) (hcs : P.cellsOf ts = 1) :
    ∃ (a : Addr) (s : ByteArray), W.cell? ⟨g, 0, none⟩ = some (.iface tp (.pointer (some a))) ∧ W.cell? a = some (.string s) := by
  obtain ⟨ps, hv, -, hrows⟩ := h
  obtain ⟨g0, t0, cs0, fuel, p, k1, k2, k3, k4, k5⟩ := laid_part hv hm
  obtain rfl := Option.some.inj (hg.symm.trans k1)
  obtain rfl := Option.some.inj (ht.symm.trans k2)
  obtain ⟨l0⟩ := cs0
  have ok0 : ∀ u v, l0 = [.iface u v] → Value.okWide P W .any 0 u v := fun u v e => by
    subst e
    exact (hrows g 0 (k5 _ (by simp [MemPlace.row]))).2 u v (by simpa using World.var?_cell k1 k3 0)
  obtain ⟨a0, s0, rfl, hc0, hs0, hz0, _⟩ := errorString_of_trod hi hrow hp he hft hfo hs hc hcs k4 ok0
  exact ⟨a0, s0, by simpa using World.var?_cell k1 k3 0, hc0⟩
/-- Where what was handed in lies: the variables, and what is told. -/
def muOf (n : Nat) (ex : Nat → Nat → Option Loc) : Mu := fun g v => if g < n then some ⟨g, 0, v⟩ else ex g v
theorem gl_of {n : Nat} {ex : Nat → Nat → Option Loc} (hn : P.globals.size ≤ n) : Gl P (muOf n ex) := fun g gl i h _ => by
  have : g < P.globals.size := by
    rcases Nat.lt_or_ge g P.globals.size with h' | h'
    · exact h'
    · simp [Array.getElem?_eq_none h'] at h
  exact ⟨i.size, by simp only [muOf]; rw [if_pos (by omega)]⟩
theorem muOf_lt {n g v : Nat} {ex : Nat → Nat → Option Loc} (h : g < n) : muOf n ex g v = some ⟨g, 0, v⟩ := by simp only [muOf]; rw [if_pos h]
theorem muOf_ge {n g v : Nat} {ex : Nat → Nat → Option Loc} (h : n ≤ g) : muOf n ex g v = ex g v := by simp only [muOf]; rw [if_neg (by omega)]
/-- A start: nothing but cells that are only read. -/
theorem start_inv {n hi : Nat} {ex : Nat → Nat → Option Loc} {H : T Ob} {w : World} (hn : n ≤ 1000)
    (hex : ∀ g v l, n ≤ g → ex g v = some l → g < 1000 ∧ l.s + v ≤ l.z)
    (hH : ∀ g o, H.get g = some o → g < 1000 ∧ ∃ cells, o = .ro cells ∧ (∀ x ∈ cells, one x = true) ∧ ∀ v l, muOf n ex g v = some l → v ≤ cells.length → RoAt (muOf n ex) cells v l w) :
    Inv (muOf n ex) H 1000 hi w ∧ ∀ g b, ¬ Owns (muOf n ex) H g b := by
  have hno : ∀ g b, ¬ Owns (muOf n ex) H g b := fun g b ⟨o, v, l, h1, h2, _⟩ => by
    obtain ⟨_, cells, rfl, _⟩ := hH g o h1
    exact h2
  refine ⟨⟨⟨fun g o ho => ?_, fun g cells v l _ _ _ g' h => hno _ _ h, fun g g' b h => absurd h (hno _ _), fun g v l h => ?_⟩, fun g hg => ?_, fun g v h1 h2 => ?_⟩, hno⟩
  · obtain ⟨_, cells, rfl, h1, h2⟩ := hH g o ho
    exact ⟨h1, h2⟩
  · by_cases hg : g < n
    · rw [muOf_lt hg] at h
      cases h
      exact ⟨by simp, fun _ => rfl⟩
    · rw [muOf_ge (by omega)] at h
      have := hex g v l (by omega) h
      exact ⟨this.2, fun h' => by omega⟩
  · cases e : H.get g with
    | none => rfl
    | some o => have := (hH g o e).1; omega
  · rw [muOf_ge (by omega)]
    cases e : ex g v with
    | none => rfl
    | some l => have := (hex g v l (by omega) e).1; omega
/-- A run upon what was handed in: the model does it, and leaves what was there. -/
theorem run_calls {call : CallK} {f : Nat} {args argsc : List Value} {H : T Ob} {v : Value} {s' : St} {μ : Mu} {w : World} (hc : CallOk P call) (hg : Gl P μ) (ha : LRel μ args argsc)
    (hi : ∀ hi, Inv μ H 1000 hi w) (hno : ∀ g b, ¬ Owns μ H g b) (hr : call f args ⟨H, 1000, 1000⟩ = .ok (v, s')) :
    Calls P f ⟨argsc⟩ w fun e w' => ∃ vc μ', e = .returned vc ∧ VRel μ' v vc ∧ RowKit.Below w.heap.size w w' := by
  obtain ⟨_, h⟩ := hc f args argsc ⟨H, 1000, 1000⟩ s' v μ w s'.next hg ha (hi _) hr (Nat.le_refl _)
  refine Calls.mono h fun e w' he => ?_
  obtain ⟨vc, μ', rfl, h1, h2⟩ := he
  exact ⟨vc, μ', rfl, h1, h2.os, h2.tape, h2.output, h2.size, fun k hk => h2.frame k hk (fun g => hno g k)⟩
theorem run_true {call : CallK} {f : Nat} {args argsc : List Value} {H : T Ob} {s' : St} {μ : Mu} {w : World} (hc : CallOk P call) (hg : Gl P μ) (ha : LRel μ args argsc)
    (hi : ∀ hi, Inv μ H 1000 hi w) (hno : ∀ g b, ¬ Owns μ H g b) (hr : call f args ⟨H, 1000, 1000⟩ = .ok (.bool true, s')) :
    Calls P f ⟨argsc⟩ w fun e w' => e = .returned (.bool true) ∧ RowKit.Below w.heap.size w w' :=
  Calls.mono (run_calls hc hg ha hi hno hr) fun e w' he => by
    obtain ⟨vc, μ', rfl, h1, h2⟩ := he
    cases h1
    exact ⟨rfl, h2⟩
end
-- tables as lists
def lookL (l : List (Nat × AFn)) (f : Nat) : Option AFn :=
  match l with
  | [] => none
  | (k, v) :: r => bif Nat.beq k f then some v else lookL r f
theorem lookL_mem : ∀ {l : List (Nat × AFn)} {f : Nat} {e : AFn}, lookL l f = some e → (f, e) ∈ l
  | (k, v) :: r, f, e, h => by
    simp only [lookL] at h
    cases hb : Nat.beq k f with
    | true =>
      rw [hb, cond_true] at h
      cases h
      rw [Nat.eq_of_beq_eq_true hb]
      exact List.mem_cons_self
    | false =>
      rw [hb, cond_false] at h
      exact List.mem_cons_of_mem _ (lookL_mem h)
theorem tabOk_list {P : Program} {l : List (Nat × AFn)} (h : ∀ p ∈ l, EntOk P p.1 p.2) : TabOk P (lookL l) := fun f e he => h (f, e) (lookL_mem he)
/-- A primitive of the table. -/
theorem acall_prim {tab : Nat → Option AFn} {ms : Meths} {k f : Nat} {g : List Value → St → R (Value × St)} {h : ∀ args s v s', g args s = .ok (v, s') → Fr s s'} {args : List Value} {s : St} (ht : tab f = some (.prim g h)) :
    acall tab ms (k + 1) f args s = g args s := by simp only [acall, ht]
end Go.Am
namespace Go.Am
/-- A row of whole numbers. -/
theorem row_ints {W : World} {b off m : Nat} (h : ∀ j, j < m → ∃ z : Int, W.cell? ⟨b, off + j, none⟩ = some (.int .i64 z) ∧ -9223372036854775808 ≤ z ∧ z < 9223372036854775808) :
    ∃ Z : List Int, Z.length = m ∧ (∀ z ∈ Z, -9223372036854775808 ≤ z ∧ z < 9223372036854775808) ∧ ∀ (j : Nat) z, Z[j]? = some z → W.cell? ⟨b, off + j, none⟩ = some (.int .i64 z) := by
  induction m with
  | zero => exact ⟨[], rfl, fun z hz => (by cases hz), fun j z hz => (by simp at hz)⟩
  | succ m ih =>
    obtain ⟨Z, h1, h2, h3⟩ := ih (fun j hj => h j (by omega))
    obtain ⟨z, h4, h5⟩ := h m (by omega)
    refine ⟨Z ++ [z], by simp [h1], fun y hy => ?_, fun j y hy => ?_⟩
    · rcases List.mem_append.1 hy with hy | hy
      · exact h2 y hy
      · rw [List.mem_singleton.1 hy]; exact h5
    · by_cases hj : j < Z.length
      · rw [List.getElem?_append_left hj] at hy; exact h3 j y hy
      · rw [List.getElem?_append_right (by omega)] at hy
        have : j = m := by
          rcases Nat.lt_or_ge (j - Z.length) 1 with h' | h'
          · omega
          · rw [List.getElem?_eq_none (by simpa using h')] at hy; cases hy
        subst this
        rw [h1, Nat.sub_self] at hy
        simp at hy
        subst hy
        exact h4
theorem ro_ints {μ : Mu} {W : World} {b off z0 : Nat} {Z : List Int} {l : Loc} {v : Nat} (hl : l = ⟨b, off, z0⟩) (hm : 0 < Z.length) (hc : ∀ (j : Nat) z, Z[j]? = some z → W.cell? ⟨b, off + j, none⟩ = some (.int .i64 z)) :
    RoAt μ (Z.map fun z => Value.int .i64 z) v l W := by
  subst hl
  have h0 := hc 0 Z[0] (by simp [hm])
  simp only [World.cell?] at h0
  split at h0
  · rename_i C e f hC
    refine ⟨C, e, f, hC, fun i x _ hx => ?_⟩
    rw [List.getElem?_map] at hx
    cases hz : Z[i]? with
    | none => rw [hz] at hx; cases hx
    | some z =>
      rw [hz] at hx
      cases hx
      have h1 := hc i z hz
      simp only [World.cell?, hC] at h1
      exact ⟨_, by simpa using h1, .int .i64 z⟩
  · cases h0
end Go.Am
