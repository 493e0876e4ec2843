/-
  The document's example of layer 19, run on the abstract machine; seen from any state, it is true and does nothing.
-/
import Derived.Test.YtdmijaofelgonaaGreatDoorRaL
import Derived.Test.YtdmijaofelgonaaGreatDoorAmO
set_option maxRecDepth 100000
namespace Go.Am.R1
open Go Go.Am
def errAt (g : Nat) : Ob := .ro [.iface 261 (.pointer (some ⟨g, 0, some 1⟩))]
/-- The two errors of strconv. -/
def heapE : T Ob := (T.e.set 0 (errAt 900)).set 1 (errAt 901)
def stE : St := ⟨heapE, 1000, 1000⟩
def isTrue : R (Value × St) → Bool
  | .ok (.bool true, s) => Nat.ble 1000 s.low
  | _ => false
theorem isTrue_spec {r : R (Value × St)} (h : isTrue r = true) : ∃ s, r = .ok (.bool true, s) ∧ 1000 ≤ s.low := by
  unfold isTrue at h
  split at h
  · exact ⟨_, rfl, Nat.le_of_ble_eq_true h⟩
  · cases h
theorem works_true : isTrue (acall tabT.get [] 300 6 [] stE) = true := by kernel_rfl

def worksG : List Value → St → R (Value × St) := fun args s =>
  match args with
  | [] =>
    match s.heap.get 0, s.heap.get 1 with
    | some (.ro [.iface 261 (.pointer (some ⟨900, 0, some 1⟩))]), some (.ro [.iface 261 (.pointer (some ⟨901, 0, some 1⟩))]) => .ok (.bool true, s)
    | _, _ => .no "works"
  | _ => .no "works"
theorem worksG_spec {args : List Value} {s s' : St} {v : Value} (h : worksG args s = .ok (v, s')) :
    args = [] ∧ v = .bool true ∧ s' = s ∧ s.heap.get 0 = some (errAt 900) ∧ s.heap.get 1 = some (errAt 901) := by
  unfold worksG at h
  split at h
  · split at h
    · rename_i h1 h2
      cases h
      exact ⟨rfl, rfl, rfl, h1, h2⟩
    · cases h
  · cases h
theorem worksG_fr (args : List Value) (s : St) (v : Value) (s' : St) (h : worksG args s = .ok (v, s')) : Fr s s' := by
  obtain ⟨_, _, rfl, _⟩ := worksG_spec h
  exact .refl _
theorem heapE_get {g : Nat} {o : Ob} (h : heapE.get g = some o) : g = 0 ∧ o = errAt 900 ∨ g = 1 ∧ o = errAt 901 := by
  unfold heapE at h
  rw [T.get_set] at h
  split at h
  · rename_i e; cases h; exact .inr ⟨e, rfl⟩
  · rw [T.get_set] at h
    split at h
    · rename_i e; cases h; exact .inl ⟨e, rfl⟩
    · cases h
theorem works_ok : FnOk Go.Proofs.Tryz.prog 6 worksG := by
  obtain ⟨s', hr, hl⟩ := isTrue_spec works_true
  refine closed_ok hr hl (fun g o h => ?_) (of_decide_eq_true (by kernel_rfl)) (runs 300) (fun args s v s' h => ?_)
  · rcases heapE_get h with ⟨rfl, rfl⟩ | ⟨rfl, rfl⟩
    · exact ⟨by decide, _, rfl, fun x hx => by have e := List.mem_singleton.1 hx; subst e; rfl⟩
    · exact ⟨by decide, _, rfl, fun x hx => by have e := List.mem_singleton.1 hx; subst e; rfl⟩
  · obtain ⟨h1, h2, h3, h4, h5⟩ := worksG_spec h
    refine ⟨h1, h2, h3, fun g o ho => ?_⟩
    rcases heapE_get ho with ⟨rfl, rfl⟩ | ⟨rfl, rfl⟩
    · exact h4
    · exact h5
end Go.Am.R1
