/-
  ReplBytes of layer 19: the list that came in, cell by cell.
-/
import Derived.Test.YtdmijaofelgonaaGreatDoorProg
import Derived.ProofKit
import Derived.Deep.Strs
import Derived.Deep.Slices
import Derived.DataReads
import Derived.KernelRfl
set_option maxRecDepth 100000
namespace Go.Proofs.YtdmijaofelgonaaGreatDoor
open Go Go.Proofs Go.ChangeShapes Go.WideShapes Go.ChangeAt Go.ChangeMaps Go.WideMaps Go.WideElems Go.RowKit Go.Deep
theorem cells25 : Tryz.prog.cellsOf 25 = 3 := by kernel_rfl
theorem cells3 : Tryz.prog.cellsOf 3 = 1 := by kernel_rfl
theorem wf_i64 {z : Int} (h : (Lit.int .i64 z).wf = true) : -9223372036854775808 ≤ z ∧ z < 9223372036854775808 := by
  simp only [Lit.wf, Bool.and_eq_true, decide_eq_true_eq] at h
  have e1 : IntKind.min .i64 = -9223372036854775808 := rfl
  have e2 : IntKind.max .i64 = 9223372036854775807 := rfl
  rw [e1, e2] at h
  omega
section
variable {H : Type} {enc : TypeId × Value → H} {W : World} {base : Nat} {sp : Nat → Bool} {held : Bool}
theorem ints3 {n : Nat} {cs : List Value} {x : DataW H × List MemPlace} (ht : DataW.trod enc Tryz.prog W base sp held n 25 cs = some x) :
    ∃ z0 z1 z2 : Int, cs = [.int .i64 z0, .int .i64 z1, .int .i64 z2] ∧ (Lit.int .i64 z0).wf = true ∧ (Lit.int .i64 z1).wf = true ∧ (Lit.int .i64 z2).wf = true := by
  obtain ⟨y0, y1, y2, n', -, hl, h0, h1, h2⟩ := trod_struct3 Tryz.underlying25 ht
  rw [cells25] at hl
  rw [cells3] at h0 h1 h2
  obtain ⟨z0, e0, -, w0⟩ := DataW.trod_int Tryz.underlying3 h0
  obtain ⟨z1, e1, -, w1⟩ := DataW.trod_int Tryz.underlying3 h1
  obtain ⟨z2, e2, -, w2⟩ := DataW.trod_int Tryz.underlying3 h2
  refine ⟨z0, z1, z2, ?_, w0, w1, w2⟩
  match cs, hl, e0, e1, e2 with
  | [c0, c1, c2], _, e0, e1, e2 =>
    simp at e0 e1 e2
    rw [e0, e1, e2]
theorem list_cells {fuel : Nat} {ao : Option Addr} {len cap : Nat} {x : DataW H × List MemPlace} (hf : DataW.trod enc Tryz.prog W 0 (fun _ => true) held fuel 22 [.slice ao len cap] = some x) :
    Value.slice ao len cap = .slice none 0 0 ∨ ∃ (a : Addr) (l c : Nat), Value.slice ao len cap = .slice (some a) l c ∧ l ≤ c ∧ (0 < c → a.spot = none) ∧
      ∀ j, j < c * 3 → ∃ z : Int, W.cell? ⟨a.block, a.off + j, none⟩ = some (.int .i64 z) ∧ -9223372036854775808 ≤ z ∧ z < 9223372036854775808 := by
  rcases open_slice Tryz.underlying22 hf with ⟨hcs, -⟩ | ⟨a, l, c, m, n, D, Pl, hcs, -, hlc, -, hmc, -, hel⟩
  · left
    exact (List.cons.inj hcs).1
  · right
    have e : Value.slice ao len cap = .slice (some a) l c := (List.cons.inj hcs).1
    have hel3 : ∀ i, i < c → ∃ cs', W.cells? 0 (a.add (i * 3)) 3 = some cs' ∧ DataW.trod enc Tryz.prog W 0 (fun _ => true) held n 25 cs' = some (D i, Pl i) := by
      simp only [if_true] at hmc
      subst hmc
      rw [cells25] at hel
      exact hel
    have hspot : 0 < c → a.spot = none := fun h0 => by
      obtain ⟨cs', hc', ht⟩ := hel3 0 h0
      obtain ⟨z0, z1, z2, rfl, -⟩ := ints3 ht
      have hz := (World.cells?_some hc').2.2 0 (by decide)
      have e0 : (a.add (0 * 3)).add 0 = a := by simp [Addr.add]
      rw [e0] at hz
      simp only [World.cell?] at hz
      split at hz
      · cases hs : a.spot with
        | none => rfl
        | some k => simp [hs] at hz
      · simp at hz
    refine ⟨a, l, c, e, hlc, hspot, fun j hj => ?_⟩
    obtain ⟨cs', hc', ht⟩ := hel3 (j / 3) (by omega)
    obtain ⟨z0, z1, z2, rfl, w0, w1, w2⟩ := ints3 ht
    have hs := hspot (by omega)
    have hcell := (World.cells?_some hc').2.2 (j % 3) (Nat.mod_lt _ (by decide))
    have ea : (a.add (j / 3 * 3)).add (j % 3) = ⟨a.block, a.off + j, none⟩ := by
      obtain ⟨ab, ao', as'⟩ := a
      cases hs
      have : j / 3 * 3 + j % 3 = j := by omega
      simp only [Addr.add]
      split <;> split <;> simp <;> omega
    rw [ea] at hcell
    have hm : j % 3 = 0 ∨ j % 3 = 1 ∨ j % 3 = 2 := by omega
    rcases hm with hm | hm | hm <;> rw [hm] at hcell
    · exact ⟨z0, by simpa using hcell, wf_i64 w0⟩
    · exact ⟨z1, by simpa using hcell, wf_i64 w1⟩
    · exact ⟨z2, by simpa using hcell, wf_i64 w2⟩
end
end Go.Proofs.YtdmijaofelgonaaGreatDoor
