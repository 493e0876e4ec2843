/-
  ReplBytes of layer 19: the card. For every list and every text the law answers true and leaves them as they were; the five listed variables start as the program's text lays them.
-/
import Derived.Test.YtdmijaofelgonaaGreatDoorRcA
import Derived.Test.YtdmijaofelgonaaGreatDoorRcX
import Derived.Deep.Strs
import Derived.Deep.Slices
import Derived.DataReads
set_option maxRecDepth 100000
namespace Go.Proofs.YtdmijaofelgonaaGreatDoor
open Go Go.Am Go.Proofs Go.ChangeShapes Go.WideShapes Go.ChangeAt Go.ChangeMaps Go.WideMaps Go.WideElems Go.RowKit Go.Deep

theorem own : ownKnob Tryz.prog.godebug = none := by kernel_rfl
theorem laidOut : laidOutB Tryz.prog = true := by kernel_rfl
theorem g0n : Tryz.prog.globalNamed "strconv.ErrSyntax" = some 0 := by kernel_rfl
theorem g1n : Tryz.prog.globalNamed "strconv.ErrRange" = some 1 := by kernel_rfl
theorem g0t : (Tryz.prog.globals[0]?).map (·.type) = some 163 := by kernel_rfl
theorem g1t : (Tryz.prog.globals[1]?).map (·.type) = some 163 := by kernel_rfl
theorem cells263 : Tryz.prog.cellsOf 263 = 1 := by kernel_rfl
theorem cells9 : Tryz.prog.cellsOf 9 = 1 := by kernel_rfl
theorem star : "*" ++ "errors.errorString" = "*errors.errorString" := by decide
theorem row261 (u : TypeId) (h : Tryz.prog.typeName? 3 u = some "*errors.errorString") : u = 261 :=
  typeName_ptr_named (nm := "errors.errorString") (by rw [star]; kernel_rfl) (by kernel_rfl) (by decide) u (by rw [star]; exact h)

/-- What the premise on the listed variables gives: the two errors. -/
theorem errs_of {W : World} (h : laidMetH Tryz.prog Rows.replBytesRow.laid W) : ∃ a0 a1, R1.Errs W a0 a1 := by
  rw [MakeChecks.laidMetH_plain _ _ _ (by kernel_rfl)] at h
  obtain ⟨a0, s0, h0, c0⟩ := laid_err h (List.mem_cons_of_mem _ (List.mem_cons_of_mem _ (List.mem_cons_of_mem _ (List.mem_cons_of_mem _ (List.mem_singleton.2 rfl))))) g0n g0t Tryz.underlying163 row261 Tryz.underlying261 Tryz.underlying263 rfl rfl Tryz.underlying9 cells263 cells9
  obtain ⟨a1, s1, h1, c1⟩ := laid_err h (List.mem_cons_of_mem _ (List.mem_cons_of_mem _ (List.mem_cons_of_mem _ (List.mem_cons_self)))) g1n g1t Tryz.underlying163 row261 Tryz.underlying261 Tryz.underlying263 rfl rfl Tryz.underlying9 cells263 cells9
  have spot : ∀ (a : Addr) (s : ByteArray), W.cell? a = some (.string s) → a.spot = none := fun a s hc => by
    simp only [World.cell?] at hc
    split at hc
    · cases hs : a.spot with
      | none => rfl
      | some n => simp [hs] at hc
    · cases hc
  exact ⟨a0, a1, h0, h1, spot a0 s0 c0, spot a1 s1 c1⟩

/-- The door's own heap meets the premise. -/
theorem door_met (os : Os) (args : Array Value) : laidMetH Tryz.prog Rows.replBytesRow.laid ((World.doorLaid Tryz.prog 400 os).forCall (fun _ _ => 0) ⟨#[], args, []⟩).memory :=
  laidMetH_of_parts3 (fuel := 8) (laidMet_of_run' 8 (by kernel_rfl) (by kernel_rfl)) (by kernel_rfl) (by kernel_rfl)

theorem replBytes_lifted (os : Os) (started : os.Started) (H : Type) (enc : TypeId × Value → H) :
    ReturnsInHanded {} Tryz.checked os 3 .any (fun w args => (Rows.replBytesSpec.pre enc Tryz.prog Tryz.f3 [] false w args ∧ laidMetH Tryz.prog Rows.replBytesRow.laid w) ∧ sizedMet enc Tryz.prog Tryz.f3 (OpenSpec.ofChange Rows.replBytesSpec) false w args)
      (Rows.replBytesSpec.post enc Tryz.prog Tryz.f3 false true false false) := by
  refine returnsInHanded_of_change_and (C := Tryz.checked) (X := fun w _ => laidMetH Tryz.prog Rows.replBytesRow.laid w) (fun _ _ _ hh h => h.of_heap hh) own started (by kernel_rfl) Tryz.func3
    (ChangeSpec.witness_shaped (enc := enc) (C := Tryz.checked) (os := os) (X := fun w _ => laidMetH Tryz.prog Rows.replBytesRow.laid w) false (World.doorLaid Tryz.prog 400 os) #[.slice none 0 0, .string ⟨#[]⟩] 8 rfl (World.shaped_of_RefB (by kernel_rfl) (by kernel_rfl)) (by kernel_rfl) (by kernel_rfl) (by kernel_rfl) (door_met os _)) ?_
  intro W base args ds gs before hval0 hW _ _ hL _
  have hval : ∀ (j : Nat) t v, Tryz.f3.params[j]? = some t → args[j]? = some v → Value.okWide Tryz.prog W .any base t v := hval0
  have hW' := hW
  obtain ⟨p, q, hA0, hV, rfl, hfz, hnd⟩ := hW
  have hA : DataW.TrodAll enc Tryz.prog W 0 (fun _ => true) true Tryz.f3.params.toList args.toList ds p := hA0
  rw [Tryz.params3] at hA hval
  obtain ⟨v0, v1, d0, d1, p0, p1, rfl, rfl, rfl, h0, h1⟩ := trodAll_two hA
  obtain ⟨rfl, rfl⟩ := trodVars_none hV
  obtain ⟨b, rfl, rfl, rfl, hb⟩ := open_string Tryz.underlying9 (hval 1 9 v1 rfl rfl) h1
  obtain ⟨a0, a1, hE⟩ := errs_of hL
  have h0k := h0
  have hlt : ∀ x ∈ p0, x.block < W.heap.size := fun x hx => by simpa using hW'.lt x (List.mem_append_left _ (List.mem_append_left _ hx))
  obtain ⟨ao, len, cap, rfl⟩ := okWide_slice Tryz.underlying22 (hval 0 22 v0 rfl rfl)
  have hv0 : Value.slice ao len cap = .slice none 0 0 ∨ ∃ (a : Addr) (l c : Nat), Value.slice ao len cap = .slice (some a) l c ∧ l ≤ c ∧ (0 < c → a.spot = none) ∧
      ∀ j, j < c * 3 → ∃ z : Int, W.cell? ⟨a.block, a.off + j, none⟩ = some (.int .i64 z) ∧ -9223372036854775808 ≤ z ∧ z < 9223372036854775808 := by
    obtain ⟨fuel, hf⟩ := h0
    exact list_cells hf
  refine (R1.law_calls hE b hv0).mono fun e W' ⟨he, hbel⟩ => ?_
  subst he
  refine ⟨_, rfl, _, _, _, [], p0 ++ [], [], hW', trodAll_mk1 (shut_bool Tryz.underlying4 _), trodAll_mk2 (Below.trod laidOut (by kernel_rfl) (of_decide_eq_true (by kernel_rfl)) h0k hbel hlt) (shut_string Tryz.underlying9 hb), rfl, hbel.frame _, fun h => by cases h⟩

theorem replBytes_holds : Rows.ReplBytesSaid :=
  OpenClaim.holds_of_wide 3 Tryz.f3 rfl rfl rfl rfl rfl rfl rfl ⟨rfl, rfl, rfl, rfl, rfl⟩ rfl rfl rfl rfl rfl (by kernel_rfl) Tryz.func3 (by kernel_rfl)
    (of_decide_eq_true (by kernel_rfl)) (by unfold Func.isWrapper; first | (rw [if_pos (by decide +kernel)]; kernel_rfl) | (rw [if_neg (by decide +kernel)]; exact ⟨rfl, rfl⟩))
    (fun os started H enc _ => replBytes_lifted os started H enc)

theorem replBytes_card : Rows.ReplBytesCardSaid :=
  Claim7.holds_tied_plain_at .later [] [.data, .data, .data, .sentinel, .sentinel] true (true, "1632ba31669508debcbb4257da92b1e02c2d77f8ad4ef56455e104504ece2ab9") true
    replBytes_holds (fun _ h => by cases h) (by kernel_rfl) (fun _ h => by cases h) replBytes_row_tie rfl ⟨rfl, rfl⟩ (by kernel_rfl) rfl
    (fun f fn hf hfn => by
      obtain rfl : f = 3 := Option.some.inj ((show Tryz.prog.funcNamed "corncrib/corncriblaw19.ReplBytes" = some 3 by kernel_rfl).symm.trans hf) |>.symm
      obtain rfl : fn = Tryz.f3 := (Option.some.inj (Tryz.func3.symm.trans hfn)).symm
      exact ⟨by kernel_rfl, fun j t ht => by
        rw [Tryz.params3] at ht
        have hm : t ∈ [22, 9] := by simpa using Array.mem_of_getElem? ht
        have hall : ([22, 9].all fun u => !Tryz.prog.wantsStandIn u) = true := by kernel_rfl
        exact (show Tryz.prog.wantsStandIn t = false by simpa using List.all_eq_true.1 hall t hm)⟩)
    (by kernel_rfl)
#print axioms replBytes_card
end Go.Proofs.YtdmijaofelgonaaGreatDoor
