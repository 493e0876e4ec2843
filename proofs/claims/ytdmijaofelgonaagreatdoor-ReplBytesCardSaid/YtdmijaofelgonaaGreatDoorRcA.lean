/-
  ReplBytes of layer 19, proved: for every list and every text it answers true and leaves them as they were; the five listed variables start as the program's text lays them.
-/
import Derived.Test.YtdmijaofelgonaaGreatDoorRaW
import Derived.Test.YtdmijaofelgonaaGreatDoorRbN
import Derived.Test.YtdmijaofelgonaaGreatDoorRbK
import Derived.Test.YtdmijaofelgonaaGreatDoorAmQ
import Derived.Test.YtdmijaofelgonaaGreatDoorRows
import Derived.Test.YtdmijaofelgonaaGreatDoorTie
import Derived.Test.YtdmijaofelgonaaGreatDoorCards
import Derived.LaidMore
import Derived.OpenShut
import Derived.Stop.Joined
import Derived.SevenTiedAt
set_option maxRecDepth 100000
namespace Go.Am.R1
open Go Go.Am Go.Proofs Go.Am.R1B
/-- The table: the functions of the law, and the document's example as a primitive. -/
def tabL2 : List (Nat × AFn) := [(6, .prim worksG worksG_fr), (3, .code a3), (7, .code a7), (8, .code a8), (9, .code a9), (10, .code a10), (25, .code a25), (26, .code a26), (27, .code a27), (28, .code a28), (29, .code a29), (30, .code a30),
  (31, .code a31), (32, .code a32), (60, .code a60), (61, .code a61), (62, .code a62), (63, .code a63), (64, .code a64), (65, .code a65), (94, .code a94)]
theorem tab2_ok : TabOk Tryz.prog (lookL tabL2) := tabOk_list (
  all_cons works_ok (
  all_cons ⟨Tryz.f3, Tryz.func3, by kernel_rfl, c3⟩ (
  all_cons ⟨Tryz.f7, Tryz.func7, by kernel_rfl, c7⟩ (
  all_cons ⟨Tryz.f8, Tryz.func8, by kernel_rfl, c8⟩ (
  all_cons ⟨Tryz.f9, Tryz.func9, by kernel_rfl, c9⟩ (
  all_cons ⟨Tryz.f10, Tryz.func10, by kernel_rfl, c10⟩ (
  all_cons ⟨Tryz.f25, Tryz.func25, by kernel_rfl, c25⟩ (
  all_cons ⟨Tryz.f26, Tryz.func26, by kernel_rfl, c26⟩ (
  all_cons ⟨Tryz.f27, Tryz.func27, by kernel_rfl, c27⟩ (
  all_cons ⟨Tryz.f28, Tryz.func28, by kernel_rfl, c28⟩ (
  all_cons ⟨Tryz.f29, Tryz.func29, by kernel_rfl, c29⟩ (
  all_cons ⟨Tryz.f30, Tryz.func30, by kernel_rfl, c30⟩ (
  all_cons ⟨Tryz.f31, Tryz.func31, by kernel_rfl, c31⟩ (
  all_cons ⟨Tryz.f32, Tryz.func32, by kernel_rfl, c32⟩ (
  all_cons ⟨Tryz.f60, Tryz.func60, by kernel_rfl, c60⟩ (
  all_cons ⟨Tryz.f61, Tryz.func61, by kernel_rfl, c61⟩ (
  all_cons ⟨Tryz.f62, Tryz.func62, by kernel_rfl, c62⟩ (
  all_cons ⟨Tryz.f63, Tryz.func63, by kernel_rfl, c63⟩ (
  all_cons ⟨Tryz.f64, Tryz.func64, by kernel_rfl, c64⟩ (
  all_cons ⟨Tryz.f65, Tryz.func65, by kernel_rfl, c65⟩ (
  all_cons ⟨Tryz.f94, Tryz.func94, by kernel_rfl, c94⟩ (
  all_nil))))))))))))))))))))))
theorem tab2 : Tab (lookL tabL2) := ⟨rfl, rfl, rfl, rfl, rfl, rfl, rfl, rfl, rfl, rfl, rfl, rfl, rfl, rfl, rfl, rfl, rfl, rfl, rfl, rfl⟩
theorem runs2 (k : Nat) : CallOk Tryz.prog (acall (lookL tabL2) [] k) := acall_ok (fun _ h => by cases h) Tryz.it133.mixed tab2_ok k
theorem works_at {s : St} (h0 : s.heap.get 0 = some (errAt 900)) (h1 : s.heap.get 1 = some (errAt 901)) (k : Nat) : acall (lookL tabL2) [] (k + 1) 6 [] s = .ok (.bool true, s) := by
  rw [acall_prim (g := worksG) (h := worksG_fr) rfl]
  simp only [worksG, h0, h1, errAt]
/-- The two errors, where the model has them. -/
structure Errs (W : World) (a0 a1 : Addr) : Prop where
  c0 : W.cell? ⟨0, 0, none⟩ = some (.iface 261 (.pointer (some a0)))
  c1 : W.cell? ⟨1, 0, none⟩ = some (.iface 261 (.pointer (some a1)))
  s0 : a0.spot = none
  s1 : a1.spot = none
def exOf (a0 a1 : Addr) (ex : Nat → Nat → Option Loc) : Nat → Nat → Option Loc := fun g v =>
  if g = 900 ∧ v = 1 then some ⟨a0.block, a0.off, a0.off + 1⟩ else if g = 901 ∧ v = 1 then some ⟨a1.block, a1.off, a1.off + 1⟩ else ex g v
theorem err_ro {μ : Mu} {W : World} {g e v : Nat} {a : Addr} {l : Loc} (hl : l = ⟨g, 0, v⟩) (hc : W.cell? ⟨g, 0, none⟩ = some (.iface 261 (.pointer (some a)))) (hs : a.spot = none) {z : Nat} (hμ : μ e 1 = some ⟨a.block, a.off, z⟩) :
    RoAt μ [.iface 261 (.pointer (some ⟨e, 0, some 1⟩))] v l W := by
  subst hl
  simp only [World.cell?] at hc
  split at hc
  · rename_i C e' f hC
    refine ⟨C, e', f, hC, fun i x _ hx => ?_⟩
    cases i with
    | zero =>
      simp at hx
      subst hx
      refine ⟨_, by simpa using hc, .iface ?_⟩
      obtain ⟨b, o, s⟩ := a
      cases hs
      exact .ptr hμ
    | succ i => simp at hx
  · cases hc
/-- The law, in the model: l: the list as it came in. -/
theorem law_calls {W : World} {a0 a1 : Addr} (hE : Errs W a0 a1) (b : ByteArray) {v0 : Value}
    (h0 : v0 = .slice none 0 0 ∨ ∃ (a : Addr) (len cap : Nat), v0 = .slice (some a) len cap ∧ len ≤ cap ∧ (0 < cap → a.spot = none) ∧
      ∀ j, j < cap * 3 → ∃ z : Int, W.cell? ⟨a.block, a.off + j, none⟩ = some (.int .i64 z) ∧ -9223372036854775808 ≤ z ∧ z < 9223372036854775808) :
    Calls Tryz.prog 3 #[v0, .string b] W fun e W' => e = .returned (.bool true) ∧ RowKit.Below W.heap.size W W' := by
  have hgl : ∀ ex, Gl Tryz.prog (muOf 5 ex) := fun ex => gl_of (of_decide_eq_true (by kernel_rfl))
  have run : ∀ (H : T Ob) (lv : Value) (n : Nat) (Z : List Int), H.get 0 = some (errAt 900) → H.get 1 = some (errAt 901) → SlR 3 ⟨H, 1000, 1000⟩ lv n (ints Z) → Below 1000 lv → (∀ z ∈ Z, z < 9223372036854775808) → Z.length = n * 3 →
      ∃ s', acall (lookL tabL2) [] 90001 3 [lv, .string b] ⟨H, 1000, 1000⟩ = .ok (.bool true, s') := fun H lv n Z g0 g1 hR hB hZ hn => by
    obtain ⟨v, s', h1, h2, h3⟩ := run3 (b := b) (s := ⟨H, 1000, 1000⟩) (k := 90000) (by decide) tab2 (works_at g0 g1 89999) hR hB hZ hn
    exact ⟨s', by rw [h1, h2]⟩
  -- the start without the list
  have objs : ∀ (ex : Nat → Nat → Option Loc) (g : Nat) (o : Ob), heapE.get g = some o → g < 1000 ∧ ∃ cells, o = .ro cells ∧ (∀ x ∈ cells, one x = true) ∧ ∀ v l, muOf 5 (exOf a0 a1 ex) g v = some l → v ≤ cells.length → RoAt (muOf 5 (exOf a0 a1 ex)) cells v l W := fun ex g o ho => by
    rcases heapE_get ho with ⟨rfl, rfl⟩ | ⟨rfl, rfl⟩
    · refine ⟨by decide, _, rfl, fun x hx => by have e := List.mem_singleton.1 hx; subst e; rfl, fun v l hl _ => ?_⟩
      rw [muOf_lt (by decide)] at hl
      exact err_ro (Option.some.inj hl).symm hE.c0 hE.s0 (z := a0.off + 1) (by rw [muOf_ge (by decide)]; simp [exOf])
    · refine ⟨by decide, _, rfl, fun x hx => by have e := List.mem_singleton.1 hx; subst e; rfl, fun v l hl _ => ?_⟩
      rw [muOf_lt (by decide)] at hl
      exact err_ro (Option.some.inj hl).symm hE.c1 hE.s1 (z := a1.off + 1) (by rw [muOf_ge (by decide)]; simp [exOf])
  have fits : ∀ (ex : Nat → Nat → Option Loc), (∀ g v l, ex g v = some l → g < 1000 ∧ l.s + v ≤ l.z) → ∀ g v l, 5 ≤ g → exOf a0 a1 ex g v = some l → g < 1000 ∧ l.s + v ≤ l.z := fun ex hex g v l _ hl => by
    simp only [exOf] at hl
    split at hl
    · rename_i h; cases hl; exact ⟨by omega, by show a0.off + v ≤ a0.off + 1; omega⟩
    · split at hl
      · rename_i h; cases hl; exact ⟨by omega, by show a1.off + v ≤ a1.off + 1; omega⟩
      · exact hex g v l hl
  have g0 : heapE.get 0 = some (errAt 900) := rfl
  have g1 : heapE.get 1 = some (errAt 901) := rfl
  have plain : ∀ (ex : Nat → Nat → Option Loc) (lv : Value) (argc : Value), (∀ g v l, ex g v = some l → g < 1000 ∧ l.s + v ≤ l.z) → VRel (muOf 5 (exOf a0 a1 ex)) lv argc → (∃ a m, lv = .slice a 0 m) → Below 1000 lv →
      Calls Tryz.prog 3 #[argc, .string b] W fun e W' => e = .returned (.bool true) ∧ RowKit.Below W.heap.size W W' := fun ex lv argc hex hv hlv hB => by
    obtain ⟨s', hr⟩ := run heapE lv 0 [] g0 g1 (.inl ⟨rfl, rfl, hlv⟩) hB (fun z hz => by cases hz) rfl
    exact run_true (argsc := [argc, .string b]) (runs2 90001) (hgl _) (.cons hv (.cons (.str b) (.nil _))) (fun hi => (start_inv (by decide) (fits ex hex) (objs ex)).1) ((start_inv (hi := 0) (by decide) (fits ex hex) (objs ex)).2) hr
  rcases h0 with rfl | ⟨a, len, cap, rfl, hlc, hsp, hcells⟩
  · exact plain (fun _ _ => none) (.slice none 0 0) _ (fun g v l h => by cases h) .slNil ⟨_, _, rfl⟩ (fun g i u n m he => by cases he)
  · by_cases hcap : cap = 0
    · subst hcap
      have hl0 : len = 0 := by omega
      subst hl0
      refine plain (fun g v => if g = 10 ∧ v = 0 then some ⟨0, 0, 0⟩ else none) (.slice (some ⟨10, 0, some 0⟩) 0 6) _ (fun g v l h => ?_) (.sl (l := ⟨0, 0, 0⟩) ?_ (by decide) (by decide) (Nat.le_refl _) (fun h => absurd rfl h) (fun h => by simp at h)) ⟨_, _, rfl⟩ (fun g i u n m he => by cases he; decide)
      · split at h
        · rename_i hh; cases h; exact ⟨by omega, by show 0 + v ≤ 0; omega⟩
        · cases h
      · rw [muOf_ge (by decide)]
        simp [exOf]
    · have hspot := hsp (by omega)
      obtain ⟨ab, ao, asp⟩ := a
      cases hspot
      obtain ⟨Z, hZl, hZr, hZc⟩ := row_ints hcells
      dsimp only at hZc
      let ex : Nat → Nat → Option Loc := fun g v => if g = 10 ∧ v = cap * 3 then some ⟨ab, ao, ao + cap * 3⟩ else none
      have hex : ∀ g v l, ex g v = some l → g < 1000 ∧ l.s + v ≤ l.z := fun g v l h => by
        simp only [ex] at h
        split at h
        · rename_i hh; cases h; exact ⟨by omega, by show ao + v ≤ ao + cap * 3; omega⟩
        · cases h
      have h10 : ∀ v l, muOf 5 (exOf a0 a1 ex) 10 v = some l → v = cap * 3 ∧ l = ⟨ab, ao, ao + cap * 3⟩ := fun v l h => by
        rw [muOf_ge (by decide)] at h
        simp only [exOf] at h
        rw [if_neg (by omega), if_neg (by omega)] at h
        simp only [ex] at h
        split at h
        · rename_i hh; exact ⟨hh.2, (Option.some.inj h).symm⟩
        · cases h
      have hμ : muOf 5 (exOf a0 a1 ex) 10 (cap * 3) = some ⟨ab, ao, ao + cap * 3⟩ := by
        rw [muOf_ge (by decide)]
        simp [exOf, ex]
      have st := fun hi => start_inv (hi := hi) (n := 5) (ex := exOf a0 a1 ex) (H := heapE.set 10 (.ro (ints Z))) (w := W) (by decide) (fits ex hex) (fun g o ho => by
        rw [T.get_set] at ho
        split at ho
        · rename_i hg
          cases ho
          subst hg
          refine ⟨by decide, _, rfl, fun x hx => ?_, fun v l hl _ => ?_⟩
          · obtain ⟨z, _, rfl⟩ := List.mem_map.1 hx; rfl
          · obtain ⟨rfl, rfl⟩ := h10 v l hl
            exact ro_ints rfl (by omega) hZc
        · exact objs ex g o ho)
      have hsee : DD.Sees ((heapE.set 10 (.ro (ints Z))).get 10) (cap * 3) (ints Z) := .inr ⟨T.get_set_same _ _ _, by rw [List.length_map, hZl]; exact Nat.le_refl _⟩
      have hlc3 : len * 3 ≤ cap * 3 := Nat.mul_le_mul_right 3 hlc
      obtain ⟨s', hr⟩ := run (heapE.set 10 (.ro (ints Z))) (.slice (some ⟨10, 0, some (cap * 3)⟩) len 6) len (Z.take (len * 3)) (by rw [T.get_set_ne _ _ (by decide)]; rfl) (by rw [T.get_set_ne _ _ (by decide)]; rfl)
        (.inr ⟨10, 0, cap * 3, 6, ints Z, rfl, rfl, hsee, by omega, by rw [List.drop_zero, ← List.map_take], by rw [List.length_map, List.length_take]; omega⟩) (fun g i u n m he => by cases he; decide)
        (fun z hz => (hZr z (List.mem_of_mem_take hz)).2) (by rw [List.length_take]; omega)
      exact run_true (argsc := [.slice (some ⟨ab, ao, none⟩) len cap, .string b]) (runs2 90001) (hgl _)
        (.cons (.sl (l := ⟨ab, ao, ao + cap * 3⟩) hμ (by decide) (by show 0 + len * 3 ≤ cap * 3; omega) hlc (fun _ => ⟨rfl, by show ao + 0 + cap * 3 ≤ ao + cap * 3; omega⟩) (fun h => by simp at h)) (.cons (.str b) (.nil _)))
        (fun hi => (st hi).1) (st 0).2 hr
end Go.Am.R1
