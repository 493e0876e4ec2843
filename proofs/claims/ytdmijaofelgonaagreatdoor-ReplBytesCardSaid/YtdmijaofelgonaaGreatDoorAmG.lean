/-
  THE ABSTRACT MACHINE: append, make, copy, clear; bytes of texts.
-/
import Derived.Test.YtdmijaofelgonaaGreatDoorAmF
import Derived.Laws.Append
import Derived.Laws.AppendOwn
import Derived.Laws.MakeOwn
import Derived.Laws.BytesString
import Derived.Laws.BytesArg
namespace Go.Am
open Go.MapKept

section
variable {P : Program}
variable {dst : Option Tmp} {type : TypeId} {pos : String} {after : Array Edge} {guard : Option (Nat × Bool)}

/-- What is appended: m elements, their cells. -/
structure SrcOk (P : Program) (μ : Mu) (w : World) (k : Nat) (X : Value) (m : Nat) (new News : List Value) : Prop where
  rel : LRel μ new News
  one : ∀ x ∈ new, one x = true
  len : new.length = m * k
  lenOf : ∀ w' : World, (Builtin.lenOf X).run P w' = .ok m w'
  pre : ∀ (w' : World) (c : Nat), w'.heap = w.heap → c ≤ m → (Builtin.firstCells k c X).run P w' = .ok ⟨News.take (c * k)⟩ w'

theorem SrcOk.cells {μ : Mu} {w : World} {k : Nat} {X : Value} {m : Nat} {new News : List Value} (h : SrcOk P μ w k X m new News) (w' : World) (hw : w'.heap = w.heap) :
    (Builtin.firstCells k m X).run P w' = .ok ⟨News⟩ w' := by
  rw [h.pre w' m hw (Nat.le_refl _), ← h.len, h.rel.1, List.take_length]

theorem cell_heap {w w' : World} (h : w'.heap = w.heap) (a : Addr) : w'.cell? a = w.cell? a := by simp [World.cell?, h]

theorem srcCells_ok {μ : Mu} {s : St} {w : World} (r : Rel μ s.heap w) {k : Nat} {x X : Value} (rx : VRel μ x X) {m : Nat} {new : List Value} (h : srcCells k s x = .ok (m, new)) :
    ∃ News, SrcOk P μ w k X m new News := by
  unfold srcCells at h
  split at h
  · cases h
    cases rx
    exact ⟨[], .nil μ, by simp, by simp, fun w' => by simp [Builtin.lenOf], fun w' c _ hc => by simp [Builtin.firstCells]⟩
  · rename_i g i v n mt
    cases rx with
    | sl h1 h2 h3 h4 h5 h6 =>
      rename_i a c l
      cases hn : Nat.beq n 0 with
      | true =>
        simp only [hn, cond_true] at h
        cases h
        have := Nat.eq_of_beq_eq_true hn
        subst this
        exact ⟨[], .nil μ, by simp, by simp, fun w' => by simp [Builtin.lenOf], fun w' c _ hc => by
          have : c = 0 := by omega
          subst this
          simp [Builtin.firstCells, loadCells, loadCellsFrom]⟩
      | false =>
        simp only [hn, cond_false] at h
        have hn0 : n ≠ 0 := fun e => by subst e; simp at hn
        cases hk : Nat.beq (mt / 2) k with
        | false => simp [hk] at h
        | true =>
          simp only [hk, cond_true] at h
          have hk' := Nat.eq_of_beq_eq_true hk
          split at h <;> cases h
          rename_i xs hxs
          obtain ⟨ha, _⟩ := h5 (by omega)
          subst ha
          obtain ⟨q1, q2, ys, q3, q4⟩ := readCells_rel r hxs h1
          have hl : ys.length = m * k := by rw [← q3.1, q1]
          refine ⟨ys, q3, q2, q1, fun w' => by simp [Builtin.lenOf], fun w' c hw hc => ?_⟩
          simp only [Builtin.firstCells]
          have hlc : (ys.take (c * k)).length = c * k := by
            have := Nat.mul_le_mul_right k hc
            rw [List.length_take, hl]; omega
          conv => lhs; rw [← hlc]
          exact run_loadCells_list w' _ _ (fun j y hy => by
            rw [cell_heap hw]
            refine q4 j y ?_
            rw [List.getElem?_take] at hy
            split at hy
            · exact hy
            · cases hy)
  · rename_i b
    have := scal_rel rx rfl
    subst this
    cases hk : Nat.beq k 1 with
    | false => simp [hk] at h
    | true =>
      simp only [hk, cond_true] at h
      cases h
      have hk' := Nat.eq_of_beq_eq_true hk
      subst hk'
      refine ⟨u8s b, ints_rel μ _ (u8s_scal b), u8s_one b, by rw [u8s_length]; omega, fun w' => by simp [Builtin.lenOf], fun w' c _ _ => ?_⟩
      simp only [Builtin.firstCells, Sem.run_pure]
      congr 1
      apply Array.ext'
      simp [u8s, ByteArray.data_extract, List.map_take]
  · cases h

/-- What the model's append comes to. -/
structure AppRun (P : Program) (w : World) (k m : Nat) (News : List Value) (e : TypeId) (A : Option Addr → Nat → Nat → Result Value) : Prop where
  room : ∀ (a : Addr) (sLen sCap : Nat), sLen + m ≤ sCap → A (some a) sLen sCap = ((storeCells (a.add (sLen * k)) News).run P w).andThen fun _ w' => .ok (.slice (some a) (sLen + m) sCap) w'
  roomNil : ∀ (sLen sCap : Nat), sLen + m ≤ sCap → A none sLen sCap = .ok (.slice none (sLen + m) sCap) w
  grow : ∀ (base : Option Addr) (sLen sCap : Nat) (old : List Value), sCap < sLen + m → sLen + m < mostElems →
    (Builtin.firstCells k sLen (.slice base sLen sCap)).run P w.drew = .ok ⟨old⟩ w.drew →
    ∃ (cap : Nat) (rest : List Value), sLen + m ≤ cap ∧ rest.length = (cap - (sLen + m)) * k ∧
      A base sLen sCap = .ok (.slice (some ⟨w.heap.size, 0, none⟩) (sLen + m) cap) (w.drew.alloc (.cells ⟨old ++ News ++ rest⟩ e))

theorem zeroOf_info {t : TypeId} {z : Value} (h : zeroOf P t = some z) : ∃ i, P.info? t = some i ∧ i.zero = some z := by
  unfold zeroOf at h
  cases hi : P.info? t with
  | none => simp [hi] at h
  | some i =>
    cases hz : i.zero with
    | none => simp [hi, hz] at h
    | some y =>
      simp only [hi, hz] at h
      split at h <;> cases h
      exact ⟨i, rfl, hz⟩
theorem zeroCells_length {e : TypeId} {z : Value} {k : Nat} (hz : zeroOf P e = some z) (hk : szOf P e = some k) (n : Nat) : (Builtin.zeroCells z.cells n).toList.length = n * k := by
  have h1 := (zeroOf_cells hz).2
  have h2 : LRel (fun _ _ => none) (vcells z) z.cells.toList := (plain1_rel (run_zeroOf hz default).2).cells
  have h3 : z.cells.size = k := by
    rw [hk] at h1
    have h4 := h2.1
    have := Option.some.inj h1
    simp at h4
    omega
  simp [Builtin.zeroCells, h3]

theorem appRun_src {μ : Mu} {w : World} {k m : Nat} {X : Value} {new News : List Value} (src : SrcOk P μ w k X m new News) {t tx ty e : TypeId} (ht : P.underlying t = some (.slice e))
    {d : TypeDesc} (hd : P.underlying tx = some d) (hdi : (∃ e', d = .slice e') ∨ d = .string) (hk : szOf P e = some k) {z : Value} (hz : zeroOf P e = some z) {bytes : Nat} (hb : bytesOfT P e = some bytes) (hb4 : bytes ≤ 4096) :
    AppRun P w k m News e (fun base sLen sCap => (Builtin.append_ #[t, tx] ty #[.slice base sLen sCap, X]).run P w) := by
  obtain ⟨inf, hi, hiz⟩ := zeroOf_info hz
  have hki : inf.size = k := by simpa [szOf, hi] using hk
  have hbi : inf.bytes = bytes := by simpa [bytesOfT, hi] using hb
  refine ⟨fun a sLen sCap h => ?_, fun sLen sCap h => ?_, fun base sLen sCap old h1 h2 h3 => ?_⟩
  · rcases hdi with ⟨e', rfl⟩ | rfl <;> simp [Builtin.append_, run_underlying ht, run_underlying hd, run_szOf hk, src.lenOf, h, src.cells w rfl]
  · rcases hdi with ⟨e', rfl⟩ | rfl <;> simp [Builtin.append_, run_underlying ht, run_underlying hd, run_szOf hk, src.lenOf, h, src.cells w rfl]
  · have hn : ¬ (sLen + m ≤ sCap) := by omega
    have h63 : ¬ (9223372036854775807 < ((sLen : Int) + (m : Int))) := by simp only [mostElems] at h2; omega
    have hfit : Builtin.nextslicecap (sLen + m) sCap * inf.bytes ≤ 281474976710656 := by
      refine growslice_fits h1 ?_
      have : (sLen + m) * inf.bytes ≤ 4294967296 * 4096 := Nat.mul_le_mul (by simp only [mostElems] at h2; omega) (by omega)
      omega
    have h48 : ¬ (281474976710656 < Builtin.nextslicecap (sLen + m) sCap * inf.bytes) := by omega
    have hf := src.cells w.drew rfl
    refine ⟨grownCap w (sLen + m) sCap e, (Builtin.zeroCells z.cells (grownCap w (sLen + m) sCap e - (sLen + m))).toList, grownCap_ge _ _ _ _, zeroCells_length hz hk _, ?_⟩
    have hzr : ∀ w', (zeroValue e).run P w' = .ok z w' := fun w' => (run_zeroOf hz w').1
    have hq : (Question.appendCap (sLen + m) sCap e).forced = false := rfl
    have e1 : (⟨old ++ News ++ (Builtin.zeroCells z.cells (grownCap w (sLen + m) sCap e - (sLen + m))).toList⟩ : Array Value) = (⟨old⟩ : Array Value) ++ ⟨News⟩ ++ Builtin.zeroCells z.cells (grownCap w (sLen + m) sCap e - (sLen + m)) := by
      apply Array.ext'; simp
    rw [e1]
    rcases hdi with ⟨e', rfl⟩ | rfl <;> simp [Builtin.append_, run_underlying ht, run_underlying hd, run_szOf hk, run_info hi, src.lenOf, hn, h63, h48, hq, h3, hf, hzr, Go.newRow, grownCap] <;>
      (congr 2; apply Array.ext'; simp)

theorem appRun_zeros {w : World} {k m : Nat} {t tx ty e : TypeId} (ht : P.underlying t = some (.slice e)) {kd : IntKind} (hd : P.underlying tx = some (.int kd)) (hk : szOf P e = some k)
    {z : Value} (hz : zeroOf P e = some z) {bytes : Nat} (hb : bytesOfT P e = some bytes) (hb4 : bytes ≤ 4096) (hm : m < mostElems) (kd' : IntKind) :
    AppRun P w k m (repl z.cells.toList m) e (fun base sLen sCap => (Builtin.append_ #[t, tx] ty #[.slice base sLen sCap, .int kd' m]).run P w) := by
  obtain ⟨inf, hi, hiz⟩ := zeroOf_info hz
  have hbi : inf.bytes = bytes := by simpa [bytesOfT, hi] using hb
  have hzr : ∀ w', (zeroValue e).run P w' = .ok z w' := fun w' => (run_zeroOf hz w').1
  have hwrap : IntKind.i64.wrap (m : Int) = m := by rw [IntKind.wrap_i64]; simp only [mostElems] at hm; omega
  have hm48 : ¬ (281474976710656 < (m : Int) * (inf.bytes : Int)) := by
    have : m * inf.bytes ≤ 4294967296 * 4096 := Nat.mul_le_mul (by simp only [mostElems] at hm; omega) (by omega)
    rw [← Int.natCast_mul]
    generalize m * inf.bytes = q at this
    omega
  have hzk : z.cells.size = k := by
    have h1 := zeroCells_length hz hk 1
    simpa [Builtin.zeroCells] using h1
  have hrep : m * k = 0 → repl z.cells.toList m = [] := fun h0 => by
    apply List.eq_nil_of_length_eq_zero
    rw [repl_length]
    simp [hzk, h0]
  have hm0 : ¬ ((m : Int) < 0) := by omega
  refine ⟨fun a sLen sCap h => ?_, fun sLen sCap h => ?_, fun base sLen sCap old h1 h2 h3 => ?_⟩
  · by_cases h0 : m * k = 0
    · have hr := hrep h0
      simp [Builtin.append_, run_underlying ht, run_underlying hd, run_szOf hk, run_info hi, asInt, asIntOf, hwrap, hm0, hm48, h, h0, hr]
    · simp [Builtin.append_, run_underlying ht, run_underlying hd, run_szOf hk, run_info hi, asInt, asIntOf, hwrap, hm0, hm48, h, h0, hzr, Builtin.zeroCells, array_zeros]
  · by_cases h0 : m * k = 0
    · have hr := hrep h0
      simp [Builtin.append_, run_underlying ht, run_underlying hd, run_szOf hk, run_info hi, asInt, asIntOf, hwrap, hm0, hm48, h, h0, hr]
    · simp [Builtin.append_, run_underlying ht, run_underlying hd, run_szOf hk, run_info hi, asInt, asIntOf, hwrap, hm0, hm48, h, h0, hzr, Builtin.zeroCells, array_zeros]
  · have hn : ¬ (sLen + m ≤ sCap) := by omega
    have h63 : ¬ (9223372036854775807 < ((sLen : Int) + (m : Int))) := by simp only [mostElems] at h2; omega
    have hfit : Builtin.nextslicecap (sLen + m) sCap * inf.bytes ≤ 281474976710656 := by
      refine growslice_fits h1 ?_
      have : (sLen + m) * inf.bytes ≤ 4294967296 * 4096 := Nat.mul_le_mul (by simp only [mostElems] at h2; omega) (by omega)
      omega
    have h48 : ¬ (281474976710656 < Builtin.nextslicecap (sLen + m) sCap * inf.bytes) := by omega
    refine ⟨grownCap w (sLen + m) sCap e, (Builtin.zeroCells z.cells (grownCap w (sLen + m) sCap e - (sLen + m))).toList, grownCap_ge _ _ _ _, zeroCells_length hz hk _, ?_⟩
    have hq : (Question.appendCap (sLen + m) sCap e).forced = false := rfl
    have e1 : (⟨old ++ repl z.cells.toList m ++ (Builtin.zeroCells z.cells (grownCap w (sLen + m) sCap e - (sLen + m))).toList⟩ : Array Value) = (⟨old⟩ : Array Value) ++ ⟨repl z.cells.toList m⟩ ++ Builtin.zeroCells z.cells (grownCap w (sLen + m) sCap e - (sLen + m)) := by
      apply Array.ext'; simp
    rw [e1]
    by_cases h0 : m * k = 0
    · have hr := hrep h0
      simp [Builtin.append_, run_underlying ht, run_underlying hd, run_szOf hk, run_info hi, asInt, asIntOf, hwrap, hm0, hm48, hn, h63, h48, hq, h3, h0, hr, hzr, Go.newRow, grownCap]
    · simp [Builtin.append_, run_underlying ht, run_underlying hd, run_szOf hk, run_info hi, asInt, asIntOf, hwrap, hm0, hm48, hn, h63, h48, hq, h3, h0, hzr, Go.newRow, grownCap, Builtin.zeroCells, array_zeros]
end
end Go.Am

/-
  THE ABSTRACT MACHINE: append.
-/
namespace Go.Am
open Go.MapKept

section
variable {P : Program}
variable {dst : Option Tmp} {type : TypeId} {pos : String} {after : Array Edge} {guard : Option (Nat × Bool)}

/-- The cells of a row as a list, from a place on. -/
theorem cells_at {μ : Mu} {H : T Ob} {w : World} (r : Rel μ H w) {g i v cnt : Nat} {l : Loc} {cells : List Value} {n minv : Nat} (hg : H.get g = some (.row cells n minv))
    (hl : μ g v = some l) (hv : minv ≤ v) (hc : i + cnt ≤ v) :
    ∃ ys : List Value, LRel μ ((cells.drop i).take cnt) ys ∧ ys.length = cnt ∧ ∀ (j : Nat) (y : Value), ys[j]? = some y → w.cell? ((⟨l.b, l.s + i, none⟩ : Addr).add j) = some y := by
  have h : readCells { heap := H, next := 0, low := 0 } g i v cnt = .ok ((cells.drop i).take cnt) := by
    have h1 : (Nat.ble minv v && Nat.ble (i + cnt) v) = true := by simp only [Bool.and_eq_true, Nat.ble_eq]; exact ⟨hv, hc⟩
    simp [readCells, hg, h1]
  obtain ⟨q1, q2, ys, q3, q4⟩ := readCells_rel (s := { heap := H, next := 0, low := 0 }) r h hl
  exact ⟨ys, q3, by rw [← q3.1, q1], q4⟩

theorem first_run {w w' : World} (hw : w'.heap = w.heap) {k n c : Nat} {a : Addr} {ys : List Value} (hl : ys.length = n * k) (h : ∀ (j : Nat) (y : Value), ys[j]? = some y → w.cell? (a.add j) = some y) :
    (Builtin.firstCells k n (.slice (some a) n c)).run P w' = .ok ⟨ys⟩ w' := by
  simp only [Builtin.firstCells]
  rw [← hl]
  exact run_loadCells_list w' a ys (fun j y hy => by rw [cell_heap hw]; exact h j y hy)

theorem one_of_rel {μ : Mu} {xs ys : List Value} (r : LRel μ xs ys) (h : ∀ x ∈ xs, one x = true) : ∀ y ∈ ys, y.oneCell' = true := by
  intro y hy
  obtain ⟨j, hj⟩ := List.mem_iff_getElem?.mp hy
  have hjl : j < xs.length := by
    rcases Nat.lt_or_ge j ys.length with h | h
    · have := r.1; omega
    · simp [List.getElem?_eq_none h] at hj
  have hx : xs[j]? = some xs[j] := List.getElem?_eq_getElem hjl
  rw [(r.2 j _ _ hx hj).oneCell]
  exact h _ (List.mem_of_getElem? hx)

/-- A new row behind a draw. -/
theorem row_drew {μ : Mu} {s : St} {w : World} {hi : Nat} (i : Inv μ s.heap s.next hi w) (hlt : s.next < hi) {cells Cs : List Value} (r : LRel μ cells Cs)
    (ho : ∀ x ∈ cells, one x = true) (rest : List Value) (e : TypeId) (minv : Nat) (fz : Nat × Nat) (hfz : ∀ o, o < Cs.length + rest.length → ¬ (fz.1 ≤ o ∧ o < fz.2)) :
    StepR μ s.heap s.next w (muSet μ s.next cells.length ⟨w.heap.size, 0, Cs.length + rest.length⟩) (s.heap.set s.next (.row cells cells.length minv)) (s.next + 1) (w.drew.alloc (.cells ⟨Cs ++ rest⟩ e fz)) := by
  have hsz : (⟨Cs ++ rest⟩ : Array Value).size = Cs.length + rest.length := by simp
  have i' : Inv μ s.heap s.next hi w.drew := i.drawn rfl
  have st := step_row i' hlt (C := ⟨Cs ++ rest⟩) e ho (by rw [hsz, r.1]; omega) (fun j x hx => by
    obtain ⟨y, hy, hv⟩ := r.get hx
    refine ⟨y, ?_, hv⟩
    rw [List.getElem?_toArray, List.getElem?_append_left]
    · exact hy
    · rcases Nat.lt_or_ge j Cs.length with h | h
      · exact h
      · simp [List.getElem?_eq_none h] at hy) minv fz (by rw [hsz]; exact hfz)
  rw [hsz] at st
  exact st.drawn rfl rfl rfl rfl

theorem even_half (k : Nat) : (2 * k) / 2 = k ∧ (2 * k) % 2 = 0 := by omega

theorem append_ok {μ : Mu} {s s' : St} {w : World} {hi : Nat} (i : Inv μ s.heap s.next hi w) {k m : Nat} (hk0 : 0 < k) {x X : Value} (rx : VRel μ x X) {new News : List Value}
    (rn : LRel μ new News) (hone : ∀ x ∈ new, one x = true) (hlen : new.length = m * k) {e : TypeId} {A : Option Addr → Nat → Nat → Result Value} (ar : AppRun P w k m News e A) {bytes : Nat} {v : Value}
    (h : appendCells k bytes s x m new = .ok (v, s')) (hle : s'.next ≤ hi) :
    ∃ base n c, X = .slice base n c ∧ ∃ V w' μ', A base n c = .ok V w' ∧ VRel μ' v V ∧ StepR μ s.heap s.next w μ' s'.heap s'.next w' ∧ StRel s s' := by
  have hNl : News.length = m * k := by rw [← rn.1]; exact hlen
  unfold appendCells at h
  split at h
  · -- onto nil
    cases rx
    refine ⟨none, 0, 0, rfl, ?_⟩
    cases hm : Nat.beq m 0 with
    | true =>
      simp only [hm, cond_true] at h
      cases h
      have := Nat.eq_of_beq_eq_true hm
      subst this
      exact ⟨_, w, μ, ar.roomNil 0 0 (Nat.le_refl _), .slNil, .refl i.rel, .refl s⟩
    | false =>
      simp only [hm, cond_false] at h
      have hm0 : m ≠ 0 := fun e => by subst e; simp at hm
      cases hb : (Nat.blt m mostElems && Nat.ble bytes 4096) with
      | false => simp [hb] at h
      | true =>
        simp only [hb, cond_true, newRow] at h
        simp only [Bool.and_eq_true, Nat.blt_eq] at hb
        cases h
        obtain ⟨cap, rest, h1, h2, h3⟩ := ar.grow none 0 0 [] (by omega) (by omega) (by simp [Builtin.firstCells])
        have st := row_drew i hle rn hone rest e 0 (0, 0) (by simp)
        rw [hlen] at st
        rw [Nat.zero_add] at h1 h2 h3
        refine ⟨_, _, _, h3, ?_, by simpa using st, .alloc s _⟩
        obtain ⟨q1, q2⟩ := even_half k
        have e3 : m * k + (cap - m) * k = cap * k := by rw [← Nat.add_mul]; congr 1; omega
        refine .sl (muSet_same _ _ _ _) (by rw [q1]; exact hk0) (by rw [q1]; omega) h1 (fun _ => ⟨rfl, ?_⟩) (fun h => by omega)
        show 0 + 0 + cap * (2 * k / 2) ≤ News.length + rest.length
        rw [q1, h2, hNl]
        omega
  · rename_i g i0 v0 n mt
    generalize hX : X = X' at rx
    cases rx with
    | sl h1 h2 h3 h4 h5 h6 =>
      rename_i a c l
      refine ⟨some a, n, c, rfl, ?_⟩
      cases hm : Nat.beq m 0 with
      | true =>
        simp only [hm, cond_true] at h
        cases h
        have := Nat.eq_of_beq_eq_true hm
        subst this
        have hN : News = [] := List.eq_nil_of_length_eq_zero (by omega)
        refine ⟨.slice (some a) n c, w, μ, ?_, .sl h1 h2 h3 h4 h5 h6, .refl i.rel, .refl s⟩
        rw [ar.room a n c (by omega), hN]
        simp [storeCells]
      | false =>
        simp only [hm, cond_false] at h
        have hm0 : m ≠ 0 := fun e => by subst e; simp at hm
        cases hkk : Nat.beq (mt / 2) k with
        | false => simp [hkk] at h
        | true =>
          simp only [hkk, Bool.not_true, cond_false] at h
          have hkm := Nat.eq_of_beq_eq_true hkk
          rw [hkm] at h2 h3 h5
          cases hb : (Nat.blt (n + m) mostElems && Nat.ble bytes 4096) with
          | false => simp [hb] at h
          | true =>
            simp only [hb, Bool.not_true, cond_false] at h
            simp only [Bool.and_eq_true, Nat.blt_eq] at hb
            split at h <;> try cases h
            rename_i cells len minv hg
            cases hmv : Nat.ble minv v0 with
            | false => simp [hmv] at h
            | true =>
              simp only [hmv, Bool.not_true, cond_false] at h
              rw [Nat.ble_eq] at hmv
              obtain ⟨hn, honec, hrow, hsame⟩ := i.rel.obj g _ hg
              obtain ⟨hle0, C, eC, f, hC, hz, hf, hr⟩ := hrow v0 l h1 hmv
              obtain ⟨q1, q2⟩ := even_half k
              have hnm : (n + m) * k = n * k + m * k := Nat.add_mul n m k
              have olds : ∃ ys : List Value, LRel μ ((cells.drop i0).take (n * k)) ys ∧ ys.length = n * k ∧ ∀ c', (Builtin.firstCells k n (.slice (some a) n c')).run P w.drew = .ok ⟨ys⟩ w.drew := by
                obtain ⟨ys, y1, y2, y3⟩ := cells_at i.rel hg h1 hmv h3
                refine ⟨ys, y1, y2, fun c' => ?_⟩
                by_cases hn0 : n = 0
                · subst hn0
                  have : ys = [] := List.eq_nil_of_length_eq_zero (by omega)
                  subst this
                  simp [Builtin.firstCells, loadCells, loadCellsFrom]
                · obtain ⟨ha, _⟩ := h5 (by omega)
                  subst ha
                  exact first_run (w := w) (w' := w.drew) rfl y2 y3
              obtain ⟨ys, y1, y2, y3⟩ := olds
              have onet : ∀ x ∈ (cells.drop i0).take (n * k) ++ new, one x = true := fun x hx => by
                rw [List.mem_append] at hx
                rcases hx with hx | hx
                · exact honec x (List.mem_of_mem_drop (List.mem_of_mem_take hx))
                · exact hone x hx
              have hlt1 : ((cells.drop i0).take (n * k) ++ new).length = (n + m) * k := by
                rw [List.length_append, y1.1, y2, hlen, hnm]
              -- the ways that make a new row under a new name
              have fresh : ∀ (H' : T Ob) (o' : Ob), c < n + m → s.next < hi → ∀ (heap2 : T Ob), StepR μ s.heap s.next w μ heap2 s.next w → Inv μ heap2 s.next hi w → ∀ minv',
                  ∃ V w' μ', A (some a) n c = .ok V w' ∧ VRel μ' (.slice (some ⟨s.next, 0, some ((n + m) * k)⟩) (n + m) (2 * k)) V ∧
                    StepR μ s.heap s.next w μ' (heap2.set s.next (.row ((cells.drop i0).take (n * k) ++ new) ((n + m) * k) minv')) (s.next + 1) w' := by
                intro _ _ hcn hlt heap2 st0 i2 minv'
                obtain ⟨cap, rest, g1, g2, g3⟩ := ar.grow (some a) n c ys hcn (by omega) (y3 c)
                have st := row_drew (s := { heap := heap2, next := s.next, low := 0 }) i2 hlt (y1.append rn) onet rest e minv' (0, 0) (by simp)
                rw [hlt1] at st
                refine ⟨_, _, _, g3, ?_, st0.trans st⟩
                refine .sl (muSet_same _ _ _ _) (by rw [q1]; exact hk0) (by rw [q1]; omega) (by omega) (fun _ => ⟨rfl, ?_⟩) (fun h => by omega)
                show 0 + 0 + cap * (2 * k / 2) ≤ (ys ++ News).length + rest.length
                have e3 : (n + m) * k + (cap - (n + m)) * k = cap * k := by rw [← Nat.add_mul]; congr 1; omega
                rw [q1, g2, List.length_append, y2, hNl]
                omega
              cases hodd : Nat.beq (mt % 2) 1 with
              | true =>
                simp only [hodd, cond_true, newRow] at h
                cases h
                have hcn := h6 (Nat.eq_of_beq_eq_true hodd)
                obtain ⟨V, w', μ', e1, e2, e3⟩ := fresh s.heap .dead (by omega) hle s.heap (.refl i.rel) i 0
                exact ⟨V, w', μ', e1, e2, e3, .alloc s _⟩
              | false =>
                simp only [hodd, cond_false] at h
                cases hi0 : Nat.beq i0 0 with
                | false => simp [hi0] at h
                | true =>
                  simp only [hi0, cond_true] at h
                  have hi00 := Nat.eq_of_beq_eq_true hi0
                  subst hi00
                  simp only [List.drop_zero] at y1 onet hlt1 fresh
                  -- where there is room
                  have room : n + m ≤ c → ∃ w' C', A (some a) n c = .ok (.slice (some a) (n + m) c) w' ∧ w' = setBlock w l.b (.cells ⟨C'⟩ eC f) ∧ C' = lput C.toList (l.s + n * k) News ∧
                      a = ⟨l.b, l.s + 0, none⟩ ∧ l.s + (n * k + m * k) ≤ l.z ∧ l.s + 0 + c * k ≤ l.z := by
                    intro hroom
                    obtain ⟨ha, hcz⟩ := h5 (by omega)
                    have hzz : l.s + (n * k + m * k) ≤ l.z := by
                      have : (n + m) * k ≤ c * k := Nat.mul_le_mul_right k hroom
                      omega
                    refine ⟨_, _, ?_, rfl, rfl, ha, hzz, hcz⟩
                    rw [ar.room a n c hroom, ha, Addr.add_lit]
                    have := run_storeCells' (P := P) l.b (l.s + n * k) eC f News 0 w C hC (one_of_rel rn hone) (by omega) (fun j h1 h2 => hf j (by omega))
                    rw [show l.s + 0 + n * k = l.s + n * k by omega, this]
                    rfl
                  have own : Owns μ s.heap g l.b := ⟨_, v0, l, hg, hmv, h1, rfl⟩
                  have hltb := heap_lt hC
                  -- what the written block holds
                  have held : ∀ C', C' = lput C.toList (l.s + n * k) News → l.s + (n * k + m * k) ≤ l.z → (⟨C'⟩ : Array Value).size = l.z ∧
                      ∀ j x, j < (n + m) * k → (cells.take (n * k) ++ new)[j]? = some x → ∃ y, (⟨C'⟩ : Array Value)[l.s + j]? = some y ∧ VRel μ x y := by
                    intro C' hC' hzz
                    subst hC'
                    have hCl : C.toList.length = l.z := by simpa using hz
                    refine ⟨by rw [List.size_toArray, length_lput _ _ _ (by omega)]; exact hCl, fun j x hj hx => ?_⟩
                    rw [List.getElem?_toArray, getElem?_lput _ _ _ (by omega)]
                    have htl : (cells.take (n * k)).length = n * k := by rw [y1.1, y2]
                    by_cases hjn : j < n * k
                    · rw [if_neg (by omega)]
                      rw [List.getElem?_append_left (by omega), List.getElem?_take_of_lt hjn] at hx
                      obtain ⟨y, hy, hv⟩ := hr j x (by omega) hx
                      exact ⟨y, by simpa using hy, hv⟩
                    · rw [if_pos (by omega), show l.s + j - (l.s + n * k) = j - n * k by omega]
                      rw [List.getElem?_append_right (by omega), htl] at hx
                      exact rn.get hx
                  cases hnl : Nat.beq (n * k) len with
                  | true =>
                    simp only [hnl, cond_true] at h
                    cases h
                    have hnl' := Nat.eq_of_beq_eq_true hnl
                    subst hnl'
                    have hv0 : v0 = n * k := by omega
                    subst hv0
                    have hcells : cells.take (n * k) = cells := by rw [hn]; exact List.take_length
                    rw [hcells] at y1 onet hlt1 held
                    have hnone : μ g ((n + m) * k) = none := by
                      cases hq : μ g ((n + m) * k) with
                      | none => rfl
                      | some l' =>
                        have := (hrow _ l' hq (by omega)).le
                        have : 0 < m * k := Nat.mul_pos (by omega) hk0
                        omega
                    have old_at : ∀ (loc : Loc) u lu, muSet μ g ((n + m) * k) loc g u = some lu → u ≠ (n + m) * k → μ g u = some lu := fun loc u lu h hu => by rwa [muSet_ne_v _ _ hu] at h
                    by_cases hroom : n + m ≤ c
                    · obtain ⟨w', C', a1, a2, a3, a4, a5, a6⟩ := room hroom
                      obtain ⟨b1, b2⟩ := held C' a3 a5
                      have hx := ext_muSet (μ := μ) (g := g) (v := (n + m) * k) ⟨l.b, l.s, l.z⟩ hnone
                      refine ⟨_, w', muSet μ g ((n + m) * k) ⟨l.b, l.s, l.z⟩, a1, ?_, ?_, .write s g _⟩
                      · refine .sl (muSet_same _ _ _ _) (by rw [q1]; exact hk0) (by rw [q1]; omega) hroom (fun _ => ⟨a4, ?_⟩) (fun h => by omega)
                        rw [q1]; exact a6
                      · rw [a2]
                        refine step_obj i hg hx (fun g' v' hne => muSet_ne _ _ hne) (setBlock_only _ _ _ fun Cx ex fx hx' => by rw [hC] at hx'; cases hx'; exact ⟨⟨C'⟩, rfl, by rw [b1, hz]⟩) (fun b hb hno => setBlock_ne _ _ (fun e => hno (e ▸ own))) (fun u lu hu => ?_) ?_ (fun u lu hgd hu => ?_)
                        · by_cases huv : u = (n + m) * k
                          · subst huv; rw [muSet_same] at hu; cases hu; rw [hnm]; exact ⟨a5, (i.rel.fit _ _ _ h1).2⟩
                          · exact i.rel.fit g u lu (old_at _ u lu hu huv)
                        · refine ⟨hlt1.symm, onet, fun u lu hu hmu => ?_, fun u lu u' lu' hu hmu hu' hmu' hbb => ?_⟩
                          · by_cases huv : u = (n + m) * k
                            · subst huv; rw [muSet_same] at hu; cases hu
                              refine ⟨by rw [hlt1]; exact Nat.le_refl _, ⟨C'⟩, eC, f, setBlock_get _ _ _ hltb, b1, hf, fun j x hj hxx => ?_⟩
                              obtain ⟨y, hy, hv⟩ := b2 j x hj hxx
                              exact ⟨y, hy, hv.ext hx⟩
                            · have hu2 := old_at _ u lu hu huv
                              have ra := hrow u lu hu2 hmu
                              obtain ⟨c1, Cu, eu, fu, d1, d2, d3, d4⟩ := ra
                              refine ⟨by rw [hlt1]; omega, ?_⟩
                              by_cases hbb : lu.b = l.b
                              · obtain ⟨s1, s2⟩ := hsame u lu _ l hu2 hmu h1 hmv hbb
                                rw [hbb] at d1
                                rw [hC] at d1
                                cases d1
                                refine ⟨⟨C'⟩, eC, f, by rw [hbb]; exact setBlock_get _ _ _ hltb, by rw [s2]; exact b1, by rw [s2]; exact hf, fun j x hj hxx => ?_⟩
                                rw [s1]
                                obtain ⟨y, hy, hv⟩ := b2 j x (by omega) hxx
                                exact ⟨y, hy, hv.ext hx⟩
                              · refine ⟨Cu, eu, fu, by rw [setBlock_ne _ _ hbb]; exact d1, d2, d3, fun j x hj hxx => ?_⟩
                                rw [List.getElem?_append_left (by omega)] at hxx
                                obtain ⟨y, hy, hv⟩ := d4 j x hj hxx
                                exact ⟨y, hy, hv.ext hx⟩
                          · by_cases huv : u = (n + m) * k <;> by_cases huv' : u' = (n + m) * k
                            · subst huv huv'; rw [muSet_same] at hu hu'; cases hu; cases hu'; exact ⟨rfl, rfl⟩
                            · subst huv; rw [muSet_same] at hu; cases hu
                              have := hsame _ l u' lu' h1 hmv (old_at _ u' lu' hu' huv') hmu' hbb
                              exact this
                            · subst huv'; rw [muSet_same] at hu'; cases hu'
                              exact hsame u lu _ l (old_at _ u lu hu huv) hmu h1 hmv hbb
                            · exact hsame u lu u' lu' (old_at _ u lu hu huv) hmu (old_at _ u' lu' hu' huv') hmu' hbb
                        · by_cases huv : u = (n + m) * k
                          · subst huv; rw [muSet_same] at hu; cases hu; exact .inl own
                          · exact .inl ⟨_, u, lu, hg, hgd, old_at _ u lu hu huv, rfl⟩
                    · obtain ⟨cap, rest, g1, g2, g3⟩ := ar.grow (some a) n c ys (by omega) (by omega) (y3 c)
                      have hsz : (⟨ys ++ News ++ rest⟩ : Array Value).size = cap * k := by
                        rw [List.size_toArray, List.length_append, List.length_append, y2, hNl, g2, ← Nat.add_mul, ← Nat.add_mul]
                        congr 1; omega
                      have hx := ext_muSet (μ := μ) (g := g) (v := (n + m) * k) ⟨w.heap.size, 0, cap * k⟩ hnone
                      have hcap : (n + m) * k ≤ cap * k := Nat.mul_le_mul_right k g1
                      have hdr : ∀ b, b < w.heap.size → (w.drew.alloc (.cells ⟨ys ++ News ++ rest⟩ e)).heap[b]? = w.heap[b]? := fun b hb => pushed_old w.drew _ hb
                      have hnewb : (w.drew.alloc (.cells ⟨ys ++ News ++ rest⟩ e)).heap[w.heap.size]? = some (.cells ⟨ys ++ News ++ rest⟩ e) := pushed_get w.drew _
                      have honly : OnlyHeap w (w.drew.alloc (.cells ⟨ys ++ News ++ rest⟩ e)) := by
                        have := pushed_only w.drew (.cells ⟨ys ++ News ++ rest⟩ e)
                        exact ⟨this.size, this.tape, this.os, this.output, this.kind⟩
                      refine ⟨_, _, muSet μ g ((n + m) * k) ⟨w.heap.size, 0, cap * k⟩, g3, ?_, ?_, .write s g _⟩
                      · refine .sl (muSet_same _ _ _ _) (by rw [q1]; exact hk0) (by rw [q1]; omega) g1 (fun _ => ⟨rfl, ?_⟩) (fun h => by omega)
                        show 0 + 0 + cap * (2 * k / 2) ≤ cap * k
                        rw [q1]; omega
                      · refine step_obj i hg hx (fun g' v' hne => muSet_ne _ _ hne) honly (fun b hb hno => hdr b hb) (fun u lu hu => ?_) ?_ (fun u lu hgd hu => ?_)
                        · by_cases huv : u = (n + m) * k
                          · subst huv; rw [muSet_same] at hu; cases hu; exact ⟨by show 0 + (n + m) * k ≤ cap * k; omega, fun _ => rfl⟩
                          · exact i.rel.fit g u lu (old_at _ u lu hu huv)
                        · refine ⟨hlt1.symm, onet, fun u lu hu hmu => ?_, fun u lu u' lu' hu hmu hu' hmu' hbb => ?_⟩
                          · by_cases huv : u = (n + m) * k
                            · subst huv; rw [muSet_same] at hu; cases hu
                              refine ⟨by rw [hlt1]; exact Nat.le_refl _, ⟨ys ++ News ++ rest⟩, e, (0, 0), hnewb, hsz, by simp, fun j x hj hxx => ?_⟩
                              obtain ⟨y, hy, hv⟩ := (y1.append rn).get hxx
                              refine ⟨y, ?_, hv.ext hx⟩
                              rw [List.getElem?_toArray, Nat.zero_add, List.getElem?_append_left]
                              · exact hy
                              · rw [List.length_append, y2, hNl, ← hnm]; exact hj
                            · have hu2 := old_at _ u lu hu huv
                              obtain ⟨c1, Cu, eu, fu, d1, d2, d3, d4⟩ := hrow u lu hu2 hmu
                              refine ⟨by rw [hlt1]; omega, Cu, eu, fu, by rw [hdr _ (heap_lt d1)]; exact d1, d2, d3, fun j x hj hxx => ?_⟩
                              rw [List.getElem?_append_left (by omega)] at hxx
                              obtain ⟨y, hy, hv⟩ := d4 j x hj hxx
                              exact ⟨y, hy, hv.ext hx⟩
                          · by_cases huv : u = (n + m) * k <;> by_cases huv' : u' = (n + m) * k
                            · subst huv huv'; rw [muSet_same] at hu hu'; cases hu; cases hu'; exact ⟨rfl, rfl⟩
                            · subst huv; rw [muSet_same] at hu; cases hu
                              obtain ⟨c1, Cu, eu, fu, d1, _⟩ := hrow u' lu' (old_at _ u' lu' hu' huv') hmu'
                              have := heap_lt d1
                              rw [← hbb] at this
                              exact absurd this (Nat.lt_irrefl _)
                            · subst huv'; rw [muSet_same] at hu'; cases hu'
                              obtain ⟨c1, Cu, eu, fu, d1, _⟩ := hrow u lu (old_at _ u lu hu huv) hmu
                              have := heap_lt d1
                              rw [hbb] at this
                              exact absurd this (Nat.lt_irrefl _)
                            · exact hsame u lu u' lu' (old_at _ u lu hu huv) hmu (old_at _ u' lu' hu' huv') hmu' hbb
                        · by_cases huv : u = (n + m) * k
                          · subst huv; rw [muSet_same] at hu; cases hu; exact .inr (Nat.le_refl _)
                          · exact .inl ⟨_, u, lu, hg, hgd, old_at _ u lu hu huv, rfl⟩
                  | false =>
                    simp only [hnl, cond_false] at h
                    cases hlow : Nat.blt g 1000 with
                    | true => simp [hlow] at h
                    | false =>
                    simp only [hlow, cond_false] at h
                    cases h
                    have hge : 1000 ≤ g := by
                      rcases Nat.lt_or_ge g 1000 with h' | h'
                      · have : Nat.blt g 1000 = true := Nat.ble_eq_true_of_le h'
                        rw [hlow] at this; cases this
                      · exact h'
                    have stl : StRel s { heap := (s.heap.set g .dead).set s.next (.row (cells.take (n * k) ++ new) ((n + m) * k) ((n + m) * k)), next := s.next + 1, low := Nat.min s.low g } :=
                      (StRel.write s g .dead).trans (.alloc _ _)
                    by_cases hroom : n + m ≤ c
                    · obtain ⟨w', C', a1, a2, a3, a4, a5, a6⟩ := room hroom
                      obtain ⟨b1, b2⟩ := held C' a3 a5
                      have hnone : μ s.next ((n + m) * k) = none := i.fresh _ _ (Nat.le_refl _) hle
                      have hx := ext_muSet (μ := μ) (g := s.next) (v := (n + m) * k) ⟨l.b, l.s, l.z⟩ hnone
                      have at_ : ∀ u lu, muSet μ s.next ((n + m) * k) ⟨l.b, l.s, l.z⟩ s.next u = some lu → u = (n + m) * k ∧ lu = ⟨l.b, l.s, l.z⟩ := fun u lu hu => by
                        by_cases huv : u = (n + m) * k
                        · subst huv; rw [muSet_same] at hu; cases hu; exact ⟨rfl, rfl⟩
                        · rw [muSet_ne_v _ _ huv, i.fresh _ _ (Nat.le_refl _) hle] at hu; cases hu
                      refine ⟨_, w', muSet μ s.next ((n + m) * k) ⟨l.b, l.s, l.z⟩, a1, ?_, ?_, stl⟩
                      · refine .sl (muSet_same _ _ _ _) (by rw [q1]; exact hk0) (by rw [q1]; omega) hroom (fun _ => ⟨a4, ?_⟩) (fun h => by omega)
                        rw [q1]; exact a6
                      · rw [a2]
                        refine step_take i hle hg (fun g' v' hne => muSet_ne _ _ hne) (setBlock_only _ _ _ fun Cx ex fx hx' => by rw [hC] at hx'; cases hx'; exact ⟨⟨C'⟩, rfl, by rw [b1, hz]⟩) (fun b hb hno => setBlock_ne _ _ (fun e => hno (e ▸ own))) (fun u lu hu => ?_) ?_ (fun u lu hgd hu => ?_)
                        · obtain ⟨rfl, rfl⟩ := at_ u lu hu; rw [hnm]; exact ⟨a5, fun _ => (i.rel.fit _ _ _ h1).2 hge⟩
                        · refine ⟨hlt1.symm, onet, fun u lu hu hmu => ?_, fun u lu u' lu' hu hmu hu' hmu' hbb => ?_⟩
                          · obtain ⟨rfl, rfl⟩ := at_ u lu hu
                            refine ⟨by rw [hlt1]; exact Nat.le_refl _, ⟨C'⟩, eC, f, setBlock_get _ _ _ hltb, b1, hf, fun j x hj hxx => ?_⟩
                            obtain ⟨y, hy, hv⟩ := b2 j x hj hxx
                            exact ⟨y, hy, hv.ext hx⟩
                          · obtain ⟨_, rfl⟩ := at_ u lu hu
                            obtain ⟨_, rfl⟩ := at_ u' lu' hu'
                            exact ⟨rfl, rfl⟩
                        · obtain ⟨_, rfl⟩ := at_ u lu hu
                          exact .inl own
                    · have st0 := step_kill i hg
                      obtain ⟨V, w', μ', e1, e2, e3⟩ := fresh s.heap .dead (by omega) hle _ st0 (i.step st0) ((n + m) * k)
                      exact ⟨V, w', μ', e1, e2, e3, stl⟩
  · cases h
end
end Go.Am
