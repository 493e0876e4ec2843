/-
  THE ABSTRACT MACHINE: slices.Sorted at what maps.Keys handed back; a copy of a text.
-/
import Derived.Test.YtdmijaofelgonaaGreatDoorAmM
import Derived.Shelf.SlIter.Sorted
import Derived.Shelf.SlIterI.Sorted
namespace Go.Am
open Go.Proofs Go.RowKit Go.Maps Go.Sort Go.Shelf Go.WideElems Go.WideShapes

-- sorting, in plain words
section
variable {α : Type} (le : α → α → Bool)
def insP (x : α) : List α → List α
  | [] => [x]
  | y :: l => if le x y then x :: y :: l else y :: insP x l
def sortP : List α → List α
  | [] => []
  | x :: l => insP le x (sortP l)
theorem insP_perm (x : α) : ∀ l : List α, (insP le x l).Perm (x :: l)
  | [] => .refl _
  | y :: l => by
    simp only [insP]
    split
    · exact .refl _
    · exact ((insP_perm x l).cons y).trans (.swap x y l)
theorem sortP_perm : ∀ l : List α, (sortP le l).Perm l
  | [] => .refl _
  | x :: l => (insP_perm le x _).trans ((sortP_perm l).cons x)
variable {le} (tr : ∀ a b c, le a b = true → le b c = true → le a c = true) (to : ∀ a b, (le a b || le b a) = true)
include tr to in
theorem insP_sorted (x : α) : ∀ l : List α, l.Pairwise (fun a b => le a b = true) → (insP le x l).Pairwise (fun a b => le a b = true)
  | [], _ => by simp [insP]
  | y :: l, h => by
    rw [List.pairwise_cons] at h
    simp only [insP]
    split
    · rename_i hxy
      exact List.pairwise_cons.2 ⟨fun z hz => by
        rcases List.mem_cons.1 hz with rfl | hz
        · exact hxy
        · exact tr _ _ _ hxy (h.1 z hz), List.pairwise_cons.2 h⟩
    · rename_i hxy
      have hyx : le y x = true := by
        have := to x y
        simp only [Bool.or_eq_true] at this
        exact this.resolve_left hxy
      refine List.pairwise_cons.2 ⟨fun z hz => ?_, insP_sorted x l h.2⟩
      rcases List.mem_cons.1 ((insP_perm le x l).mem_iff.1 hz) with rfl | hz
      · exact hyx
      · exact h.1 z hz
include tr to in
theorem sortP_sorted : ∀ l : List α, (sortP le l).Pairwise (fun a b => le a b = true)
  | [] => .nil
  | x :: l => insP_sorted tr to x _ (sortP_sorted l)
include tr to in
theorem sortP_merge (an : ∀ a b, le a b = true → le b a = true → a = b) {l l' : List α} (h : l'.Perm l) : l'.mergeSort le = sortP le l :=
  List.Perm.eq_of_pairwise (le := fun a b => le a b = true) (fun a b _ _ h1 h2 => an a b h1 h2) (List.pairwise_mergeSort tr to l') (sortP_sorted tr to l)
    (((List.mergeSort_perm l' le).trans h).trans (sortP_perm le l).symm)
theorem sortKeys_map (enc : α → Value) (he : ∀ x y, keyLe (enc x) (enc y) = le x y) : ∀ l : List α, sortKeys (l.map enc) = (sortP le l).map enc
  | [] => rfl
  | x :: l => by
    simp only [List.map_cons, sortKeys, sortP, sortKeys_map enc he l]
    have : ∀ m : List α, insertKey (enc x) (m.map enc) = (insP le x m).map enc := fun m => by
      induction m with
      | nil => rfl
      | cons y m ih =>
        simp only [List.map_cons, insertKey, insP, he, Bool.cond_eq_ite, ih]
        split <;> rfl
    exact this _
end

theorem strLess_lt : ∀ (a b : List UInt8), strLess a b = decide (a < b)
  | [], [] => by simp [strLess]
  | [], b :: y => by simp [strLess]
  | a :: x, [] => by simp [strLess]
  | a :: x, b :: y => by
    simp only [strLess, strLess_lt x y]
    rw [Bool.eq_iff_iff]
    simp only [Bool.or_eq_true, Bool.and_eq_true, decide_eq_true_eq, List.cons_lt_cons_iff]
    constructor
    · rintro (h | ⟨h, h'⟩)
      · left; exact UInt8.lt_iff_toNat_lt.2 (Nat.le_of_ble_eq_true h)
      · right; exact ⟨UInt8.toNat_inj.1 (Nat.eq_of_beq_eq_true h), h'⟩
    · rintro (h | ⟨h, h'⟩)
      · left; exact Nat.ble_eq_true_of_le (UInt8.lt_iff_toNat_lt.1 h)
      · right; subst h; exact ⟨Nat.beq_refl _, h'⟩
theorem keyLe_str (x y : List UInt8) : keyLe (encStr x) (encStr y) = decide (x ≤ y) := by
  simp only [encStr, keyLe, strLess_lt]
  rw [Bool.eq_iff_iff]
  simp [List.not_lt]
theorem keyLe_int (x y : Int) : keyLe (encZ x) (encZ y) = decide (x ≤ y) := rfl

theorem bornOk_spec {clock : Nat} : ∀ {es : List (Value × Value × Nat)} {lo : Nat}, bornOk clock lo es = true → (∀ e ∈ es, lo ≤ e.2.2 ∧ e.2.2 < clock) ∧ (es.map (·.2.2)).Nodup
  | [], _, _ => ⟨fun _ h => (by cases h), by simp⟩
  | e :: r, lo, h => by
    simp only [bornOk, Bool.and_eq_true] at h
    obtain ⟨⟨h1, h2⟩, h3⟩ := h
    have h1 := Nat.le_of_ble_eq_true h1
    have h2 : e.2.2 + 1 ≤ clock := Nat.le_of_ble_eq_true h2
    obtain ⟨i1, i2⟩ := bornOk_spec h3
    refine ⟨fun x hx => ?_, ?_⟩
    · rcases List.mem_cons.1 hx with rfl | hx
      · omega
      · have := i1 x hx; omega
    · simp only [List.map_cons, List.nodup_cons, List.mem_map, not_exists, not_and]
      exact ⟨fun x hx e' => by have := i1 x hx; omega, i2⟩
theorem keysFine_spec {ck : CK} : ∀ {es : List (Value × Value × Nat)}, keysFine ck es = true → (∀ e ∈ es, keyFine ck e.1 = true) ∧ es.Pairwise (fun x y => keyEq ck x.1 y.1 = some false)
  | [], _ => ⟨fun _ h => (by cases h), .nil⟩
  | e :: r, h => by
    simp only [keysFine, Bool.and_eq_true] at h
    obtain ⟨⟨h1, h2⟩, h3⟩ := h
    obtain ⟨i1, i2⟩ := keysFine_spec h3
    refine ⟨fun x hx => ?_, List.pairwise_cons.2 ⟨?_, i2⟩⟩
    · rcases List.mem_cons.1 hx with rfl | hx
      · exact h1
      · exact i1 x hx
    · have key : ∀ {l : List (Value × Value × Nat)}, otherKeys ck e.1 l = true → ∀ x ∈ l, keyEq ck e.1 x.1 = some false := fun {l} => by
        induction l with
        | nil => intro _ x hx; cases hx
        | cons y l ih =>
          intro h x hx
          simp only [otherKeys] at h
          split at h
          · rename_i hy
            rcases List.mem_cons.1 hx with rfl | hx
            · exact hy
            · exact ih h x hx
          · cases h
      exact key h2

theorem sortedKeys_spec {ck : CK} {fs : List Nat} {args : List Value} {s s' : St} {v : Value} (h : sortedKeys ck fs args s = .ok (v, s')) :
    ∃ f g u m es clock, args = [.func (.func f) #[] #[.pointer (some ⟨g, 0, some u⟩)]] ∧ f ∈ fs ∧ 1000 ≤ g ∧ readOne s g 0 u = .ok (.map (some m)) ∧ s.heap.get m = some (.map es clock) ∧
      bornOk clock 0 es = true ∧ keysFine ck es = true ∧ es.length ≤ 2 ^ 30 ∧
      ((es = [] ∧ v = .slice none 0 0 ∧ s' = s) ∨
       (sortKeys (es.map (·.1)) ≠ [] ∧ v = .slice (some ⟨s.next, 0, some (sortKeys (es.map (·.1))).length⟩) (sortKeys (es.map (·.1))).length 2 ∧
        s' = ⟨s.heap.set s.next (.row (sortKeys (es.map (·.1))) (sortKeys (es.map (·.1))).length 0), s.next + 1, s.low⟩)) := by
  unfold sortedKeys at h
  simp only [newRow, Bool.cond_eq_ite] at h
  split at h
  · rename_i f first cap
    split at h
    · cases h
    rename_i hf
    simp only [Bool.not_eq_true', Bool.not_eq_false, Bool.and_eq_true, List.contains_iff_mem] at hf
    split at h
    · rename_i g u hcap
      split at h
      · cases h
      rename_i hg
      split at h
      · rename_i m hr
        split at h
        · rename_i es clock hm
          split at h
          · rename_i hb
            simp only [Bool.and_eq_true] at hb
            have hfirst : first = #[] := by
              apply Array.ext'
              have := hf.2
              simpa using this
            have hcap' : cap = #[.pointer (some ⟨g, 0, some u⟩)] := by apply Array.ext'; simpa using hcap
            subst hfirst
            subst hcap'
            have hg' : 1000 ≤ g := by
              rcases Nat.lt_or_ge g 1000 with h' | h'
              · exact absurd (Nat.ble_eq_true_of_le h') hg
              · exact h'
            have hm' : s.heap.get m = some (.map es clock) := by
              unfold getMap at hm
              split at hm
              · rename_i e1; cases hm; exact e1
              · cases hm
            refine ⟨f, g, u, m, es, clock, rfl, hf.1, hg', hr, hm', hb.1.1, hb.1.2, Nat.le_of_ble_eq_true hb.2, ?_⟩
            split at h
            · rename_i hnil
              cases h
              left
              refine ⟨?_, rfl, rfl⟩
              cases es with
              | nil => rfl
              | cons e r =>
                exfalso
                simp only [List.map_cons, sortKeys] at hnil
                generalize sortKeys (r.map (·.1)) = q at hnil
                cases q with
                | nil => simp [insertKey] at hnil
                | cons y q => simp only [insertKey, Bool.cond_eq_ite] at hnil; split at hnil <;> cases hnil
            · rename_i hne
              cases h
              right
              exact ⟨hne, rfl, rfl⟩
          · cases h
        · cases h
      · cases h
      · cases h
    · cases h
  · cases h

section
variable {P : Program}

/-- What slices.Sorted does, as the kit says it, with my words. -/
theorem sorted_step {α : Type} {enc : α → Value} (he : ∀ x, one (enc x) = true) (hself : ∀ (μ : Mu) x, VRel μ (enc x) (enc x))
    {s : St} {μ : Mu} {w w' : World} {hi : Nat} {xs : List α} {e : TypeId} (hinv : Inv μ s.heap s.next hi w) (hle : s.next + 1 ≤ hi) (hne : xs ≠ []) {V : Value} {n : Nat} (hn : n = xs.length)
    (hrow : w'.ownsRow w.heap.size e 1 V n (xs.map enc)) (hb : Below w.heap.size w w') :
    ∃ μ', VRel μ' (.slice (some ⟨s.next, 0, some (xs.map enc).length⟩) (xs.map enc).length 2) V ∧
      StepR μ s.heap s.next w μ' (s.heap.set s.next (.row (xs.map enc) (xs.map enc).length 0)) (s.next + 1) w' := by
  obtain ⟨h1, h2⟩ := hrow
  have hlen : (xs.map enc).length = n := by simp [hn]
  have hpos : 0 < n := by
    rw [hn]
    cases xs with
    | nil => exact absurd rfl hne
    | cons x l => simp
  rcases h2 with ⟨_, h0⟩ | ⟨g, cap, cur, rfl, hg, hblk, hcap, hmax, hsz, htake⟩
  · omega
  have hnone : μ s.next (xs.map enc).length = none := hinv.fresh _ _ (Nat.le_refl _) (by omega)
  have at_ : ∀ u lu, muSet μ s.next (xs.map enc).length ⟨g, 0, cap⟩ s.next u = some lu → u = (xs.map enc).length ∧ lu = ⟨g, 0, cap⟩ := fun u lu hu => by
    by_cases e : u = (xs.map enc).length
    · subst e; rw [muSet_same] at hu; cases hu; exact ⟨rfl, rfl⟩
    · rw [muSet_ne_v _ _ e, hinv.fresh _ _ (Nat.le_refl _) (by omega)] at hu; cases hu
  refine ⟨muSet μ s.next (xs.map enc).length ⟨g, 0, cap⟩, ?_, ?_⟩
  · rw [hlen]
    refine .sl (l := ⟨g, 0, cap⟩) (by rw [← hlen]; exact muSet_same _ _ _ _) (by decide) (by simp) hcap (fun _ => ⟨rfl, by simp⟩) (fun h => by simp at h)
  · refine step_name hinv (by omega) (fun g' v hne => muSet_ne _ _ hne) ⟨hb.size, hb.tape, hb.os, hb.output, .of_same hb.block⟩ (fun b hlt => hb.block b hlt) (fun u lu hu => ?_) ?_ (fun u lu _ hu => ?_)
    · obtain ⟨rfl, rfl⟩ := at_ u lu hu
      exact ⟨by simp only [hlen]; omega, fun _ => rfl⟩
    · refine ⟨rfl, fun x hx => ?_, fun u lu hu _ => ?_, fun u lu u' lu' hu _ hu' _ _ => ?_⟩
      · obtain ⟨y, _, rfl⟩ := List.mem_map.1 hx; exact he y
      · obtain ⟨rfl, rfl⟩ := at_ u lu hu
        refine ⟨Nat.le_refl _, cur, e, (0, 0), hblk, by simpa using hsz, by simp, fun j x hj hx => ⟨x, ?_, ?_⟩⟩
        · have h3 : (cur.toList.take (n * 1))[j]? = some x := by rw [htake]; exact hx
          rw [List.getElem?_take] at h3
          split at h3
          · simpa using h3
          · cases h3
        · obtain ⟨y, _, rfl⟩ := List.mem_map.1 (List.mem_of_getElem? hx)
          exact hself _ y
      · obtain ⟨_, rfl⟩ := at_ u lu hu
        obtain ⟨_, rfl⟩ := at_ u' lu' hu'
        exact ⟨rfl, rfl⟩
    · obtain ⟨_, rfl⟩ := at_ u lu hu
      exact hg

/-- A world below whose old part nothing has turned. -/
theorem below_step {s : St} {μ : Mu} {w w' : World} {hi : Nat} (hinv : Inv μ s.heap s.next hi w) (hb : Below w.heap.size w w') : StepR μ s.heap s.next w μ s.heap s.next w' := by
  have keep : ∀ g o, s.heap.get g = some o → ORel μ g w' o := fun g o ho =>
    (hinv.rel.obj g o ho).keep (.refl μ) (fun _ => rfl) (fun v l hg hl => hb.block l.b (owns_lt hinv.rel ⟨o, v, l, ho, hg, hl, rfl⟩)) (fun cells v l he hl hv => by subst he; exact hb.block l.b (ro_lt hinv.rel ho hl hv))
  exact ⟨.refl μ, ⟨keep, hinv.rel.cst, hinv.rel.inj, hinv.rel.fit⟩, Nat.le_refl _, fun _ h => h, fun g h h' => by simp [h'] at h, fun _ _ _ _ => rfl, hb.size, hb.tape, hb.os, hb.output,
    fun g b h _ => ⟨g, h⟩, fun b hlt _ => hb.block b hlt, .of_same hb.block, fun _ _ h => ⟨h, fun _ => rfl⟩⟩

theorem keyEq_self {ck : CK} {k : Value} (h : keyEq ck k k = some false) : False := by
  cases ck <;> cases k <;> simp [keyEq] at h
  rename_i b
  have : (b == b) = true := by
    show (b.data == b.data) = true
    simp
  rw [this] at h
  cases h
theorem keyFine_str {t : TypeId} (hund : P.underlying t = some .string) {k : Value} (h : keyFine .str k = true) : ∃ z : List UInt8, k = encStr z ∧ Go.keyOf P t k = some (Lit.string z) := by
  cases k <;> simp only [keyFine, Bool.false_eq_true] at h
  rename_i b
  have := Nat.le_of_ble_eq_true h
  refine ⟨b.data.toList, by simp [encStr], ?_⟩
  have h3 : b.size ≤ maxLen := by unfold maxLen; omega
  simp [Go.keyOf, hund, mapKey, h3]
theorem keyFine_int {t : TypeId} (hund : P.underlying t = some (.int .i64)) {k : Value} (h : keyFine .int k = true) : ∃ z : Int, k = encZ z ∧ Go.keyOf P t k = some (Lit.int .i64 z) := by
  cases k <;> simp only [keyFine, Bool.false_eq_true] at h
  rename_i kd n
  cases kd <;> simp only [Bool.false_eq_true] at h
  simp only [Bool.and_eq_true, decide_eq_true_eq] at h
  refine ⟨n, rfl, ?_⟩
  have h3 : (Lit.int .i64 n).wf = true := by
    simp only [Lit.wf, Bool.and_eq_true, decide_eq_true_eq]
    exact h
  simp [Go.keyOf, hund, mapKey, h3]
theorem keyList_str {es : List (Value × Value × Nat)} (h : ∀ e ∈ es, keyFine .str e.1 = true) : ∃ ss0 : List (List UInt8), es.map (·.1) = ss0.map encStr := by
  induction es with
  | nil => exact ⟨[], rfl⟩
  | cons e r ih =>
    obtain ⟨l, hl⟩ := ih fun x hx => h x (List.mem_cons_of_mem _ hx)
    have := h e List.mem_cons_self
    obtain ⟨k, x⟩ := e
    cases k <;> simp only [keyFine, Bool.false_eq_true] at this
    rename_i b
    exact ⟨b.data.toList :: l, by simp [encStr, hl]⟩
theorem keyList_int {es : List (Value × Value × Nat)} (h : ∀ e ∈ es, keyFine .int e.1 = true) : ∃ ss0 : List Int, es.map (·.1) = ss0.map encZ := by
  induction es with
  | nil => exact ⟨[], rfl⟩
  | cons e r ih =>
    obtain ⟨l, hl⟩ := ih fun x hx => h x (List.mem_cons_of_mem _ hx)
    have := h e List.mem_cons_self
    obtain ⟨k, x⟩ := e
    cases k <;> simp only [keyFine, Bool.false_eq_true] at this
    rename_i kd n
    cases kd <;> simp only [Bool.false_eq_true] at this
    exact ⟨n :: l, by simp [encZ, hl]⟩
theorem tr_str (a b c : List UInt8) (h1 : decide (a ≤ b) = true) (h2 : decide (b ≤ c) = true) : decide (a ≤ c) = true := by simp only [decide_eq_true_eq] at *; exact List.le_trans h1 h2
theorem to_str (a b : List UInt8) : (decide (a ≤ b) || decide (b ≤ a)) = true := by simp only [Bool.or_eq_true, decide_eq_true_eq]; exact List.le_total a b
theorem an_str (a b : List UInt8) (h1 : decide (a ≤ b) = true) (h2 : decide (b ≤ a) = true) : a = b := by simp only [decide_eq_true_eq] at *; exact List.le_antisymm h1 h2
theorem tr_int (a b c : Int) (h1 : decide (a ≤ b) = true) (h2 : decide (b ≤ c) = true) : decide (a ≤ c) = true := by simp only [decide_eq_true_eq] at *; omega
theorem to_int (a b : Int) : (decide (a ≤ b) || decide (b ≤ a)) = true := by simp only [Bool.or_eq_true, decide_eq_true_eq]; omega
theorem an_int (a b : Int) (h1 : decide (a ≤ b) = true) (h2 : decide (b ≤ a) = true) : a = b := by simp only [decide_eq_true_eq] at *; omega

/-- slices.Sorted at keys of the kind str. -/
theorem keys_str_ok {ρ6 : Ren} (L6 : SlLaysZ.n6 P ρ6) (hsort : AnyZ.SortsIn P ρ6 Fence.wide 4) (e9 : ∀ args w, (callFunc (ρ6.f 9) args).run P w = .ok (.enter (ρ6.f 9) args) w)
    (e6 : ∀ args w, (callFunc (ρ6.f 6) args).run P w = .ok (.enter (ρ6.f 6) args) w) {fs : List Nat}
    (hfs : ∀ g ∈ fs, ∃ ρg : Ren, SlLaysZ.n10 P ρg ∧ ρg.f 10 = g ∧ P.underlying (ρg.t 26) = some .string ∧ ∀ args w, (callFunc g args).run P w = .ok (.enter g args) w) :
    FnOk P (ρ6.f 6) (sortedKeys .str fs) := by
  intro args argsc s s' v μ w hi hg ha hinv h hle
  obtain ⟨f0, g, u, m, es, clock, rfl, hf, hg1, hr, hm, hborn, hfine, hlen, hres⟩ := sortedKeys_spec h
  obtain ⟨ρg, Lg, rfl, hund, eg⟩ := hfs f0 hf
  obtain ⟨X, rfl⟩ : ∃ X, argsc = [X] := by
    match argsc, ha.1 with
    | [X], _ => exact ⟨X, rfl⟩
  refine ⟨e6 _ w, ?_⟩
  have hX := ha.2 0 _ _ rfl rfl
  cases hX with
  | func h1 h2 h3 h4 =>
  rename_i xs' ys'
  obtain rfl : xs' = [] := List.eq_nil_of_length_eq_zero h1.symm
  obtain ⟨Y, rfl⟩ : ∃ Y, ys' = [Y] := by
    match ys', h3 with
    | [Y], _ => exact ⟨Y, rfl⟩
  have hY := h4 0 _ _ rfl rfl
  cases hY with
  | ptr hl =>
  rename_i l
  have hs0 : l.s = 0 := (hinv.rel.fit _ _ _ hl).2 hg1
  obtain ⟨y, hcell, hv, _⟩ := readOne_rel hinv.rel hr hl
  cases hv with
  | map hlm =>
  rename_i lm
  obtain ⟨ES, hES, hsz, hent⟩ := hinv.rel.obj m _ hm lm hlm
  rw [hs0] at hcell ⊢
  simp only [Nat.add_zero] at hcell ⊢
  have hBm : l.b < w.heap.size := by
    rcases Nat.lt_or_ge l.b w.heap.size with h' | h'
    · exact h'
    · simp [World.cell?, Array.getElem?_eq_none h'] at hcell
  obtain ⟨hf1, hf2⟩ := keysFine_spec hfine
  obtain ⟨hb1, hb2⟩ := bornOk_spec hborn
  have hent' : ∀ (i : Nat) (E : MapEntry), ES.toList[i]? = some E → ∃ e, es[i]? = some e ∧ EntRel μ e E := fun i E hE => by
    have hi' : i < es.length := by
      rcases Nat.lt_or_ge i ES.size with h' | h'
      · omega
      · simp [Array.getElem?_eq_none h'] at hE
    exact ⟨es[i], List.getElem?_eq_getElem hi', hent i _ E (List.getElem?_eq_getElem hi') (by simpa using hE)⟩
  have hkeys : ES.toList.map (·.key) = es.map (·.1) := by
    apply List.ext_getElem?
    intro i
    rw [List.getElem?_map, List.getElem?_map]
    cases hE : ES.toList[i]? with
    | none =>
      have : es[i]? = none := by
        rw [List.getElem?_eq_none_iff] at hE ⊢
        simp at hE
        omega
      rw [this]; rfl
    | some E =>
      obtain ⟨e, he, hr'⟩ := hent' i E hE
      rw [he]
      simp [hr'.1]
  have hborns : ES.toList.map (·.born) = es.map (·.2.2) := by
    apply List.ext_getElem?
    intro i
    rw [List.getElem?_map, List.getElem?_map]
    cases hE : ES.toList[i]? with
    | none =>
      have : es[i]? = none := by
        rw [List.getElem?_eq_none_iff] at hE ⊢
        simp at hE
        omega
      rw [this]; rfl
    | some E =>
      obtain ⟨e, he, hr'⟩ := hent' i E hE
      rw [he]
      simp [hr'.2.2.2]
  obtain ⟨ss0, hss0⟩ : ∃ ss0 : List (List UInt8), es.map (·.1) = ss0.map encStr := keyList_str hf1
  have hkd : (es.map (·.1)).Nodup := by
    rw [List.Nodup, List.pairwise_map]
    refine hf2.imp fun {a b} hab hne => ?_
    rw [← hne] at hab
    exact keyEq_self hab
  let R : Value → Option (DataW Unit × List MemPlace) := fun _ => some (.nil, [])
  have hread : ∀ x ∈ ES.toList, ∃ z, x.key = encStr z ∧ rd (H := Unit) P (ρg.t 26) R x = some (Lit.string z, .nil) := fun x hx => by
    obtain ⟨i, hi'⟩ := List.mem_iff_getElem?.1 hx
    obtain ⟨e, he, hr'⟩ := hent' i x hi'
    have hfk := hf1 e (List.mem_of_getElem? he)
    obtain ⟨z, hz, hlit⟩ := keyFine_str hund hfk
    refine ⟨z, by rw [hr'.1, hz], ?_⟩
    simp only [rd, R, hr'.1, hlit, Option.bind_some, Option.map_some]
  have hFit : Fit P (ρg.t 26) R ES clock := by
    refine ⟨by rw [hsz]; unfold maxLen; omega, ⟨fun x hx => ?_, by rw [hborns]; exact hb2, by rw [hkeys]; exact hkd⟩, fun x hx => ?_⟩
    · obtain ⟨i, hi'⟩ := List.mem_iff_getElem?.1 hx
      obtain ⟨e, he, hr'⟩ := hent' i x hi'
      rw [hr'.2.2.2]
      exact (hb1 e (List.mem_of_getElem? he)).2
    · obtain ⟨z, _, h5⟩ := hread x hx
      exact ⟨_, h5⟩
  have hown : w.ownsMap P (ρg.t 26) R lm.b ES.size (.map ((ES.toList.map (rg P (ρg.t 26) R)).foldr DataW.insert [])) := ⟨ES, clock, hES, hFit, Nat.le_refl _, rfl⟩
  have hperm : (strKeys (.map ((ES.toList.map (rg P (ρg.t 26) R)).foldr DataW.insert []) : DataW Unit)).Perm ss0 := by
    refine ((sorted_perm (ES.toList.map (rg P (ρg.t 26) R))).map _).trans ?_
    have : (ES.toList.map (rg P (ρg.t 26) R)).map (fun p => strOf p.1) = ss0 := by
      have h6 : ((ES.toList.map (rg P (ρg.t 26) R)).map (fun p => strOf p.1)).map encStr = ss0.map encStr := by
        rw [← hss0, ← hkeys, List.map_map, List.map_map]
        refine List.map_congr_left fun x hx => ?_
        obtain ⟨z, h7, h8⟩ := hread x hx
        simp [rg, h8, h7, strOf]
      exact List.map_inj_right (fun a b => encStr_inj) |>.1 h6
    rw [this]
  have hsize : Maps.size (.map ((ES.toList.map (rg P (ρg.t 26) R)).foldr DataW.insert []) : DataW Unit) = es.length := by
    rw [size_eq, (sorted_perm _).length_eq, List.length_map]
    simpa using hsz
  have hseq := AnyZ.keys_gives Lg Fence.wide 2 trivial rfl (by omega) l.b lm.b ES.size _ w hBm hcell hown
  have hcall := callsIn_wide.1 (AnyZ.sorted_in L6 Fence.wide 5 trivial trivial trivial trivial rfl (by omega) hsort e9 (ρg.f 10) #[.pointer (some ⟨l.b, 0, none⟩)] trivial eg _ _ (by rw [hsize]; unfold maxLen; omega) (by rw [hsize]; omega) w hseq)
  refine Calls.mono hcall fun e w' he => ?_
  obtain ⟨V, ss, rfl, hp, hrow, hnil, hb⟩ := he
  have hp0 : ss.Perm ss0 := hp.trans hperm
  have hms : ss.mergeSort (fun x y => decide (x ≤ y)) = sortP (fun x y => decide (x ≤ y)) ss0 := sortP_merge tr_str to_str an_str hp0
  rw [hms] at hrow
  have hsk : sortKeys (es.map (·.1)) = (sortP (fun x y => decide (x ≤ y)) ss0).map encStr := by rw [hss0]; exact sortKeys_map _ keyLe_str ss0
  rcases hres with ⟨rfl, rfl, rfl⟩ | ⟨hne, rfl, rfl⟩
  · have h0 : ss0 = [] := by simpa using hss0.symm
    subst h0
    have h1 : ss = [] := hp0.eq_nil
    rw [hnil.2 h1]
    exact ⟨_, μ, rfl, .slNil, below_step hinv hb⟩
  · rw [hsk] at hne hle ⊢
    obtain ⟨μ', h5, h6⟩ := sorted_step (enc := encStr) (fun x => rfl) (fun μ x => .str _) hinv hle (fun e => hne (by rw [e]; rfl)) (n := ss.length)
      (by rw [(sortP_perm _ ss0).length_eq, hp0.length_eq]) hrow hb
    exact ⟨V, μ', rfl, h5, h6⟩

/-- slices.Sorted at keys of the kind int. -/
theorem keys_int_ok {ρ6 : Ren} (L6 : SlLaysZI.n6 P ρ6) (hsort : AnyZI.SortsIn P ρ6 Fence.wide 4) (e9 : ∀ args w, (callFunc (ρ6.f 9) args).run P w = .ok (.enter (ρ6.f 9) args) w)
    (e6 : ∀ args w, (callFunc (ρ6.f 6) args).run P w = .ok (.enter (ρ6.f 6) args) w) {fs : List Nat}
    (hfs : ∀ g ∈ fs, ∃ ρg : Ren, SlLaysZI.n10 P ρg ∧ ρg.f 10 = g ∧ P.underlying (ρg.t 26) = some (.int .i64) ∧ ∀ args w, (callFunc g args).run P w = .ok (.enter g args) w) :
    FnOk P (ρ6.f 6) (sortedKeys .int fs) := by
  intro args argsc s s' v μ w hi hg ha hinv h hle
  obtain ⟨f0, g, u, m, es, clock, rfl, hf, hg1, hr, hm, hborn, hfine, hlen, hres⟩ := sortedKeys_spec h
  obtain ⟨ρg, Lg, rfl, hund, eg⟩ := hfs f0 hf
  obtain ⟨X, rfl⟩ : ∃ X, argsc = [X] := by
    match argsc, ha.1 with
    | [X], _ => exact ⟨X, rfl⟩
  refine ⟨e6 _ w, ?_⟩
  have hX := ha.2 0 _ _ rfl rfl
  cases hX with
  | func h1 h2 h3 h4 =>
  rename_i xs' ys'
  obtain rfl : xs' = [] := List.eq_nil_of_length_eq_zero h1.symm
  obtain ⟨Y, rfl⟩ : ∃ Y, ys' = [Y] := by
    match ys', h3 with
    | [Y], _ => exact ⟨Y, rfl⟩
  have hY := h4 0 _ _ rfl rfl
  cases hY with
  | ptr hl =>
  rename_i l
  have hs0 : l.s = 0 := (hinv.rel.fit _ _ _ hl).2 hg1
  obtain ⟨y, hcell, hv, _⟩ := readOne_rel hinv.rel hr hl
  cases hv with
  | map hlm =>
  rename_i lm
  obtain ⟨ES, hES, hsz, hent⟩ := hinv.rel.obj m _ hm lm hlm
  rw [hs0] at hcell ⊢
  simp only [Nat.add_zero] at hcell ⊢
  have hBm : l.b < w.heap.size := by
    rcases Nat.lt_or_ge l.b w.heap.size with h' | h'
    · exact h'
    · simp [World.cell?, Array.getElem?_eq_none h'] at hcell
  obtain ⟨hf1, hf2⟩ := keysFine_spec hfine
  obtain ⟨hb1, hb2⟩ := bornOk_spec hborn
  have hent' : ∀ (i : Nat) (E : MapEntry), ES.toList[i]? = some E → ∃ e, es[i]? = some e ∧ EntRel μ e E := fun i E hE => by
    have hi' : i < es.length := by
      rcases Nat.lt_or_ge i ES.size with h' | h'
      · omega
      · simp [Array.getElem?_eq_none h'] at hE
    exact ⟨es[i], List.getElem?_eq_getElem hi', hent i _ E (List.getElem?_eq_getElem hi') (by simpa using hE)⟩
  have hkeys : ES.toList.map (·.key) = es.map (·.1) := by
    apply List.ext_getElem?
    intro i
    rw [List.getElem?_map, List.getElem?_map]
    cases hE : ES.toList[i]? with
    | none =>
      have : es[i]? = none := by
        rw [List.getElem?_eq_none_iff] at hE ⊢
        simp at hE
        omega
      rw [this]; rfl
    | some E =>
      obtain ⟨e, he, hr'⟩ := hent' i E hE
      rw [he]
      simp [hr'.1]
  have hborns : ES.toList.map (·.born) = es.map (·.2.2) := by
    apply List.ext_getElem?
    intro i
    rw [List.getElem?_map, List.getElem?_map]
    cases hE : ES.toList[i]? with
    | none =>
      have : es[i]? = none := by
        rw [List.getElem?_eq_none_iff] at hE ⊢
        simp at hE
        omega
      rw [this]; rfl
    | some E =>
      obtain ⟨e, he, hr'⟩ := hent' i E hE
      rw [he]
      simp [hr'.2.2.2]
  obtain ⟨ss0, hss0⟩ : ∃ ss0 : List (Int), es.map (·.1) = ss0.map encZ := keyList_int hf1
  have hkd : (es.map (·.1)).Nodup := by
    rw [List.Nodup, List.pairwise_map]
    refine hf2.imp fun {a b} hab hne => ?_
    rw [← hne] at hab
    exact keyEq_self hab
  let R : Value → Option (DataW Unit × List MemPlace) := fun _ => some (.nil, [])
  have hread : ∀ x ∈ ES.toList, ∃ z, x.key = encZ z ∧ rd (H := Unit) P (ρg.t 26) R x = some (Lit.int .i64 z, .nil) := fun x hx => by
    obtain ⟨i, hi'⟩ := List.mem_iff_getElem?.1 hx
    obtain ⟨e, he, hr'⟩ := hent' i x hi'
    have hfk := hf1 e (List.mem_of_getElem? he)
    obtain ⟨z, hz, hlit⟩ := keyFine_int hund hfk
    refine ⟨z, by rw [hr'.1, hz], ?_⟩
    simp only [rd, R, hr'.1, hlit, Option.bind_some, Option.map_some]
  have hFit : Fit P (ρg.t 26) R ES clock := by
    refine ⟨by rw [hsz]; unfold maxLen; omega, ⟨fun x hx => ?_, by rw [hborns]; exact hb2, by rw [hkeys]; exact hkd⟩, fun x hx => ?_⟩
    · obtain ⟨i, hi'⟩ := List.mem_iff_getElem?.1 hx
      obtain ⟨e, he, hr'⟩ := hent' i x hi'
      rw [hr'.2.2.2]
      exact (hb1 e (List.mem_of_getElem? he)).2
    · obtain ⟨z, _, h5⟩ := hread x hx
      exact ⟨_, h5⟩
  have hown : w.ownsMap P (ρg.t 26) R lm.b ES.size (.map ((ES.toList.map (rg P (ρg.t 26) R)).foldr DataW.insert [])) := ⟨ES, clock, hES, hFit, Nat.le_refl _, rfl⟩
  have hperm : (intKeys (.map ((ES.toList.map (rg P (ρg.t 26) R)).foldr DataW.insert []) : DataW Unit)).Perm ss0 := by
    refine ((sorted_perm (ES.toList.map (rg P (ρg.t 26) R))).map _).trans ?_
    have : (ES.toList.map (rg P (ρg.t 26) R)).map (fun p => Go.intOf p.1) = ss0 := by
      have h6 : ((ES.toList.map (rg P (ρg.t 26) R)).map (fun p => Go.intOf p.1)).map encZ = ss0.map encZ := by
        rw [← hss0, ← hkeys, List.map_map, List.map_map]
        refine List.map_congr_left fun x hx => ?_
        obtain ⟨z, h7, h8⟩ := hread x hx
        simp [rg, h8, h7, Go.intOf]
      exact List.map_inj_right (fun a b => encZ_inj) |>.1 h6
    rw [this]
  have hsize : Maps.size (.map ((ES.toList.map (rg P (ρg.t 26) R)).foldr DataW.insert []) : DataW Unit) = es.length := by
    rw [size_eq, (sorted_perm _).length_eq, List.length_map]
    simpa using hsz
  have hseq := AnyZI.keys_gives Lg Fence.wide 2 trivial rfl (by omega) l.b lm.b ES.size _ w hBm hcell hown
  have hcall := callsIn_wide.1 (AnyZI.sorted_in L6 Fence.wide 5 trivial trivial trivial trivial rfl (by omega) hsort e9 (ρg.f 10) #[.pointer (some ⟨l.b, 0, none⟩)] trivial eg _ _ (by rw [hsize]; unfold maxLen; omega) (by rw [hsize]; omega) w hseq)
  refine Calls.mono hcall fun e w' he => ?_
  obtain ⟨V, ss, rfl, hp, hrow, hnil, hb⟩ := he
  have hp0 : ss.Perm ss0 := hp.trans hperm
  have hms : ss.mergeSort (fun x y => decide (x ≤ y)) = sortP (fun x y => decide (x ≤ y)) ss0 := sortP_merge tr_int to_int an_int hp0
  rw [hms] at hrow
  have hsk : sortKeys (es.map (·.1)) = (sortP (fun x y => decide (x ≤ y)) ss0).map encZ := by rw [hss0]; exact sortKeys_map _ keyLe_int ss0
  rcases hres with ⟨rfl, rfl, rfl⟩ | ⟨hne, rfl, rfl⟩
  · have h0 : ss0 = [] := by simpa using hss0.symm
    subst h0
    have h1 : ss = [] := hp0.eq_nil
    rw [hnil.2 h1]
    exact ⟨_, μ, rfl, .slNil, below_step hinv hb⟩
  · rw [hsk] at hne hle ⊢
    obtain ⟨μ', h5, h6⟩ := sorted_step (enc := encZ) (fun x => rfl) (fun μ x => .int _ _) hinv hle (fun e => hne (by rw [e]; rfl)) (n := ss.length)
      (by rw [(sortP_perm _ ss0).length_eq, hp0.length_eq]) hrow hb
    exact ⟨V, μ', rfl, h5, h6⟩

/-- A copy of a text. -/
theorem clone_ok {f : Nat} (e : ∀ args w, (callFunc f args).run P w = .ok (.enter f args) w)
    (hc : ∀ (b : ByteArray) (w : World), b.size ≤ 2 ^ 40 → Calls P f #[.string b] w fun e w' => e = .returned (.string b) ∧ Below w.heap.size w w') : FnOk P f cloneStr := by
  intro args argsc s s' v μ w hi hg ha hinv h hle
  refine ⟨e _ w, ?_⟩
  unfold cloneStr at h
  split at h
  · rename_i b
    rw [Bool.cond_eq_ite] at h
    split at h
    · rename_i hb
      cases h
      obtain ⟨X, rfl⟩ : ∃ X, argsc = [X] := by
        match argsc, ha.1 with
        | [X], _ => exact ⟨X, rfl⟩
      have hX := ha.2 0 _ _ rfl rfl
      cases hX
      refine Calls.mono (hc b w (Nat.le_of_ble_eq_true hb)) fun e w' he => ?_
      exact ⟨_, μ, he.1, .str b, below_step hinv he.2⟩
    · cases h
  · cases h
end
end Go.Am
