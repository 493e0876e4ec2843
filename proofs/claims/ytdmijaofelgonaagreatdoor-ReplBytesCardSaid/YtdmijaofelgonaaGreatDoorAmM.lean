/-
  THE ABSTRACT MACHINE: a region whose order is open, in the model.
-/
import Derived.Test.YtdmijaofelgonaaGreatDoorAmL
import Derived.Orders
import Derived.LoopN
import Derived.Laws.Sem
namespace Go.Am

section
variable {P : Program}

theorem compOps_spec {ops : Array Oper} {draw : Bool} {n : Nat} : ∀ {l : List Oper} {ancs : List Nat} {al : List AOper}, compOps P ops draw n l ancs = some al →
    All2 (CompRel P ops n) l al ∧ ∀ (i : Nat) (a : AOper), al[i]? = some a → a.anc = if draw then ancs.getD i 0 else 0
  | [], ancs, al, h => by
    simp only [compOps, Option.some.injEq] at h
    subst h
    exact ⟨.nil, fun i a h => by simp at h⟩
  | o :: l, ancs, al, h => by
    simp only [compOps, bind, Option.bind_eq_some_iff, pure] at h
    obtain ⟨g, hg, h⟩ := h
    by_cases hd : okDst o.dst n = true
    · rw [if_pos hd] at h
      simp only [Option.bind_eq_some_iff, Option.some.injEq] at h
      obtain ⟨al', h1, rfl⟩ := h
      obtain ⟨i1, i2⟩ := compOps_spec h1
      refine ⟨.cons ⟨rfl, rfl, hg, fun d e => ?_⟩ i1, fun i a ha => ?_⟩
      · rw [e] at hd; simpa [okDst] using hd
      · cases i with
        | zero => simp at ha; subst ha; cases ancs <;> rfl
        | succ i =>
          simp at ha
          rw [i2 i a ha]
          cases ancs <;> simp
    · rw [if_neg hd] at h; cases h

theorem edgesOk_spec : ∀ {l : List Oper} {k : Nat}, edgesOk k l = true → ∀ (i : Nat) (o : Oper), l[i]? = some o → ∀ e ∈ o.after, Region.binds .any e = true → e.on < k + i
  | [], _, _, i, o, h => by simp at h
  | o' :: l, k, h, 0, o, ho => by
    simp at ho
    subst ho
    simp only [edgesOk, Bool.and_eq_true, List.all_eq_true, Array.mem_toList_iff, Bool.or_eq_true, Bool.not_eq_true'] at h
    intro e he hb
    rcases h.1 e he with h1 | h1
    · rw [hb] at h1; cases h1
    · exact Nat.le_of_ble_eq_true h1
  | o' :: l, k, h, i + 1, o, ho => by
    simp at ho
    simp only [edgesOk, Bool.and_eq_true] at h
    intro e he hb
    have := edgesOk_spec h.2 i o ho e he hb
    omega

-- what stands ahead
def aheadStep (acc : Array Nat) (o : Oper) : Array Nat :=
  acc.push (o.after.foldl (fun s e => if Region.binds .any e then s ||| 2 ^ e.on ||| acc.getD e.on 0 else s) 0)
theorem before_eq (ops : Array Oper) : Region.before ops = ops.toList.foldl aheadStep #[] := by
  unfold Region.before
  rw [← Array.foldl_toList]
  rfl
theorem ahead_bits (acc : Array Nat) (j : Nat) : ∀ (l : List Edge) (s : Nat), (l.foldl (fun s e => if Region.binds .any e then s ||| 2 ^ e.on ||| acc.getD e.on 0 else s) s).testBit j = true →
    s.testBit j = true ∨ ∃ e ∈ l, Region.binds .any e = true ∧ (e.on = j ∨ (acc.getD e.on 0).testBit j = true)
  | [], s, h => .inl h
  | e :: l, s, h => by
    simp only [List.foldl_cons] at h
    rcases ahead_bits acc j l _ h with h1 | ⟨e', h2, h3⟩
    · by_cases hb : Region.binds .any e = true
      · rw [if_pos hb] at h1
        simp only [Nat.testBit_or, Bool.or_eq_true] at h1
        rcases h1 with (h1 | h1) | h1
        · exact .inl h1
        · rw [Nat.testBit_two_pow] at h1
          exact .inr ⟨e, List.mem_cons_self, hb, .inl (by simpa using h1)⟩
        · exact .inr ⟨e, List.mem_cons_self, hb, .inr h1⟩
      · rw [if_neg hb] at h1
        exact .inl h1
    · exact .inr ⟨e', List.mem_cons_of_mem _ h2, h3⟩
theorem ahead_fold : ∀ (l : List Oper) (acc : Array Nat), (∀ k, k < acc.size → (l.foldl aheadStep acc)[k]? = acc[k]?) ∧
    ∀ (i : Nat) (o : Oper), l[i]? = some o → ∀ j, ((l.foldl aheadStep acc).getD (acc.size + i) 0).testBit j = true →
      ∃ e ∈ o.after, Region.binds .any e = true ∧ (e.on = j ∨ ((l.foldl aheadStep acc).getD e.on 0).testBit j = true)
  | [], acc => ⟨fun _ _ => rfl, fun i o h => by simp at h⟩
  | o' :: l, acc => by
    obtain ⟨i1, i2⟩ := ahead_fold l (aheadStep acc o')
    have hsz : (aheadStep acc o').size = acc.size + 1 := by simp [aheadStep]
    simp only [List.foldl_cons]
    refine ⟨fun k hk => ?_, fun i o ho j hj => ?_⟩
    · rw [i1 k (by omega)]
      simp only [aheadStep, Array.getElem?_push]
      rw [if_neg (by omega)]
    · cases i with
      | zero =>
        simp at ho
        subst ho
        rw [Nat.add_zero, Array.getD_eq_getD_getElem?, i1 acc.size (by omega)] at hj
        simp only [aheadStep, Array.getElem?_push, if_true, Option.getD_some] at hj
        rw [← Array.foldl_toList] at hj
        rcases ahead_bits acc j _ _ hj with h1 | ⟨e, h2, h3, h4⟩
        · simp at h1
        · refine ⟨e, by simpa using h2, h3, h4.imp id fun h5 => ?_⟩
          have hlt : e.on < acc.size := by
            rcases Nat.lt_or_ge e.on acc.size with h | h
            · exact h
            · simp [Array.getElem?_eq_none h] at h5
          rw [Array.getD_eq_getD_getElem?] at h5 ⊢
          rw [i1 e.on (by omega)]
          simp only [aheadStep, Array.getElem?_push]
          rw [if_neg (by omega)]
          exact h5
      | succ i =>
        simp at ho
        have := i2 i o ho j (by rw [hsz]; rw [show acc.size + 1 + i = acc.size + (i + 1) by omega]; exact hj)
        exact this
theorem before_spec {ops : Array Oper} {i : Nat} {o : Oper} (ho : ops[i]? = some o) {j : Nat} (hj : ((Region.before ops).getD i 0).testBit j = true) :
    ∃ e ∈ o.after, Region.binds .any e = true ∧ (e.on = j ∨ ((Region.before ops).getD e.on 0).testBit j = true) := by
  rw [before_eq] at hj ⊢
  exact (ahead_fold ops.toList #[]).2 i o (by simpa using ho) j (by simpa using hj)

-- what has not come yet
def rem (n : Nat) (listed : Array Bool) : List Nat := (List.range n).filter fun i => !listed.getD i true
theorem mem_rem {n : Nat} {listed : Array Bool} {i : Nat} : i ∈ rem n listed ↔ i < n ∧ listed.getD i true = false := by
  simp [rem, List.mem_filter]
theorem rem_lt (n : Nat) (listed : Array Bool) : (rem n listed).Pairwise (· < ·) := List.pairwise_lt_range.filter _
theorem rem_split {n : Nat} {listed : Array Bool} {i : Nat} (hsz : listed.size = n) (h : i ∈ rem n listed) :
    ∃ js rest, rem n listed = js ++ i :: rest ∧ rem n (listed.setIfInBounds i true) = js ++ rest ∧ ∀ j ∈ js, j < i := by
  obtain ⟨js, rest, e⟩ := List.append_of_mem h
  have hp := rem_lt n listed
  rw [e, List.pairwise_append] at hp
  obtain ⟨_, p2, p3⟩ := hp
  rw [List.pairwise_cons] at p2
  refine ⟨js, rest, e, ?_, fun j hj => p3 j hj i List.mem_cons_self⟩
  have hi := (mem_rem.1 h).1
  have : rem n (listed.setIfInBounds i true) = (rem n listed).filter (fun k => decide (k ≠ i)) := by
    unfold rem
    rw [List.filter_filter]
    refine List.filter_congr fun k hk => ?_
    by_cases ek : i = k
    · subst ek
      simp [hsz, hi]
    · rw [getD_set_ne true ek]
      simp [Ne.symm ek]
  rw [this, e, List.filter_append, List.filter_cons, if_neg (by simp)]
  rw [List.filter_eq_self.2 (fun j hj => by have := p3 j hj i List.mem_cons_self; simp; omega), List.filter_eq_self.2 (fun j hj => by have := p2.1 j hj; simp; omega)]

theorem pairs_get : ∀ {L : List (AOper × DD)} {k : Nat}, Pairs k L → ∀ {i j : Nat} {p q : AOper × DD}, i < j → L[i]? = some p → L[j]? = some q → bit q.1.anc (k + i) = false → DD.Apart p.2 q.2
  | [], _, _, i, j, p, q, _, h, _, _ => by simp at h
  | (o, d) :: r, k, hP, 0, j + 1, p, q, _, h1, h2, hb => by
    simp at h1 h2
    subst h1
    exact hP.1 q (List.mem_of_getElem? h2) (by simpa using hb)
  | _ :: _, _, _, _, 0, _, _, hij, _, _, _ => absurd hij (Nat.not_lt_zero _)
  | (o, d) :: r, k, hP, i + 1, j + 1, p, q, hij, h1, h2, hb => by
    simp at h1 h2
    exact pairs_get hP.2 (by omega) h1 h2 (by rw [show k + 1 + i = k + (i + 1) by omega]; exact hb)
theorem laterOk_get {k : Nat} {o : AOper} : ∀ {l : List AOper}, laterOk k o l = true → ∀ q ∈ l, bit q.anc k = false → pairOk o q = true
  | [], _, q, hq, _ => by cases hq
  | b :: r, h, q, hq, hb => by
    simp only [laterOk, Bool.and_eq_true, Bool.or_eq_true] at h
    rcases List.mem_cons.1 hq with rfl | hq
    · rcases h.1 with h1 | h1
      · rw [hb] at h1; cases h1
      · exact h1
    · exact laterOk_get h.2 q hq hb
theorem drawOk_get : ∀ {l : List AOper} {k : Nat}, drawOk k l = true → ∀ {i j : Nat} {p q : AOper}, i < j → l[i]? = some p → l[j]? = some q → bit q.anc (k + i) = false → pairOk p q = true
  | [], _, _, i, j, p, q, _, h, _, _ => by simp at h
  | o :: r, k, hP, 0, j + 1, p, q, _, h1, h2, hb => by
    simp at h1 h2
    subst h1
    simp only [drawOk, Bool.and_eq_true] at hP
    exact laterOk_get hP.1 q (List.mem_of_getElem? h2) (by simpa using hb)
  | _ :: _, _, _, _, 0, _, _, hij, _, _, _ => absurd hij (Nat.not_lt_zero _)
  | o :: r, k, hP, i + 1, j + 1, p, q, hij, h1, h2, hb => by
    simp at h1 h2
    simp only [drawOk, Bool.and_eq_true] at hP
    exact drawOk_get hP.2 (by omega) h1 h2 (by rw [show k + 1 + i = k + (i + 1) by omega]; exact hb)
theorem dis_get {L : List (AOper × DD)} (h : L.Pairwise fun p q => ∀ g, p.2.mine g → ¬ q.2.mine g) {i j : Nat} {p q : AOper × DD} (hij : i ≠ j) (h1 : L[i]? = some p) (h2 : L[j]? = some q) (g : Nat) (hg : p.2.mine g) : ¬ q.2.mine g := by
  have key : ∀ {i j : Nat} {p q : AOper × DD}, i < j → L[i]? = some p → L[j]? = some q → ∀ g, p.2.mine g → ¬ q.2.mine g := fun {i j p q} hlt a b => by
    obtain ⟨hi, rfl⟩ := List.getElem?_eq_some_iff.1 a
    obtain ⟨hj, rfl⟩ := List.getElem?_eq_some_iff.1 b
    exact List.pairwise_iff_getElem.1 h i j hi hj hlt
  rcases Nat.lt_or_gt_of_ne hij with h' | h'
  · exact key h' h1 h2 g hg
  · exact fun hq => key h' h2 h1 g hq hg

/-- Whichever order comes up. -/
theorem any_ok {ms : Meths} {call : CallK} (hms : ∀ x ∈ ms, x ∈ methsOf P) (hcall : CallOk P call) {ops : Array Oper} {nt : Nat} {al : List AOper}
    (hall : All2 (CompRel P ops nt) ops.toList al) (hanc : ∀ (i : Nat) (a : AOper), al[i]? = some a → a.anc = (Region.before ops).getD i 0) (hedges : edgesOk 0 ops.toList = true)
    (hdraw : drawOk 0 al = true) {L : List (AOper × DD)} (hops : L.map (·.1) = al) (hfact : ∀ p ∈ L, p.2.fact) (hpairs : Pairs 0 L)
    (hdis : L.Pairwise fun p q => ∀ g, p.2.mine g → ¬ q.2.mine g) {N : Nat → Prop} (hN : ∀ p ∈ L, ∀ g, p.2.mine g → N g) {tmF : T Value} {HF : T Ob} {Q : Exit → Act → World → Prop} :
    ∀ (fuel : Nat) (listed : Array Bool) (tm : T Value) (H : T Ob) (μ : Mu) (w : World) (act : Act), listed.size = ops.size → (rem ops.size listed).length = fuel →
      (∀ k, listed.getD k false = true → ∀ j, ((Region.before ops).getD k 0).testBit j = true → listed.getD j false = true) →
      RunD ms call ((rem ops.size listed).filterMap (L[·]?)) tm H tmF HF → nt ≤ act.tmps.size → Gl P μ → TRel μ tm act.tmps → Rel μ H w →
      (∀ i ∈ rem ops.size listed, ∀ p, L[i]? = some p → ∀ g, p.2.mine g → H.get g = none ∧ ∀ v, μ g v = none) →
      (∀ act' w' μ', TRel μ' tmF act'.tmps → act'.defers = act.defers → act'.tmps.size = act.tmps.size → StepN N μ H w μ' HF w' → Q .normal act' w') →
      wpAny P .any ops Q fuel listed act w := by
  have hlenL : L.length = ops.size := by
    have := hall.length
    rw [← hops] at this
    simpa using this.symm
  have hL : ∀ i, i < ops.size → ∃ o a d, ops[i]? = some o ∧ L[i]? = some (a, d) ∧ al[i]? = some a ∧ CompRel P ops nt o a := fun i hi => by
    have ho : ops.toList[i]? = some ops[i] := by simp [hi]
    obtain ⟨a, h1, h2⟩ := hall.get i _ ho
    have hLi : i < L.length := by omega
    have h3 : L[i]? = some L[i] := List.getElem?_eq_getElem hLi
    rw [← hops, List.getElem?_map, h3] at h1
    simp at h1
    rcases hp : L[i] with ⟨a', d'⟩
    refine ⟨ops[i], a', d', by simp [hi], by rw [h3, hp], ?_, ?_⟩
    · rw [← hops, List.getElem?_map, h3, hp]; rfl
    · rw [hp] at h1; simp at h1; rw [h1]; exact h2
  have hready : ∀ listed j, j ∈ Region.ready .any ops listed → j ∈ rem ops.size listed := fun listed j hj => by
    obtain ⟨h1, o, h2, _⟩ := mem_ready.1 hj
    exact mem_rem.2 ⟨(Array.getElem?_eq_some_iff.1 h2).1, h1⟩
  intro fuel
  induction fuel with
  | zero =>
    intro listed tm H μ w act hsz hlen hcl hrun hnt hg ht hr hfr hQ
    have he : rem ops.size listed = [] := List.eq_nil_of_length_eq_zero hlen
    refine ⟨?_, ?_⟩
    · cases hrd : Region.ready .any ops listed with
      | nil => rfl
      | cons j r => have := hready listed j (by rw [hrd]; exact List.mem_cons_self); rw [he] at this; cases this
    · rw [he] at hrun
      obtain ⟨r1, r2⟩ := hrun
      exact hQ act w μ (fun t => by rw [r1]; exact ht t) rfl rfl ((StepN.refl hr).congr r2)
  | succ fuel ih =>
    intro listed tm H μ w act hsz hlen hcl hrun hnt hg ht hr hfr hQ
    have hlisted : ∀ j, listed.getD j true = true → j < ops.size → listed.getD j false = true := fun j h1 h2 => by
      have h3 : j < listed.size := by omega
      simp [h3] at h1 ⊢
      exact h1
    refine ⟨fun hnil => ?_, fun i hi => ?_⟩
    · -- the first one that has not come may come
      exfalso
      cases hrem : rem ops.size listed with
      | nil => rw [hrem] at hlen; cases hlen
      | cons i0 r0 =>
        have hi0 : i0 ∈ rem ops.size listed := by rw [hrem]; exact List.mem_cons_self
        obtain ⟨h1, h2⟩ := mem_rem.1 hi0
        have hp := rem_lt ops.size listed
        rw [hrem, List.pairwise_cons] at hp
        have : i0 ∈ Region.ready .any ops listed := by
          refine mem_ready.2 ⟨h2, ops[i0], by simp [h1], fun e he hb => ?_⟩
          have hlt : e.on < 0 + i0 := edgesOk_spec hedges i0 ops[i0] (by simp [h1]) e he hb
          refine hlisted e.on ?_ (by omega)
          cases hx : listed.getD e.on true with
          | true => rfl
          | false =>
            have : e.on ∈ rem ops.size listed := mem_rem.2 ⟨by omega, hx⟩
            rw [hrem] at this
            rcases List.mem_cons.1 this with h | h
            · omega
            · have := hp.1 _ h; omega
        rw [hnil] at this
        cases this
    · have him := hready listed i hi
      obtain ⟨hi1, hi2⟩ := mem_rem.1 him
      obtain ⟨js, rest, e1, e2, e3⟩ := rem_split hsz him
      obtain ⟨o, a, d, ho, hLi, hai, hcr⟩ := hL i hi1
      obtain ⟨_, o', ho', hafter⟩ := mem_ready.1 hi
      rw [ho] at ho'
      cases ho'
      -- what it waits for has come
      have hanc' : ∀ j, ((Region.before ops).getD i 0).testBit j = true → listed.getD j false = true := fun j hj => by
        obtain ⟨e, h1, h2, h3⟩ := before_spec ho hj
        have h4 := hafter e h1 h2
        rcases h3 with rfl | h3
        · exact h4
        · exact hcl e.on h4 j h3
      have hnot : ∀ j ∈ js, bit a.anc j = false := fun j hj => by
        have hjm : j ∈ rem ops.size listed := by rw [e1]; exact List.mem_append_left _ hj
        obtain ⟨h1, h2⟩ := mem_rem.1 hjm
        cases hb : bit a.anc j with
        | false => rfl
        | true =>
          rw [hanc i a hai] at hb
          have h3 := hanc' j hb
          have h4 : j < listed.size := by omega
          simp [h4] at h2 h3
          rw [h2] at h3; cases h3
      rw [e1, List.filterMap_append, List.filterMap_cons_some hLi] at hrun
      obtain ⟨tm1, H1, hstep, hrun1⟩ := RunD.bubble (hfact (a, d) (List.mem_of_getElem? hLi)) (fun p hp => by
        obtain ⟨j, hj, hpj⟩ := List.mem_filterMap.1 hp
        have hjlt := e3 j hj
        have hb := hnot j hj
        refine ⟨?_, pairs_get hpairs hjlt hpj hLi (by simpa using hb)⟩
        refine drawOk_get hdraw hjlt (p := p.1) (q := a) ?_ hai (by simpa using hb)
        rw [← hops, List.getElem?_map, hpj]
        rfl) hrun
      refine step_ok hms hcall hcr hnt hg ht hr hstep (hfact (a, d) (List.mem_of_getElem? hLi)) (hfr i him (a, d) hLi) ho (fun act' w' μ' k1 k2 k3 k4 => ?_)
      have hszi : (listed.setIfInBounds i true).size = ops.size := by simp [hsz]
      refine ih (listed.setIfInBounds i true) tm1 H1 μ' w' act' hszi ?_ ?_ ?_ (by rw [k3]; exact hnt) (hg.ext k4.ext) k1 k4.rel ?_ ?_
      · rw [e2]
        rw [e1] at hlen
        simp at hlen ⊢
        omega
      · intro k hk j hj
        by_cases eki : i = k
        · subst eki
          exact getD_set_true (hanc' j hj)
        · rw [getD_set_ne false eki] at hk
          exact getD_set_true (hcl k hk j hj)
      · rw [e2, List.filterMap_append]
        exact hrun1
      · intro j hj p hp g hgm
        have hjm : j ∈ rem ops.size listed := by
          rw [e1]; rw [e2] at hj
          rcases List.mem_append.1 hj with h | h
          · exact List.mem_append_left _ h
          · exact List.mem_append_right _ (List.mem_cons_of_mem _ h)
        have hji : j ≠ i := by
          intro h
          subst h
          have := (mem_rem.1 hj).2
          have h4 : j < listed.size := by omega
          simp [h4] at this
        have hnm : ¬ d.mine g := dis_get hdis hji hp hLi g hgm
        obtain ⟨f1, f2⟩ := hfr j hjm p hp g hgm
        refine ⟨?_, fun v => by rw [k4.other g v f1 hnm]; exact f2 v⟩
        cases hx : H1.get g with
        | none => rfl
        | some o' => exact absurd (k4.new g (by simp [hx]) f1) hnm
      · intro act2 w2 μ2 j1 j2 j3 j4
        exact hQ act2 w2 μ2 j1 (by rw [j2, k2]) (by rw [j3, k3]) ((k4.mono fun g hg => hN (a, d) (List.mem_of_getElem? hLi) g hg).trans j4)

theorem runDraw_ok {ms : Meths} {call : CallK} (hms : ∀ x ∈ ms, x ∈ methsOf P) (hcall : CallOk P call) (hfc : FrCall call) (hm : P.follows .mixedOrders = true) {ops : Array Oper} {id nt : Nat} {al : List AOper}
    (hc : compOps P ops true nt ops.toList (Region.before ops).toList = some al) (hedges : edgesOk 0 ops.toList = true) (hdraw : drawOk 0 al = true)
    {tm tm' : T Value} {s s' : St} {μ : Mu} {w : World} {hi : Nat} {act : Act} (hnt : nt ≤ act.tmps.size) (hg : Gl P μ) (ht : TRel μ tm act.tmps) (hinv : Inv μ s.heap s.next hi w)
    (h : runDraw ms call 0 al [] [] tm s = .ok (tm', s')) (hle : s'.next ≤ hi) {Q : Exit → Act → World → Prop}
    (hQ : ∀ act' w' μ', TRel μ' tm' act'.tmps → act'.defers = act.defers → act'.tmps.size = act.tmps.size → StepR μ s.heap s.next w μ' s'.heap s'.next w' → Q .normal act' w') :
    (Code.region id ops true).wp P Q act w := by
  obtain ⟨hall, hanc⟩ := compOps_spec hc
  have hH : Hist [] [] [] s := ⟨hinv.dom, fun _ h => (by cases h), fun _ h => (by cases h), fun _ h => (by cases h), fun _ h => (by cases h)⟩
  obtain ⟨L, hD⟩ := runDraw_data hfc hH h
  have hfr := runDraw_fr hfc h
  refine wp_region_any hm ?_
  have hrem : rem ops.size (Array.replicate ops.size false) = List.range ops.size := by
    unfold rem
    refine List.filter_eq_self.2 fun i hi => ?_
    have := List.mem_range.1 hi
    simp [this]
  have hlenL : L.length = ops.size := by
    have := hall.length
    rw [← hD.ops] at this
    simpa using this.symm
  have hfm : (rem ops.size (Array.replicate ops.size false)).filterMap (L[·]?) = L := by
    rw [hrem, ← hlenL]
    apply List.ext_getElem?
    intro i
    have : (List.range L.length).filterMap (L[·]?) = L := by
      have key : ∀ (M : List (AOper × DD)), (List.range M.length).filterMap (M[·]?) = M := fun M => by
        induction M with
        | nil => rfl
        | cons x M ih =>
          rw [List.length_cons, List.range_succ_eq_map, List.filterMap_cons_some (b := x) (by simp), List.filterMap_map]
          congr 1
      exact key L
    rw [this]
  refine any_ok hms hcall hall (fun i a ha => ?_) hedges hdraw hD.ops hD.fact hD.pairs hD.dis (N := fun g => s.next ≤ g ∧ g < s'.next) hD.mine ops.size _ tm s.heap μ _ act (by simp) (by rw [hrem]; simp) (fun k hk => ?_)
    (by rw [hfm]; exact hD.run) hnt hg ht (hinv.rel.drawn rfl) (fun i _ p hp g hgm => ?_) (fun act' w' μ' k1 k2 k3 k4 => ?_)
  · have := hanc i a ha
    simpa using this
  · exfalso
    rcases Nat.lt_or_ge k ops.size with h' | h'
    · simp [h'] at hk
    · simp [Nat.not_lt.2 h'] at hk
  · have hm := hD.mine p (List.mem_of_getElem? hp) g hgm
    exact ⟨hinv.dom g hm.1, fun v => hinv.fresh g v hm.1 (by omega)⟩
  · exact hQ act' w' μ' k1 k2 k3 ((k4.toR hfr.le).drawn (w1 := { w with drawn := w.drawn + 1 }) rfl rfl rfl rfl)
end
end Go.Am

/-
  THE ABSTRACT MACHINE: code and functions, in the model.
-/
namespace Go.Am

def exitOf : AExit → Exit
  | .normal => .normal
  | .exit id => .exit id
  | .ret => .ret

section
variable {P : Program}

/-- What holds behind a piece of code. -/
def Behind (tm' : T Value) (e : AExit) (μ : Mu) (s s' : St) (w : World) (act : Act) (Q : Exit → Act → World → Prop) : Prop :=
  ∀ act' w' μ', TRel μ' tm' act'.tmps → act'.defers = act.defers → act'.tmps.size = act.tmps.size → StepR μ s.heap s.next w μ' s'.heap s'.next w' → Q (exitOf e) act' w'

/-- A piece of code does what its compiled form does. -/
def CodeOk (P : Program) (nt : Nat) (F : T Value → St → R (AExit × T Value × St)) (c : Code) : Prop :=
  ∀ {e : AExit} {tm tm' : T Value} {s s' : St} {μ : Mu} {w : World} {hi : Nat} {act : Act}, nt ≤ act.tmps.size → Gl P μ → TRel μ tm act.tmps → Inv μ s.heap s.next hi w →
    F tm s = .ok (e, tm', s') → s'.next ≤ hi → ∀ {Q : Exit → Act → World → Prop}, Behind tm' e μ s s' w act Q → c.wp P Q act w

theorem loopN_ok {nt : Nat} {F : T Value → St → R (AExit × T Value × St)} (hfr : ∀ tm s e tm' s', F tm s = .ok (e, tm', s') → Fr s s') {c : Code} (hF : CodeOk P nt F c) :
    ∀ (n : Nat) {e : AExit} {tm tm' : T Value} {s s' : St} {μ : Mu} {w : World} {hi : Nat} {act : Act}, nt ≤ act.tmps.size → Gl P μ → TRel μ tm act.tmps → Inv μ s.heap s.next hi w →
      loopN F n tm s = .ok (e, tm', s') → s'.next ≤ hi → ∀ {Q : Exit → Act → World → Prop}, (Behind tm' e μ s s' w act Q) → Code.rounds P c Q n act w
  | 0, e, tm, tm', s, s', μ, w, hi, act, hnt, hg, ht, hinv, h, hle, Q, hQ => by simp only [loopN] at h; cases h
  | n + 1, e, tm, tm', s, s', μ, w, hi, act, hnt, hg, ht, hinv, h, hle, Q, hQ => by
    rw [rounds_succ]
    simp only [loopN] at h
    split at h
    · rename_i tm1 s1 h1
      have f2 := loopN_fr hfr h
      refine hF hnt hg ht hinv h1 (Nat.le_trans f2.le hle) (fun act1 w1 μ1 k1 k2 k3 k4 => ?_)
      exact loopN_ok hfr hF n (by rw [k3]; exact hnt) (hg.ext k4.ext) k1 (hinv.step k4) h hle (fun act2 w2 μ2 j1 j2 j3 j4 => hQ act2 w2 μ2 j1 (by rw [j2, k2]) (by rw [j3, k3]) (k4.trans j4))
    · rename_i hne
      refine hF hnt hg ht hinv h hle (fun act1 w1 μ1 k1 k2 k3 k4 => ?_)
      have hq := hQ act1 w1 μ1 k1 k2 k3 k4
      cases e with
      | normal => exact absurd h (hne tm' s')
      | exit id => exact hq
      | ret => exact hq

/-- A loop never ends as a round that goes on. -/
theorem loopN_not_normal {F : T Value → St → R (AExit × T Value × St)} : ∀ (n : Nat) {tm tm' : T Value} {s s' : St}, loopN F n tm s ≠ .ok (.normal, tm', s')
  | 0, _, _, _, _, h => by simp only [loopN] at h; cases h
  | n + 1, tm, tm', s, s', h => by
    simp only [loopN] at h
    split at h
    · exact loopN_not_normal n h
    · rename_i hne; exact hne _ _ h

theorem exec_ok {ms : Meths} {call : CallK} (hms : ∀ x ∈ ms, x ∈ methsOf P) (hcall : CallOk P call) (hfc : FrCall call) (hm : P.follows .mixedOrders = true) (nt k : Nat) :
    ∀ (c : Code), CodeOk P nt (exec ms call k (comp P nt c)) c
  | .skip, e, tm, tm', s, s', μ, w, hi, act, hnt, hg, ht, hinv, h, hle, Q, hQ => by
    simp only [comp, exec] at h
    cases h
    exact wp_skip (hQ act w μ ht rfl rfl (.refl hinv.rel))
  | .ret, e, tm, tm', s, s', μ, w, hi, act, hnt, hg, ht, hinv, h, hle, Q, hQ => by
    simp only [comp, exec] at h
    cases h
    exact wp_ret (hQ act w μ ht rfl rfl (.refl hinv.rel))
  | .exit id, e, tm, tm', s, s', μ, w, hi, act, hnt, hg, ht, hinv, h, hle, Q, hQ => by
    simp only [comp, exec] at h
    cases h
    exact wp_exit (hQ act w μ ht rfl rfl (.refl hinv.rel))
  | .region id ops draw, e, tm, tm', s, s', μ, w, hi, act, hnt, hg, ht, hinv, h, hle, Q, hQ => by
    simp only [comp] at h
    split at h
    · rename_i al hal
      cases draw with
      | false =>
        simp only [Bool.false_eq_true, if_false, exec] at h
        split at h
        · rename_i tm1 s1 h1
          cases h
          refine wp_region ?_
          rw [List.range_eq_range', show ops.size = ops.toList.length by simp, wpOps_eq_wpList ops.toList 0 (fun j => by simp)]
          exact runOps_ok hms hcall (compOps_spec hal).1 hnt hg ht hinv h1 hle hfc hQ
        · cases h
      | true =>
        simp only [if_true] at h
        split at h
        · rename_i hd
          simp only [Bool.and_eq_true] at hd
          simp only [exec] at h
          split at h
          · rename_i tm1 s1 h1
            cases h
            exact runDraw_ok hms hcall hfc hm hal hd.2 hd.1 hnt hg ht hinv h1 hle hQ
          · cases h
        · simp only [exec] at h; cases h
    · simp only [exec] at h; cases h
  | .seq a b, e, tm, tm', s, s', μ, w, hi, act, hnt, hg, ht, hinv, h, hle, Q, hQ => by
    simp only [comp, exec] at h
    refine wp_seq ?_
    split at h
    · rename_i tm1 s1 h1
      have f2 := exec_fr hfc k h
      refine exec_ok hms hcall hfc hm nt k a hnt hg ht hinv h1 (Nat.le_trans f2.le hle) (fun act1 w1 μ1 k1 k2 k3 k4 => ?_)
      exact exec_ok hms hcall hfc hm nt k b (by rw [k3]; exact hnt) (hg.ext k4.ext) k1 (hinv.step k4) h hle (fun act2 w2 μ2 j1 j2 j3 j4 => hQ act2 w2 μ2 j1 (by rw [j2, k2]) (by rw [j3, k3]) (k4.trans j4))
    · rename_i hne
      refine exec_ok hms hcall hfc hm nt k a hnt hg ht hinv h hle (fun act1 w1 μ1 k1 k2 k3 k4 => ?_)
      have hq := hQ act1 w1 μ1 k1 k2 k3 k4
      cases e with
      | normal => exact absurd h (hne tm' s')
      | exit id => exact hq
      | ret => exact hq
  | .cond c a b, e, tm, tm', s, s', μ, w, hi, act, hnt, hg, ht, hinv, h, hle, Q, hQ => by
    simp only [comp] at h
    split at h
    · rename_i c' hc
      have hv := eval_rel ht hg c c' hc
      simp only [exec] at h
      split at h
      · rename_i hb
        rw [hb] at hv
        generalize hX : act.eval c = X at hv
        cases hv
        exact wp_cond_true hX (exec_ok hms hcall hfc hm nt k a hnt hg ht hinv h hle hQ)
      · rename_i hb
        rw [hb] at hv
        generalize hX : act.eval c = X at hv
        cases hv
        exact wp_cond_false hX (exec_ok hms hcall hfc hm nt k b hnt hg ht hinv h hle hQ)
      · cases h
    · simp only [exec] at h; cases h
  | .block id c, e, tm, tm', s, s', μ, w, hi, act, hnt, hg, ht, hinv, h, hle, Q, hQ => by
    simp only [comp, exec, Bool.cond_eq_ite] at h
    refine wp_block ?_
    split at h
    · rename_i id' tm1 s1 h1
      have hs : s' = s1 := by split at h <;> cases h <;> rfl
      have ht' : tm' = tm1 := by split at h <;> cases h <;> rfl
      subst hs
      subst ht'
      refine exec_ok hms hcall hfc hm nt k c hnt hg ht hinv h1 hle (fun act1 w1 μ1 k1 k2 k3 k4 => ?_)
      have hq := hQ act1 w1 μ1 k1 k2 k3 k4
      simp only [exitOf, Exit.inBlock]
      split at h
      · rename_i hb
        cases h
        rw [if_pos (Nat.eq_of_beq_eq_true hb).symm]
        exact hq
      · rename_i hb
        cases h
        rw [if_neg (fun e => hb (by rw [e]; exact Nat.beq_refl _))]
        exact hq
    · rename_i hne
      refine exec_ok hms hcall hfc hm nt k c hnt hg ht hinv h hle (fun act1 w1 μ1 k1 k2 k3 k4 => ?_)
      have hq := hQ act1 w1 μ1 k1 k2 k3 k4
      cases e with
      | normal => exact hq
      | exit id => exact absurd h (hne id tm' s')
      | ret => exact hq
  | .loop c, e, tm, tm', s, s', μ, w, hi, act, hnt, hg, ht, hinv, h, hle, Q, hQ => by
    simp only [comp, exec] at h
    exact wp_loop_rounds k (loopN_ok (fun _ _ _ _ _ h => exec_fr hfc k h) (exec_ok hms hcall hfc hm nt k c) k hnt hg ht hinv h hle hQ)
  | .label _, e, tm, tm', s, s', μ, w, hi, act, hnt, hg, ht, hinv, h, hle, Q, hQ => by simp only [comp, exec] at h; cases h
  | .goto _, e, tm, tm', s, s', μ, w, hi, act, hnt, hg, ht, hinv, h, hle, Q, hQ => by simp only [comp, exec] at h; cases h
  | .rangeFunc _ _ _ _, e, tm, tm', s, s', μ, w, hi, act, hnt, hg, ht, hinv, h, hle, Q, hQ => by simp only [comp, exec] at h; cases h
  | .scope _, e, tm, tm', s, s', μ, w, hi, act, hnt, hg, ht, hinv, h, hle, Q, hQ => by simp only [comp, exec] at h; cases h
  | .refuse _, e, tm, tm', s, s', μ, w, hi, act, hnt, hg, ht, hinv, h, hle, Q, hQ => by simp only [comp, exec] at h; cases h
end
end Go.Am

/-
  THE ABSTRACT MACHINE: functions that call one another.
-/
namespace Go.Am

section
variable {P : Program}

/-- One result. -/
def resOne (tmps : Array Value) : ResultVar → Sem Value
  | .tmp t => pure (tmps.getD t undef)
  | .cell a t => do loadVar t (← asAddr (tmps.getD a undef))
theorem results_eq (fn : Func) (tmps : Array Value) :
    Go.results fn tmps = (do let vs ← fn.results.toList.mapM (resOne tmps); pure (if h : vs.toArray.size = 1 then vs.toArray[0] else .tuple vs.toArray)) := by
  unfold Go.results
  rw [Array.mapM_eq_mapM_toList]
  simp only [bind_map_left]
  rfl

theorem res_rel {μ : Mu} {tm : T Value} {s : St} {w : World} {tmps : Array Value} (r : Rel μ s.heap w) (ht : TRel μ tm tmps) : ∀ {rs : List ResultVar} {as : List ARes} {l : List Value},
    compRes P rs = some as → Am.results tm s as = .ok l → ∃ lc, (rs.mapM (resOne tmps)).run P w = .ok lc w ∧ LRel μ l lc
  | [], as, l, hc, h => by
    simp only [compRes, Option.some.injEq] at hc
    subst hc
    simp only [Am.results] at h
    cases h
    exact ⟨[], rfl, .nil μ⟩
  | .tmp t :: rs, as, l, hc, h => by
    simp only [compRes, bind, Option.bind_eq_some_iff, pure, Option.some.injEq] at hc
    obtain ⟨as', h1, rfl⟩ := hc
    simp only [Am.results] at h
    split at h
    · rename_i l' h2
      cases h
      obtain ⟨lc, h3, h4⟩ := res_rel r ht h1 h2
      refine ⟨tmps.getD t undef :: lc, ?_, .cons (ht t) h4⟩
      simp only [List.mapM_cons, resOne, Sem.run_bind, Sem.run_pure, Result.andThen_ok, h3]
    · cases h
  | .cell t ty :: rs, as, l, hc, h => by
    simp only [compRes, bind, Option.bind_eq_some_iff, pure, Option.some.injEq] at hc
    obtain ⟨agg, ha, n, hn, as', h1, rfl⟩ := hc
    simp only [Am.results] at h
    split at h
    · rename_i g i v hp
      have hv : VRel μ (opd tm (.tmp t)) (tmps.getD t undef) := ht t
      rw [hp] at hv
      generalize hX : tmps.getD t undef = X at hv
      cases hv with
      | ptr hl =>
        split at h
        · rename_i x hx
          split at h
          · rename_i l' h2
            cases h
            obtain ⟨lc, h3, h4⟩ := res_rel r ht h1 h2
            obtain ⟨y, hy, hv⟩ := load_run ha hn r hl hx
            refine ⟨y :: lc, ?_, .cons hv h4⟩
            simp only [List.mapM_cons, resOne, Sem.run_bind, Sem.run_pure, Result.andThen_ok, h3, hX, asAddr, hy]
          · cases h
        · cases h
    · cases h

theorem tmpsFrom_get : ∀ (l : List Value) (i : Nat) (tm : T Value) (t : Nat), (tmpsFrom l i tm).get t = if i ≤ t ∧ t < i + l.length then l[t - i]? else tm.get t
  | [], i, tm, t => by simp only [tmpsFrom]; rw [if_neg (by simp)]
  | v :: l, i, tm, t => by
    simp only [tmpsFrom]
    rw [tmpsFrom_get l (i + 1), T.get_set]
    by_cases e : t = i
    · subst e
      rw [if_neg (by omega), if_pos rfl, if_pos (by simp)]
      simp
    · by_cases h : i + 1 ≤ t ∧ t < i + 1 + l.length
      · rw [if_pos h, if_pos (by simp; omega), show t - i = (t - (i + 1)) + 1 by omega, List.getElem?_cons_succ]
      · rw [if_neg h, if_neg e, if_neg (by simp; omega)]
theorem args_rel {μ : Mu} {args argsc : List Value} (h : LRel μ args argsc) (n : Nat) : TRel μ (tmpsFrom args 0 .e) ((⟨argsc⟩ : Array Value) ++ Array.replicate n undef) := by
  intro t
  rw [tmpsFrom_get, Array.getD_eq_getD_getElem?, Array.getElem?_append]
  have hl := h.1
  by_cases e : t < args.length
  · rw [if_pos (by omega), if_pos (by simp; omega)]
    have hx : args[t]? = some args[t] := List.getElem?_eq_getElem e
    have hy : argsc[t]? = some argsc[t] := List.getElem?_eq_getElem (hl ▸ e)
    simp only [Nat.sub_zero, hx]
    have : (⟨argsc⟩ : Array Value)[t]? = some argsc[t] := by simp
    rw [this]
    exact h.2 t _ _ hx hy
  · rw [if_neg (by omega), if_neg (by simpa using (by omega : ¬ t < argsc.length))]
    simp only [T.get_e]
    have : ((Array.replicate n undef)[t - (⟨argsc⟩ : Array Value).size]?).getD undef = undef := by
      rw [Array.getElem?_replicate]
      split <;> rfl
    rw [this]
    exact undef_rel μ

/-- What one function does, in the model. -/
def FnOk (P : Program) (f : Nat) (g : List Value → St → R (Value × St)) : Prop :=
  ∀ (args argsc : List Value) (s s' : St) (v : Value) (μ : Mu) (w : World) (hi : Nat), Gl P μ → LRel μ args argsc → Inv μ s.heap s.next hi w →
    g args s = .ok (v, s') → s'.next ≤ hi →
    (callFunc f ⟨argsc⟩).run P w = .ok (.enter f ⟨argsc⟩) w ∧
    Calls P f ⟨argsc⟩ w fun e w' => ∃ vc μ', e = .returned vc ∧ VRel μ' v vc ∧ StepR μ s.heap s.next w μ' s'.heap s'.next w'

/-- A table of functions that says what the program has. -/
def TabOk (P : Program) (tab : Nat → Option AFn) : Prop := ∀ f e, tab f = some e →
  match e with
  | .code fn => ∃ F, P.funcs[f]? = some F ∧ (F.name == "runtime.NumGoroutine") = false ∧ compFn P F = some fn
  | .keys ck fs => FnOk P f (sortedKeys ck fs)
  | .clone => FnOk P f cloneStr
  | .prim g _ => FnOk P f g

theorem acall_ok {tab : Nat → Option AFn} {ms : Meths} (hms : ∀ x ∈ ms, x ∈ methsOf P) (hm : P.follows .mixedOrders = true) (htab : TabOk P tab) : ∀ (k : Nat), CallOk P (acall tab ms k)
  | 0 => fun f args argsc s s' v μ w hi hg ha hinv h hle => by simp only [acall] at h; cases h
  | k + 1 => fun f args argsc s s' v μ w hi hg ha hinv h hle => by
    simp only [acall] at h
    split at h
    · rename_i fn hf
      obtain ⟨F, hF, hname, hcomp⟩ := htab f _ hf
      simp only [compFn, bind, Option.bind_eq_some_iff, pure, Option.some.injEq] at hcomp
      obtain ⟨b, hb, rs, hrs, rfl⟩ := hcomp
      refine ⟨?_, calls_of_wp hF hb ?_⟩
      · have hname' : F.name ≠ "runtime.NumGoroutine" := by simpa using hname
        simp [callFunc, hF, hname', hb]
      have hnt : F.ntmps ≤ ((⟨argsc⟩ : Array Value) ++ Array.replicate (F.ntmps - (⟨argsc⟩ : Array Value).size) undef).size := by simp; omega
      split at h
      · cases h
      · rename_i ex tm1 s1 hne h1
        have hs : s1.next = s'.next ∧ s1 = s' := by split at h <;> cases h <;> exact ⟨rfl, rfl⟩
        refine exec_ok hms (acall_ok hms hm htab k) (acall_fr k) hm F.ntmps k b (act := ⟨_, []⟩) hnt hg (args_rel ha _) hinv h1 (by rw [hs.1]; exact hle) (fun act' w' μ' k1 k2 k3 k4 => ?_)
        have key : ∃ vc, (Go.results F act'.tmps).run P w' = .ok vc w' ∧ VRel μ' v vc := by
          rw [results_eq]
          split at h
          · rename_i v1 h2
            cases h
            obtain ⟨lc, h3, h4⟩ := res_rel k4.rel k1 hrs h2
            obtain ⟨y, rfl⟩ : ∃ y, lc = [y] := by
              match lc, h4.1 with
              | [y], _ => exact ⟨y, rfl⟩
            refine ⟨y, ?_, (h4.uncons).1⟩
            simp only [Sem.run_bind, h3, Result.andThen_ok, Sem.run_pure]
            simp
          · rename_i l hne1 h2
            cases h
            obtain ⟨lc, h3, h4⟩ := res_rel k4.rel k1 hrs h2
            refine ⟨.tuple lc.toArray, ?_, .tuple h4.1 h4.2⟩
            have : ¬ lc.toArray.size = 1 := fun e => by
              have h5 := h4.1
              have h6 : lc.length = 1 := by simpa using e
              match l, h5.trans h6, h2, hne1 with
              | [x], _, h2, hne1 => exact hne1 x rfl
            simp only [Sem.run_bind, h3, Result.andThen_ok, Sem.run_pure]
            rw [dif_neg this]
          · cases h
        obtain ⟨vc, h5, h6⟩ := key
        have hpost : ∃ vc μ'', Ending.returned vc = .returned vc ∧ True := ⟨vc, μ', rfl, trivial⟩
        have hR : ∃ vc' μ'', Ending.returned vc = .returned vc' ∧ VRel μ'' v vc' ∧ StepR μ s.heap s.next w μ'' s'.heap s'.next w' := ⟨vc, μ', rfl, h6, hs.2 ▸ k4⟩
        cases ex with
        | normal => exact ⟨k2, vc, h5, hR⟩
        | ret => exact ⟨k2, vc, h5, hR⟩
        | exit id => exact absurd rfl (hne id)
      · cases h
    · rename_i ck fs hf
      exact htab f _ hf args argsc s s' v μ w hi hg ha hinv h hle
    · rename_i hf
      exact htab f _ hf args argsc s s' v μ w hi hg ha hinv h hle
    · rename_i hf
      exact htab f _ hf args argsc s s' v μ w hi hg ha hinv h hle
    · cases h
end
end Go.Am
