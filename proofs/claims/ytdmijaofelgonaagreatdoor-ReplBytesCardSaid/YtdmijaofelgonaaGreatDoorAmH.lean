/-
  THE ABSTRACT MACHINE: the operations append, make, copy, clear; bytes of texts.
-/
import Derived.Test.YtdmijaofelgonaaGreatDoorAmG
namespace Go.Am
open Go.MapKept

section
variable {P : Program}
variable {dst : Option Tmp} {type : TypeId} {pos : String} {after : Array Edge} {guard : Option (Nat × Bool)}

theorem appendCells_bytes {k bytes : Nat} {s : St} {x : Value} {m : Nat} {new : List Value} {r : Value × St} (h : appendCells k bytes s x m new = .ok r) : m = 0 ∨ bytes ≤ 4096 := by
  unfold appendCells at h
  by_cases hm : m = 0
  · exact .inl hm
  · right
    have hmb : Nat.beq m 0 = false := by cases hq : Nat.beq m 0 with | true => exact absurd (Nat.eq_of_beq_eq_true hq) hm | false => rfl
    split at h
    · simp only [hmb, cond_false] at h
      cases hb : Nat.ble bytes 4096 with
      | true => exact Nat.ble_eq ▸ hb
      | false => simp [hb] at h
    · simp only [hmb, cond_false] at h
      cases hb : Nat.ble bytes 4096 with
      | true => exact Nat.ble_eq ▸ hb
      | false =>
        rename_i g i v n mt
        cases hk : Nat.beq (mt / 2) k <;> simp [hb, hk] at h
    · cases h

theorem op_append {t tx e : TypeId} (ht : P.underlying t = some (.slice e)) {d : TypeDesc} (hd : P.underlying tx = some d) (hdi : (∃ e', d = .slice e') ∨ d = .string)
    {k : Nat} (hk : szOf P e = some k) (hk0 : k ≠ 0) {z : Value} (hz : zeroOf P e = some z) {bytes : Nat} (hb : bytesOfT P e = some bytes)
    {sl x : Operand} {sl' x' : Opd} (hs' : compOpd P sl = some sl') (hx : compOpd P x = some x') :
    OpSound P ⟨dst, .call { callee := .builtin .append, args := #[sl, x], argTypes := #[t, tx] }, type, pos, after, guard⟩ (.append k bytes (vcells z) sl' x') := by
  intro ms tm ρ μ s s' v w hi hr i hs hle
  have rs := hr sl sl' hs'
  have rx := hr x x' hx
  simp only [aop] at hs
  split at hs <;> try cases hs
  rename_i m new hsrc
  obtain ⟨News, src⟩ := srcCells_ok (P := P) i.rel rx hsrc
  split at hs <;> cases hs
  rename_i happ
  by_cases hb4 : bytes ≤ 4096
  · have ar := appRun_src (ty := type) src ht hd hdi hk hz hb hb4
    obtain ⟨base, n, c, hX, V, w', μ', a1, a2, a3, a4⟩ := append_ok i (Nat.pos_of_ne_zero hk0) rs src.rel src.one src.len ar happ hle
    refine .of V w' μ' ?_ a2 a3 a4
    simp [execOp, resolve, invoke, BigFrame.builtin_append, hX, a1]
  · have hm0 : m = 0 := by rcases appendCells_bytes happ with h | h; exact h; exact absurd h hb4
    subst hm0
    have hN : News = [] := by
      apply List.eq_nil_of_length_eq_zero
      rw [← src.rel.1, src.len]; omega
    have hnn : new = [] := by
      apply List.eq_nil_of_length_eq_zero
      rw [src.len]; omega
    -- nothing is appended: as with elements of one byte
    have ar : AppRun P w k 0 News e (fun base sLen sCap => if sLen ≤ sCap then (Builtin.append_ #[t, tx] type #[.slice base sLen sCap, ρ x]).run P w else
        (match (Builtin.firstCells k sLen (.slice base sLen sCap)).run P w.drew with
          | .ok old _ => .ok (.slice (some ⟨w.heap.size, 0, none⟩) (sLen + 0) (sLen + 0)) (w.drew.alloc (.cells ⟨old.toList ++ News ++ []⟩ e))
          | .halt h w => .halt h w)) := by
      refine ⟨fun a sLen sCap h => ?_, fun sLen sCap h => ?_, fun base sLen sCap old h1 h2 h3 => ?_⟩
      · have h' : sLen ≤ sCap := by omega
        rw [if_pos h']
        rcases hdi with ⟨e', rfl⟩ | rfl <;> simp [Builtin.append_, run_underlying ht, run_underlying hd, run_szOf hk, src.lenOf, h', src.cells w rfl]
      · have h' : sLen ≤ sCap := by omega
        rw [if_pos h']
        rcases hdi with ⟨e', rfl⟩ | rfl <;> simp [Builtin.append_, run_underlying ht, run_underlying hd, run_szOf hk, src.lenOf, h', src.cells w rfl]
      · refine ⟨sLen + 0, [], Nat.le_refl _, by simp, ?_⟩
        rw [if_neg (by omega), h3]
    obtain ⟨base, n, c, hX, V, w', μ', a1, a2, a3, a4⟩ := append_ok i (Nat.pos_of_ne_zero hk0) rs src.rel src.one src.len ar happ hle
    have hle' : ∀ q, VRel μ q (.slice base n c) → n ≤ c := fun q h => by
      cases h with
      | slNil => exact Nat.le_refl _
      | sl _ _ _ h _ _ => exact h
    have hnc : n ≤ c := hle' _ (hX ▸ rs)
    rw [if_pos hnc] at a1
    refine .of V w' μ' ?_ a2 a3 a4
    simp [execOp, resolve, invoke, BigFrame.builtin_append, hX, a1]

theorem appendCells_most {k bytes : Nat} {s : St} {x : Value} {m : Nat} {new : List Value} {r : Value × St} (h : appendCells k bytes s x m new = .ok r) : m < mostElems := by
  unfold appendCells at h
  by_cases hm : m = 0
  · subst hm; simp [mostElems]
  · have hmb : Nat.beq m 0 = false := by cases hq : Nat.beq m 0 with | true => exact absurd (Nat.eq_of_beq_eq_true hq) hm | false => rfl
    split at h
    · simp only [hmb, cond_false] at h
      cases hb : Nat.blt m mostElems with
      | true => exact Nat.blt_eq ▸ hb
      | false => simp [hb] at h
    · rename_i g i v n mt
      simp only [hmb, cond_false] at h
      cases hb : Nat.blt (n + m) mostElems with
      | true => have := Nat.blt_eq ▸ hb; omega
      | false => cases hk : Nat.beq (mt / 2) k <;> simp [hb, hk] at h
    · cases h

theorem op_appendN {t tx e : TypeId} (ht : P.underlying t = some (.slice e)) {kd : IntKind} (hd : P.underlying tx = some (.int kd))
    {k : Nat} (hk : szOf P e = some k) (hk0 : k ≠ 0) {z : Value} (hz : zeroOf P e = some z) {bytes : Nat} (hb : bytesOfT P e = some bytes) (hb4 : bytes ≤ 4096)
    {sl x : Operand} {sl' x' : Opd} (hs' : compOpd P sl = some sl') (hx : compOpd P x = some x') :
    OpSound P ⟨dst, .call { callee := .builtin .append, args := #[sl, x], argTypes := #[t, tx] }, type, pos, after, guard⟩ (.appendN k bytes (vcells z) sl' x') := by
  intro ms tm ρ μ s s' v w hi hr i hs hle
  have rs := hr sl sl' hs'
  have rx := hr x x' hx
  simp only [aop] at hs
  split at hs <;> try cases hs
  rename_i kd' n0 e1
  rw [e1] at rx
  have ex := scal_rel rx rfl
  split at hs <;> try cases hs
  rename_i m hm
  have := asNat_some hm
  subst this
  split at hs <;> cases hs
  rename_i happ
  have hmost := appendCells_most happ
  have ar := appRun_zeros (P := P) (w := w) (ty := type) ht hd hk hz hb hb4 hmost kd'
  have hzp := (run_zeroOf hz w).2
  have rz : LRel μ (vcells z) z.cells.toList := (plain1_rel hzp).cells
  obtain ⟨ho, hsz⟩ := zeroOf_cells hz
  have hzk : (vcells z).length = k := by rw [hsz] at hk; exact Option.some.inj hk
  obtain ⟨base, n, c, hX, V, w', μ', a1, a2, a3, a4⟩ := append_ok i (Nat.pos_of_ne_zero hk0) rs (repl_rel rz m) (repl_one ho m) (by rw [repl_length, hzk]) ar happ hle
  refine .of V w' μ' ?_ a2 a3 a4
  simp [execOp, resolve, invoke, BigFrame.builtin_append, hX, ex, a1]

theorem op_mkSlice {t e : TypeId} (ht : P.underlying t = some (.slice e)) {k : Nat} (hk : szOf P e = some k) (hk0 : k ≠ 0) {z : Value} (hz : zeroOf P e = some z) {bytes : Nat} (hb : bytesOfT P e = some bytes)
    {l c : Operand} {l' c' : Opd} (hl : compOpd P l = some l') (hc : compOpd P c = some c') :
    OpSound P ⟨dst, .makeSlice t l c, type, pos, after, guard⟩ (.mkSlice k bytes (vcells z) l' c') := by
  intro ms tm ρ μ s s' v w hi hr i hs hle
  have rl := hr l l' hl
  have rc := hr c c' hc
  simp only [aop] at hs
  split at hs <;> try cases hs
  rename_i ka a0 kb b0 e1 e2
  rw [e1] at rl
  rw [e2] at rc
  have el := scal_rel rl rfl
  have ec := scal_rel rc rfl
  split at hs <;> try cases hs
  rename_i a b ha hb'
  have := asNat_some ha
  subst this
  have := asNat_some hb'
  subst this
  cases hq : (Nat.ble a b && Nat.blt b mostElems && Nat.ble bytes 4096) with
  | false => simp [hq] at hs
  | true =>
    simp only [hq, cond_true, newRow] at hs
    simp only [Bool.and_eq_true, Nat.ble_eq, Nat.blt_eq] at hq
    obtain ⟨⟨q1, q2⟩, q3⟩ := hq
    cases hs
    obtain ⟨inf, hinf, hiz⟩ := zeroOf_info hz
    have hki : inf.size = k := by simpa [szOf, hinf] using hk
    have hbi : inf.bytes = bytes := by simpa [bytesOfT, hinf] using hb
    have hzp := (run_zeroOf hz w).2
    have rz : LRel μ (vcells z) z.cells.toList := (plain1_rel hzp).cells
    obtain ⟨ho, hsz⟩ := zeroOf_cells hz
    have hzk : (vcells z).length = k := by rw [hsz] at hk; exact Option.some.inj hk
    have hZk : z.cells.size = k := by rw [← hzk, rz.1]; simp
    have hrun := run_make (P := P) w t e inf z ht hinf hiz ka kb a b (by omega) (by omega) (by
      have : inf.bytes * b ≤ 4096 * 4294967296 := Nat.mul_le_mul (by omega) (by simp only [mostElems] at q2; omega)
      rw [← Int.natCast_mul]
      generalize inf.bytes * b = q at this
      omega) (by simp only [mostElems] at q2; omega)
    have hmade : madeCells z.cells (b * inf.size) = ⟨repl z.cells.toList b⟩ := by
      rw [hki, ← hZk]
      exact array_zeros z.cells b
    have hla : (repl (vcells z) a).length = a * k := by rw [repl_length, hzk]
    have hsplit : repl z.cells.toList b = repl z.cells.toList a ++ repl z.cells.toList (b - a) := by
      have : ∀ (x y : Nat), repl z.cells.toList (x + y) = repl z.cells.toList x ++ repl z.cells.toList y := by
        intro x y
        induction x with
        | zero => simp [repl]
        | succ x ih => rw [show x + 1 + y = (x + y) + 1 by omega]; simp only [repl, ih, List.append_assoc]
      rw [← this]
      congr 1
      omega
    have st := step_row i hle (C := ⟨repl z.cells.toList b⟩) e (repl_one ho a) (by rw [hla, List.size_toArray, repl_length]; simp [hZk]; exact Nat.mul_le_mul_right k q1) (fun j x hx => by
      obtain ⟨y, hy, hv⟩ := (repl_rel rz a).get hx
      refine ⟨y, ?_, hv⟩
      rw [List.getElem?_toArray, hsplit, List.getElem?_append_left]
      · exact hy
      · rcases Nat.lt_or_ge j (repl z.cells.toList a).length with h | h
        · exact h
        · simp [List.getElem?_eq_none h] at hy) 0
    rw [hla] at st
    obtain ⟨h1, h2⟩ := sealed_half k (Nat.beq a b)
    refine .of (.slice (some ⟨w.heap.size, 0, none⟩) a b) _ _ ?_ ?_ st (.alloc s _)
    · simp [execOp, el, ec, hrun, hmade]
    · refine .sl (muSet_same _ _ _ _) (by rw [h1]; exact Nat.pos_of_ne_zero hk0) (by rw [h1]; omega) q1 (fun _ => ⟨rfl, ?_⟩) (fun h => (Nat.eq_of_beq_eq_true (h2 h)).symm)
      show 0 + 0 + b * ((2 * k + bif Nat.beq a b then 1 else 0) / 2) ≤ (⟨repl z.cells.toList b⟩ : Array Value).size
      rw [h1, List.size_toArray, repl_length]
      simp [hZk]

theorem op_copy {t tx e : TypeId} (ht : P.underlying t = some (.slice e)) {k : Nat} (hk : szOf P e = some k) (hk0 : k ≠ 0)
    {d x : Operand} {d' x' : Opd} (hd : compOpd P d = some d') (hx : compOpd P x = some x') :
    OpSound P ⟨dst, .call { callee := .builtin .copy, args := #[d, x], argTypes := #[t, tx] }, type, pos, after, guard⟩ (.copy k d' x') := by
  intro ms tm ρ μ s s' v w hi hr i hs hle
  have rd := hr d d' hd
  have rx := hr x x' hx
  simp only [aop] at hs
  split at hs <;> try cases hs
  rename_i l cells hsrc
  obtain ⟨News, src⟩ := srcCells_ok (P := P) i.rel rx hsrc
  split at hs
  · rename_i e1
    rw [e1] at rd
    generalize hD : ρ d = D at rd
    cases hs
    cases rd
    have h0 := src.pre w 0 rfl (Nat.zero_le _)
    refine .same i.rel (vc := .int .i64 0) ?_ (.int _ _)
    simp [execOp, resolve, invoke, BigFrame.builtin_copy, Builtin.copy_, hD, run_underlying ht, run_szOf hk, src.lenOf, h0, goInt]
  · rename_i g i0 u n m e1
    rw [e1] at rd
    generalize hD : ρ d = D at rd
    cases rd with
    | sl h1 h2 h3 h4 h5 h6 =>
      rename_i a c loc
      cases hkk : Nat.beq (m / 2) k with
      | false => simp [hkk] at hs
      | true =>
        simp only [hkk, Bool.not_true, cond_false] at hs
        have hcm : Nat.min l n ≤ l := Nat.min_le_left _ _
        have hpre := src.pre w (Nat.min l n) rfl hcm
        cases h0 : Nat.beq (Nat.min l n) 0 with
        | true =>
          simp only [h0, cond_true] at hs
          cases hs
          have h0' := Nat.eq_of_beq_eq_true h0
          rw [h0'] at hpre
          refine .same i.rel (vc := .int .i64 0) ?_ (.int _ _)
          simp [execOp, resolve, invoke, BigFrame.builtin_copy, Builtin.copy_, hD, run_underlying ht, run_szOf hk, src.lenOf, h0', hpre, goInt, storeCells]
        | false =>
          simp only [h0, cond_false] at hs
          have hne : Nat.min l n ≠ 0 := fun e => by rw [e] at h0; simp at h0
          split at hs <;> cases hs
          rename_i hw
          have hn0 : n ≠ 0 := fun e => by subst e; simp at hne
          obtain ⟨ha, _⟩ := h5 (by omega)
          subst ha
          obtain ⟨w', w1, w2, w3⟩ := write_ok (P := P) i hw (src.rel.take _) (fun x hx => src.one x (List.mem_of_mem_take hx)) h1
          refine .of (.int .i64 (Nat.min l n)) w' μ ?_ (.int _ _) w2 w3
          simp [execOp, resolve, invoke, BigFrame.builtin_copy, Builtin.copy_, hD, run_underlying ht, run_szOf hk, src.lenOf, hpre, goInt, w1]
  · cases hs

theorem op_clearSl {t e : TypeId} (ht : P.underlying t = some (.slice e)) {k : Nat} (hk : szOf P e = some k) (hk0 : k ≠ 0) {z : Value} (hz : zeroOf P e = some z)
    {x : Operand} {x' : Opd} (hx : compOpd P x = some x') :
    OpSound P ⟨dst, .call { callee := .builtin .clear, args := #[x], argTypes := #[t] }, type, pos, after, guard⟩ (.clearSl k (vcells z) x') := by
  intro ms tm ρ μ s s' v w hi hr i hs hle
  have rx := hr x x' hx
  simp only [aop] at hs
  split at hs
  · rename_i e1
    rw [e1] at rx
    generalize hX : ρ x = X at rx
    cases hs
    cases rx
    refine .same i.rel (vc := .tuple #[]) ?_ (undef_rel μ)
    simp [execOp, resolve, invoke, BigFrame.builtin_clear, Builtin.clear_, hX, run_underlying ht]
  · rename_i g i0 u n m e1
    rw [e1] at rx
    generalize hX : ρ x = X at rx
    cases rx with
    | sl h1 h2 h3 h4 h5 h6 =>
      rename_i a c loc
      cases h0 : Nat.beq n 0 with
      | true =>
        simp only [h0, cond_true] at hs
        cases hs
        have := Nat.eq_of_beq_eq_true h0
        subst this
        refine .same i.rel (vc := .tuple #[]) ?_ (undef_rel μ)
        simp [execOp, resolve, invoke, BigFrame.builtin_clear, Builtin.clear_, hX, run_underlying ht]
      | false =>
        simp only [h0, cond_false] at hs
        have hn0 : n ≠ 0 := fun e => by subst e; simp at h0
        cases hkk : Nat.beq (m / 2) k with
        | false => simp [hkk] at hs
        | true =>
          simp only [hkk, Bool.not_true, cond_false] at hs
          split at hs <;> cases hs
          rename_i hw
          obtain ⟨ha, _⟩ := h5 (by omega)
          subst ha
          obtain ⟨hzr, hzp⟩ := run_zeroOf hz w
          have rz : LRel μ (vcells z) z.cells.toList := (plain1_rel hzp).cells
          obtain ⟨ho, hsz⟩ := zeroOf_cells hz
          obtain ⟨w', w1, w2, w3⟩ := write_ok (P := P) i hw (repl_rel rz n) (repl_one ho n) h1
          refine .of (.tuple #[]) w' μ ?_ (undef_rel μ) w2 w3
          obtain ⟨n', rfl⟩ : ∃ n', n = n' + 1 := ⟨n - 1, by omega⟩
          simp [execOp, resolve, invoke, BigFrame.builtin_clear, Builtin.clear_, hX, run_underlying ht, hzr, Builtin.zeroCells, array_zeros, w1]
  · cases hs

theorem op_strToBytes {src to e : TypeId} (h1 : P.underlying src = some .string) (h2 : P.underlying to = some (.slice e)) (h3 : P.underlying e = some (.int .u8)) {x : Operand} {x' : Opd} (hx : compOpd P x = some x') :
    OpSound P ⟨dst, .convert src to x, type, pos, after, guard⟩ (.strToBytes x') := by
  intro ms tm ρ μ s s' v w hi hr i hs hle
  have rx := hr x x' hx
  simp only [aop, newRow] at hs
  split at hs <;> cases hs
  rename_i b e1
  rw [e1] at rx
  have ex := scal_rel rx rfl
  let cap := (Question.appendCap b.size 0 e).cut (w.tape w.drawn (.appendCap b.size 0 e))
  have hcap : b.size ≤ cap := by simp [cap, Question.cut]
  let rest : List Value := List.replicate (cap - b.size) (.int .u8 0)
  have hrl : (u8s b).length + rest.length = cap := by rw [u8s_length]; simp [rest]; omega
  have hlt : s.next < hi := hle
  have st := row_drew i hlt (ints_rel μ _ (u8s_scal b)) (u8s_one b) rest e 0 (cap, cap + 1) (by intro o ho; rw [hrl] at ho; omega)
  rw [hrl] at st
  rw [u8s_length] at st
  refine .of (.slice (some ⟨w.heap.size, 0, none⟩) b.size cap) (w.drew.alloc (.cells ⟨u8s b ++ rest⟩ e (cap, cap + 1))) _ ?_ ?_ st (.alloc s _)
  · have hq : (Question.appendCap b.size 0 e).forced = false := rfl
    have hfz : ∀ (w0 : World) (C : Array Value), C.size = cap → (w0.alloc (.cells C e)).freeze { block := w0.heap.size, off := cap } 1 = w0.alloc (.cells C e (cap, cap + 1)) := by
      intro w0 C hC
      simp only [World.freeze, World.alloc]
      rw [if_neg (by decide)]
      congr 1
      apply Array.ext_getElem?
      intro j
      rw [Array.getElem?_modify, Array.getElem?_push, Array.getElem?_push]
      by_cases hj : w0.heap.size = j
      · subst hj; simp
      · rw [if_neg hj, if_neg (Ne.symm hj), if_neg (Ne.symm hj)]
    have hC : ((b.data.map fun b => Value.int .u8 b.toNat) ++ Array.replicate (cap - b.size) (.int .u8 0)) = ⟨u8s b ++ rest⟩ := by
      apply Array.ext'
      simp [u8s, rest]
    have hsz : (⟨u8s b ++ rest⟩ : Array Value).size = cap := by simp [hrl]
    have hshape : (w.drew.alloc (.cells ⟨u8s b ++ rest⟩ e)).shape? w.heap.size = some (e, cap) := by
      have := pushed_get w.drew (.cells ⟨u8s b ++ rest⟩ e)
      have h' : (w.drew.alloc (.cells ⟨u8s b ++ rest⟩ e)).heap[w.heap.size]? = some (.cells ⟨u8s b ++ rest⟩ e) := this
      simp only [World.shape?, h', hsz]
    have hfz' := hfz w.drew ⟨u8s b ++ rest⟩ hsz
    simp only [execOp, Sem.run_bind, convert, run_underlying h1, run_underlying h2, run_underlying h3, Result.andThen_ok, ex, Conv.stringToBytes, run_choose, hq, Bool.false_eq_true, if_false]
    change (((Sem.run P (Go.newRow e ((b.data.map fun b => Value.int .u8 b.toNat) ++ Array.replicate (cap - b.size) (.int .u8 0))) w.drew).andThen _).andThen _) = _
    rw [hC, run_newRow]
    simp only [Result.andThen_ok, markStringish, Sem.run_bind, run_shape]
    have hshape' : (w.drew.alloc (.cells ⟨u8s b ++ rest⟩ e)).shape? w.drew.heap.size = some (e, cap) := hshape
    rw [hshape']
    simp only [run_freeze, Result.andThen_ok]
    rw [hfz']
    rfl
  · refine .sl (muSet_same _ _ _ _) (by omega) (by omega) hcap (fun _ => ⟨rfl, ?_⟩) (fun h => by omega)
    show 0 + 0 + cap * (2 / 2) ≤ cap
    omega
end
end Go.Am

/-
  THE ABSTRACT MACHINE: maps; texts out of bytes.
-/
namespace Go.Am
open Go.MapKept

section
variable {P : Program}
variable {dst : Option Tmp} {type : TypeId} {pos : String} {after : Array Edge} {guard : Option (Nat × Bool)}

theorem op_bytesToStr {src to e : TypeId} (h1 : P.underlying src = some (.slice e)) (h2 : P.underlying to = some .string) (h3 : P.underlying e = some (.int .u8)) {x : Operand} {x' : Opd} (hx : compOpd P x = some x') :
    OpSound P ⟨dst, .convert src to x, type, pos, after, guard⟩ (.bytesToStr x') := by
  intro ms tm ρ μ s s' v w hi hr i hs hle
  have rx := hr x x' hx
  have run : ∀ a n c, ρ x = .slice a n c → ∀ y, (Conv.bytesToString (.slice a n c)).run P w = .ok y w → (execOp ρ ⟨dst, .convert src to x, type, pos, after, guard⟩).run P w = .ok (.value y) w := by
    intro a n c hX y hy
    simp only [execOp, Sem.run_bind, convert, run_underlying h1, run_underlying h2, Result.andThen_ok, hX]
    cases a <;> simp [run_underlying h3, hy]
  simp only [aop] at hs
  split at hs
  · rename_i e1
    rw [e1] at rx
    generalize hX : ρ x = X at rx
    cases hs
    cases rx
    exact .same i.rel (run _ _ _ hX _ (by simp [Conv.bytesToString])) (.str _)
  · rename_i g i0 u n m e1
    rw [e1] at rx
    generalize hX : ρ x = X at rx
    cases hkk : Nat.beq (m / 2) 1 with
    | false => simp [hkk] at hs
    | true =>
      simp only [hkk, cond_true] at hs
      have hk1 := Nat.eq_of_beq_eq_true hkk
      cases rx with
      | sl q1 q2 q3 q4 q5 q6 =>
        rename_i a c l
        cases h0 : Nat.beq n 0 with
        | true =>
          simp only [h0, cond_true] at hs
          cases hs
          have := Nat.eq_of_beq_eq_true h0
          subst this
          refine .same i.rel (run _ _ _ hX _ ?_) (.str _)
          have := run_bytesToString (P := P) w a 0 c [] (by simp [loadCells, loadCellsFrom])
          simpa using this
        | false =>
          simp only [h0, cond_false] at hs
          have hn0 : n ≠ 0 := fun e => by subst e; simp at h0
          split at hs <;> try cases hs
          rename_i xs hxs
          split at hs <;> cases hs
          rename_i b hb
          obtain ⟨ha, _⟩ := q5 (by omega)
          subst ha
          obtain ⟨r1, r2, ys, r3, r4⟩ := readCells_rel i.rel hxs q1
          obtain ⟨b1, b2, b3⟩ := bytesOf_spec hb
          let ns : List Int := xs.map fun x => match x with | .int _ n => n | _ => 0
          have hys : ys = ns.map (Value.int .u8) := by
            apply List.ext_getElem?
            intro j
            cases hj : xs[j]? with
            | none =>
              have : ys[j]? = none := by
                rw [List.getElem?_eq_none_iff] at hj ⊢
                rw [← r3.1]; exact hj
              simp [ns, hj, this]
            | some x =>
              obtain ⟨y, hy, hv⟩ := r3.get hj
              obtain ⟨nn, rfl⟩ := b2 x (List.mem_of_getElem? hj)
              have := scal_rel hv rfl
              subst this
              simp [ns, hj, hy]
          have hlen : ys.length = n := by rw [← r3.1, r1]
          have hload := run_loadCells_list (P := P) w _ ys r4
          rw [hlen] at hload
          have hres := run_bytesToString (P := P) w _ n c ns (by rw [hload, hys])
          refine .same i.rel (run _ _ _ hX _ ?_) (.str _)
          rw [hres, foldl_push_bytes]
          congr 2
          have e1 : b = ns.map fun n => UInt8.ofNat n.toNat := by
            rw [b3]
            simp only [ns, List.map_map]
            apply List.map_congr_left
            intro x hx
            obtain ⟨nn, rfl⟩ := b2 x hx
            rfl
          rw [e1]
          simp
  · cases hs

-- maps
def basicD : TypeDesc → Bool
  | .bool => true
  | .int _ => true
  | .string => true
  | _ => false
theorem ckAt_desc {t : TypeId} {c : CK} (h : ckAt P t = some c) : ∃ d, P.underlying t = some d ∧ basicD d = true ∧ ∀ x y, isKey c x = true → Instr.sameNow d x y = keyEq c x y := by
  unfold ckAt at h
  cases hd : P.underlying t with
  | none => simp [hd] at h
  | some d =>
    refine ⟨d, rfl, ?_, ?_⟩
    · cases d <;> simp [hd] at h <;> rfl
    · intro x y hx
      cases d <;> simp [hd] at h <;> subst h <;> cases x <;> simp [isKey] at hx <;> cases y <;> simp [Instr.sameNow, keyEq]
theorem checkKey_run {kt : TypeId} {d : TypeDesc} (hd : P.underlying kt = some d) (hb : basicD d = true) (e : Bool) (n : Nat) (k : Value) (w : World) : (Instr.checkKey e (n + 1) kt k).run P w = .ok () w := by
  unfold Instr.checkKey
  simp only [Sem.run_bind, run_underlying hd, Result.andThen_ok]
  cases d <;> simp [basicD] at hb <;> simp
theorem stays_run {k : Value} (h : isScal k = true) (w : World) : (Instr.keyThatStays k k).run P w = .ok k w := by
  have : Instr.sameBits 10000 k k = true := by cases k <;> simp [isScal] at h <;> simp [Instr.sameBits, bytes_beq]
  simp [Instr.keyThatStays, this]
theorem getObj_map {w : World} {r : Nat} {ES : Array MapEntry} {clock : Nat} (hb : w.heap[r]? = some (.map ES clock)) : (getObj r).run P w = .ok (.map ES clock) w := by
  simp [getObj, Sem.run, hb]
theorem setObj_map {w : World} {r : Nat} {ES : Array MapEntry} {clock : Nat} (o : Obj) (hb : w.heap[r]? = some (.map ES clock)) : (setObj r o).run P w = .ok () (setBlock w r o) := by
  simp [setObj, Sem.run, hb, setBlock]
theorem findKey_of {w : World} {kt : TypeId} {d : TypeDesc} {k : Value} {l : List MapEntry} {a : Option (Nat × Value)} (hd : P.underlying kt = some d) (h : Instr.findNow d k l 0 = some a) : (Instr.findKey kt k l).run P w = .ok a w := by
  simp [Instr.findKey, run_underlying hd, h]

theorem keyEq_true {c : CK} {x y : Value} (h : keyEq c x y = some true) : x = y := by
  cases c <;> cases x <;> cases y <;> simp [keyEq] at h
  · rename_i k a k' b
    cases hk : decide (k = k') <;> simp [hk] at h
    simp at hk
    rw [hk, h]
  · rename_i a b
    rw [(bytes_beq a b).mp h]
  · rw [h]

theorem findKey_run {μ : Mu} {ck : CK} {d : TypeDesc} (hd : ∀ x y, isKey ck x = true → Instr.sameNow d x y = keyEq ck x y) {k : Value} (hk : isKey ck k = true) :
    ∀ (es : List (Value × Value × Nat)) (ES : List MapEntry) (n : Nat) (r : Option (Nat × Value × Nat)), es.length = ES.length →
      (∀ (i : Nat) (e : Value × Value × Nat) (E : MapEntry), es[i]? = some e → ES[i]? = some E → EntRel μ e E) → findKey ck k es n = .ok r →
      match r with
      | none => Instr.findNow d k ES n = some none
      | some (i, v, b) => ∃ j E, i = n + j ∧ es[j]? = some (k, v, b) ∧ ES[j]? = some E ∧ E.key = k ∧ E.born = b ∧ VRel μ v E.val ∧ Instr.findNow d k ES n = some (some (i, E.val))
  | [], [], n, r, _, _, h => by simp [findKey] at h; subst h; rfl
  | [], _ :: _, n, r, hl, _, h => by simp at hl
  | _ :: _, [], n, r, hl, _, h => by simp at hl
  | (k', v, b) :: es, E :: ES, n, r, hl, hr, h => by
    obtain ⟨e1, e2, e3, e4⟩ := hr 0 _ _ rfl rfl
    simp only at e1 e2 e3 e4
    simp only [findKey] at h
    split at h
    · cases h
      rename_i hq
      have := keyEq_true hq
      subst this
      refine ⟨0, E, rfl, rfl, rfl, e1, e4, e3, ?_⟩
      simp [Instr.findNow, e1, hd _ _ hk, hq]
    · rename_i hq
      have ih := findKey_run hd hk es ES (n + 1) r (by simpa using hl) (fun i e E h1 h2 => hr (i + 1) e E (by simpa using h1) (by simpa using h2)) h
      cases r with
      | none => simp [Instr.findNow, e1, hd _ _ hk, hq, ih]
      | some p =>
        obtain ⟨i, v', b'⟩ := p
        obtain ⟨j, E', a1, a2, a3, a4, a5, a6, a7⟩ := ih
        refine ⟨j + 1, E', by omega, by simpa using a2, by simpa using a3, a4, a5, a6, ?_⟩
        simp [Instr.findNow, e1, hd _ _ hk, hq, a7]
    · cases h

theorem getMap_spec {s : St} {g : Nat} {es : List (Value × Value × Nat)} {clock : Nat} (h : getMap s g = .ok (es, clock)) : s.heap.get g = some (.map es clock) := by
  unfold getMap at h
  split at h <;> cases h
  assumption

/-- A map is written. -/
theorem map_step {μ : Mu} {s : St} {w : World} {hi : Nat} (i : Inv μ s.heap s.next hi w) {g : Nat} {es es' : List (Value × Value × Nat)} {clock clock' : Nat} (hg : s.heap.get g = some (.map es clock)) {l : Loc} (hl : μ g 0 = some l)
    {ES' : Array MapEntry} (hs : ES'.size = es'.length) (hr : ∀ (i : Nat) (e : Value × Value × Nat) (E : MapEntry), es'[i]? = some e → ES'[i]? = some E → EntRel μ e E) :
    StepR μ s.heap s.next w μ (setMap s g es' clock').heap s.next (setBlock w l.b (.map ES' clock')) ∧ StRel s (setMap s g es' clock') := by
  obtain ⟨ES, hE, _⟩ := i.rel.obj g _ hg l hl
  have own : Owns μ s.heap g l.b := ⟨_, 0, l, hg, rfl, hl, rfl⟩
  refine ⟨?_, .write s g _⟩
  refine step_obj i hg (.refl μ) (fun _ _ _ => rfl) (setBlock_only _ _ _ fun Cx ex fx hx' => by rw [hE] at hx'; cases hx') (fun b hb hno => setBlock_ne _ _ (fun e => hno (e ▸ own))) (fun v l' h => i.rel.fit g v l' h) ?_ ?_
  · intro l' hl'
    have : l' = l := Option.some.inj (hl'.symm.trans hl)
    subst this
    exact ⟨ES', setBlock_get _ _ _ (heap_lt hE), hs, hr⟩
  · intro v l' hv hl'
    cases (hv : v = 0)
    have : l' = l := Option.some.inj (hl'.symm.trans hl)
    subst this
    exact .inl own

theorem op_mkMap {t : TypeId} : OpSound P ⟨dst, .makeMap t none, type, pos, after, guard⟩ .mkMap := by
  intro ms tm ρ μ s s' v w hi hr i hs hle
  simp only [aop] at hs
  cases hs
  have hlt : s.next < hi := hle
  have hnone : μ s.next 0 = none := i.fresh _ _ (Nat.le_refl _) hlt
  have at_ : ∀ u lu, muSet μ s.next 0 ⟨w.heap.size, 0, 0⟩ s.next u = some lu → u = 0 ∧ lu = ⟨w.heap.size, 0, 0⟩ := fun u lu hu => by
    by_cases huv : u = 0
    · subst huv; rw [muSet_same] at hu; cases hu; exact ⟨rfl, rfl⟩
    · rw [muSet_ne_v _ _ huv, i.fresh _ _ (Nat.le_refl _) hlt] at hu; cases hu
  have st : StepR μ s.heap s.next w (muSet μ s.next 0 ⟨w.heap.size, 0, 0⟩) (s.heap.set s.next (.map [] 0)) (s.next + 1) (w.alloc (.map #[] 0)) := by
    refine step_name i hlt (fun g' v e => muSet_ne _ _ e) (pushed_only _ _) (fun b hb => pushed_old _ _ hb) (fun u lu hu => by obtain ⟨rfl, rfl⟩ := at_ u lu hu; simp) ?_ ?_
    · intro l hl
      obtain ⟨_, rfl⟩ := at_ 0 l hl
      exact ⟨#[], pushed_get _ _, rfl, fun i e E h => by simp at h⟩
    · intro u lu _ hu
      obtain ⟨_, rfl⟩ := at_ u lu hu
      exact Nat.le_refl _
  refine .of (.map (some w.heap.size)) _ _ ?_ ?_ st (.alloc s _)
  · simp [execOp, Instr.makeMap]
  · exact .map (l := ⟨w.heap.size, 0, 0⟩) (muSet_same _ _ _ _)

theorem op_mkMapN {t : TypeId} {kt et : TypeId} (ht : P.underlying t = some (.map kt et)) {k : IntKind} {n : Int} : OpSound P ⟨dst, .makeMap t (some (.const (.int k n))), type, pos, after, guard⟩ .mkMap := by
  intro ms tm ρ μ s s' v w hi hr i hs hle
  obtain ⟨⟨nv, vc, w', μ', h1, h2, h3, h4⟩, h5⟩ := (op_mkMap (P := P) (dst := dst) (type := type) (pos := pos) (after := after) (guard := guard) (t := t)) ms tm ρ μ s s' v w hi hr i hs hle
  refine ⟨⟨nv, vc, w', μ', ?_, h2, h3, h4⟩, h5⟩
  rw [← h1]
  have hc : ρ (.const (.int k n)) = .int k n := by
    have := hr (.const (.int k n)) (.const (.int k n)) (by simp [compOpd, plain1, plain])
    exact scal_rel this rfl
  simp [execOp, Instr.makeMap, run_underlying ht, hc, asInt, asIntOf]

theorem key_scal {ck : CK} {x : Value} (h : isKey ck x = true) : isScal x = true := by cases ck <;> cases x <;> simp [isKey] at h <;> rfl

theorem op_lookup {t kt et : TypeId} (ht : P.underlying t = some (.map kt et)) {ck : CK} (hck : ckAt P kt = some ck) {z : Value} (hz : zeroOf P et = some z) {ok : Bool} {m k : Operand} {m' k' : Opd}
    (hm : compOpd P m = some m') (hk : compOpd P k = some k') : OpSound P ⟨dst, .lookup t m k ok, type, pos, after, guard⟩ (.lookup ck z ok m' k') := by
  intro ms tm ρ μ s s' v w hi hr i hs hle
  have rm := hr m m' hm
  have rk := hr k k' hk
  obtain ⟨d, hd, hkey, hsame⟩ := ckAt_desc hck
  obtain ⟨hzr, hzp⟩ := run_zeroOf hz w
  simp only [aop] at hs
  cases hik : isKey ck (opd tm k') with
  | false => simp [hik] at hs
  | true =>
    simp only [hik, Bool.not_true, cond_false] at hs
    have ek : ρ k = opd tm k' := scal_rel rk (key_scal hik)
    have hcheck : ∀ b, (Instr.checkKey b 10000 kt (ρ k)).run P w = .ok () w := fun b => checkKey_run hd hkey b 9999 _ w
    have fin : ∀ (V : Value) (VC : Value), VRel μ V VC → ∀ b : Bool, VRel μ (bif ok then .tuple #[V, .bool b] else V) (if ok = true then .tuple #[VC, .bool b] else VC) := by
      intro V VC h b
      cases ok with
      | true => exact .tuple rfl (LRel.cons h (.cons (.bool b) (.nil μ))).2
      | false => exact h
    split at hs
    · rename_i e1
      cases hs
      rw [e1] at rm
      generalize hM : ρ m = M at rm
      cases rm
      refine .same i.rel ?_ (fin z z (plain1_rel hzp) false)
      have hf : (Instr.findKey kt (ρ k) ([] : List MapEntry)).run P w = .ok none w := findKey_of hd rfl
      simp [execOp, hM, Instr.lookup, run_underlying ht, hcheck, hf, hzr]
    · rename_i g e1
      rw [e1] at rm
      generalize hM : ρ m = M at rm
      cases rm with
      | map hl =>
        rename_i l
        split at hs <;> try cases hs
        rename_i es clock hgm
        have hg := getMap_spec hgm
        obtain ⟨ES, hE, hsz, hent⟩ := i.rel.obj g _ hg l hl
        split at hs <;> cases hs
        · rename_i ii v' b hfk
          have := findKey_run (μ := μ) hsame hik es ES.toList 0 _ (by simpa using hsz.symm) (fun i e E h1 h2 => hent i e E h1 (by simpa using h2)) hfk
          obtain ⟨j, E, a1, a2, a3, a4, a5, a6, a7⟩ := this
          refine .same i.rel ?_ (fin v' E.val a6 true)
          have hf : (Instr.findKey kt (ρ k) ES.toList).run P w = .ok (some (ii, E.val)) w := by rw [ek]; exact findKey_of hd a7
          simp [execOp, hM, Instr.lookup, run_underlying ht, getObj_map hE, hcheck, hf]
        · rename_i hfk
          have := findKey_run (μ := μ) hsame hik es ES.toList 0 _ (by simpa using hsz.symm) (fun i e E h1 h2 => hent i e E h1 (by simpa using h2)) hfk
          refine .same i.rel ?_ (fin z z (plain1_rel hzp) false)
          have hf : (Instr.findKey kt (ρ k) ES.toList).run P w = .ok none w := by rw [ek]; exact findKey_of hd this
          simp [execOp, hM, Instr.lookup, run_underlying ht, getObj_map hE, hcheck, hf, hzr]
    · cases hs

theorem ent_modify {μ : Mu} {es : List (Value × Value × Nat)} {ES : Array MapEntry} (hsz : ES.size = es.length)
    (hent : ∀ (i : Nat) (e : Value × Value × Nat) (E : MapEntry), es[i]? = some e → ES[i]? = some E → EntRel μ e E) {j : Nat} {e' : Value × Value × Nat} {f : MapEntry → MapEntry}
    (h : ∀ E, ES[j]? = some E → EntRel μ e' (f E)) : (ES.modify j f).size = (lset es j e').length ∧
      ∀ (i : Nat) (e : Value × Value × Nat) (E : MapEntry), (lset es j e')[i]? = some e → (ES.modify j f)[i]? = some E → EntRel μ e E := by
  rw [lset_eq]
  refine ⟨by simp [hsz], fun i e E h1 h2 => ?_⟩
  rw [Array.getElem?_modify] at h2
  by_cases hij : j = i
  · subst hij
    rw [if_pos rfl] at h2
    cases hE : ES[j]? with
    | none => simp [hE] at h2
    | some E0 =>
      simp [hE] at h2
      have hj : j < es.length := by
        rcases Nat.lt_or_ge j es.length with h | h
        · exact h
        · rw [← hsz] at h; simp [Array.getElem?_eq_none h] at hE
      rw [List.getElem?_set_self hj] at h1
      cases h1
      rw [← h2]
      exact h E0 hE
  · rw [if_neg hij] at h2
    rw [List.getElem?_set_ne hij] at h1
    exact hent i e E h1 h2
theorem ent_push {μ : Mu} {es : List (Value × Value × Nat)} {ES : Array MapEntry} (hsz : ES.size = es.length)
    (hent : ∀ (i : Nat) (e : Value × Value × Nat) (E : MapEntry), es[i]? = some e → ES[i]? = some E → EntRel μ e E) {e' : Value × Value × Nat} {E' : MapEntry} (h : EntRel μ e' E') :
    (ES.push E').size = (es ++ [e']).length ∧ ∀ (i : Nat) (e : Value × Value × Nat) (E : MapEntry), (es ++ [e'])[i]? = some e → (ES.push E')[i]? = some E → EntRel μ e E := by
  refine ⟨by simp [hsz], fun i e E h1 h2 => ?_⟩
  rw [Array.getElem?_push] at h2
  by_cases hi : i = ES.size
  · rw [if_pos hi] at h2
    cases h2
    rw [List.getElem?_append_right (by omega), show i - es.length = 0 by omega] at h1
    simp at h1
    rw [← h1]; exact h
  · rw [if_neg hi] at h2
    have hlt : i < ES.size := by
      rcases Nat.lt_or_ge i ES.size with h | h
      · exact h
      · simp [Array.getElem?_eq_none h] at h2
    rw [List.getElem?_append_left (by omega)] at h1
    exact hent i e E h1 h2

theorem mapSet_run {t kt et : TypeId} (ht : P.underlying t = some (.map kt et)) {ck : CK} (hck : ckAt P kt = some ck) {μ : Mu} {s s' : St} {w : World} {hi : Nat} (i : Inv μ s.heap s.next hi w)
    {M K V m k x : Value} (rm : VRel μ m M) (rk : VRel μ k K) (rv : VRel μ x V) (hik : isKey ck k = true) {g : Nat} (hm : m = .map (some g)) {es : List (Value × Value × Nat)} {clock : Nat} (hgm : getMap s g = .ok (es, clock))
    (h : (match findKey ck k es 0 with | .ok (some (i, _, b)) => R.ok (setMap s g (lset es i (k, x, b)) clock) | .ok none => .ok (setMap s g (es ++ [(k, x, clock)]) (clock + 1)) | .no w => .no w) = .ok s') :
    ∃ w', (Instr.mapUpdate t M K V).run P w = .ok () w' ∧ StepR μ s.heap s.next w μ s'.heap s'.next w' ∧ StRel s s' := by
  obtain ⟨d, hd, hkey, hsame⟩ := ckAt_desc hck
  have ek : K = k := scal_rel rk (key_scal hik)
  subst hm ek
  have hcheck : (Instr.checkKey false 10000 kt K).run P w = .ok () w := checkKey_run hd hkey false 9999 _ w
  cases rm with
  | map hl =>
    rename_i l
    have hg := getMap_spec hgm
    obtain ⟨ES, hE, hsz, hent⟩ := i.rel.obj g _ hg l hl
    split at h <;> cases h
    · rename_i ii v' b hfk
      obtain ⟨j, E, a1, a2, a3, a4, a5, a6, a7⟩ := findKey_run (μ := μ) hsame hik es ES.toList 0 _ (by simpa using hsz.symm) (fun i e E h1 h2 => hent i e E h1 (by simpa using h2)) hfk
      have hij : ii = j := by omega
      subst hij
      have hEj : ES[ii]? = some E := by simpa using a3
      obtain ⟨m1, m2⟩ := ent_modify hsz hent (j := ii) (e' := (K, x, b)) (f := fun e => { e with key := K, val := V }) (fun E0 hE0 => by
        rw [hEj] at hE0; cases hE0
        exact ⟨rfl, key_scal hik, rv, a5⟩)
      obtain ⟨st, sr⟩ := map_step i hg hl (clock' := clock) m1 m2
      refine ⟨_, ?_, st, sr⟩
      have hf : (Instr.findKey kt K ES.toList).run P w = .ok (some (ii, E.val)) w := findKey_of hd a7
      have hks := stays_run (P := P) (key_scal hik) w
      simp [Instr.mapUpdate, run_underlying ht, getObj_map hE, hcheck, hf, hEj, a4, hks, setObj_map _ hE]
    · rename_i hfk
      have hn := findKey_run (μ := μ) hsame hik es ES.toList 0 _ (by simpa using hsz.symm) (fun i e E h1 h2 => hent i e E h1 (by simpa using h2)) hfk
      obtain ⟨m1, m2⟩ := ent_push hsz hent (e' := (K, x, clock)) (E' := { key := K, val := V, born := clock }) ⟨rfl, key_scal hik, rv, rfl⟩
      obtain ⟨st, sr⟩ := map_step i hg hl (clock' := clock + 1) m1 m2
      refine ⟨_, ?_, st, sr⟩
      have hf : (Instr.findKey kt K ES.toList).run P w = .ok none w := findKey_of hd hn
      simp [Instr.mapUpdate, run_underlying ht, getObj_map hE, hcheck, hf, setObj_map _ hE]

theorem aop_mapSet {ms : Meths} {tm : T Value} {ck : CK} {m k x : Opd} {s s' : St} {v : Value} (h : aop ms tm (.mapSet ck m k x) s = .ok (.val v s')) :
    v = undef ∧ isKey ck (opd tm k) = true ∧ ∃ g es clock, opd tm m = .map (some g) ∧ getMap s g = .ok (es, clock) ∧
      (match findKey ck (opd tm k) es 0 with | .ok (some (i, _, b)) => R.ok (setMap s g (lset es i (opd tm k, opd tm x, b)) clock) | .ok none => .ok (setMap s g (es ++ [(opd tm k, opd tm x, clock)]) (clock + 1)) | .no w => .no w) = .ok s' := by
  simp only [aop] at h
  cases hik : isKey ck (opd tm k) with
  | false => simp [hik] at h
  | true =>
    simp only [hik, Bool.not_true, cond_false] at h
    split at h <;> try cases h
    rename_i g e1
    split at h <;> try cases h
    rename_i es clock hgm
    split at h <;> cases h
    · rename_i hfk
      exact ⟨rfl, rfl, g, es, clock, e1, hgm, by rw [hfk]⟩
    · rename_i hfk
      exact ⟨rfl, rfl, g, es, clock, e1, hgm, by rw [hfk]⟩

theorem op_mapUpdate {t kt et : TypeId} (ht : P.underlying t = some (.map kt et)) {ck : CK} (hck : ckAt P kt = some ck) {m k x : Operand} {m' k' x' : Opd}
    (hm : compOpd P m = some m') (hk : compOpd P k = some k') (hx : compOpd P x = some x') : OpSound P ⟨dst, .mapUpdate t m k x, type, pos, after, guard⟩ (.mapSet ck m' k' x') := by
  intro ms tm ρ μ s s' v w hi hr i hs hle
  obtain ⟨rfl, hik, g, es, clock, e1, hgm, hh⟩ := aop_mapSet hs
  obtain ⟨w', h1, h2, h3⟩ := mapSet_run (P := P) ht hck i (hr m m' hm) (hr k k' hk) (hr x x' hx) hik e1 hgm hh
  exact .skip w' μ (by simp [execOp, h1]) h2 h3
theorem op_insert {t kt et : TypeId} (ht : P.underlying t = some (.map kt et)) {ck : CK} (hck : ckAt P kt = some ck) {m k x : Operand} {m' k' x' : Opd}
    (hm : compOpd P m = some m') (hk : compOpd P k = some k') (hx : compOpd P x = some x') : OpSound P ⟨dst, .insert t m k x, type, pos, after, guard⟩ (.mapSet ck m' k' x') := by
  intro ms tm ρ μ s s' v w hi hr i hs hle
  obtain ⟨rfl, hik, g, es, clock, e1, hgm, hh⟩ := aop_mapSet hs
  obtain ⟨w', h1, h2, h3⟩ := mapSet_run (P := P) ht hck i (hr m m' hm) (hr k k' hk) (hr x x' hx) hik e1 hgm hh
  exact .skip w' μ (by simp [execOp, h1]) h2 h3

theorem op_lenMap {x : Operand} {x' : Opd} (hx : compOpd P x = some x') {t kt et : TypeId} (ht : P.underlying t = some (.map kt et)) :
    OpSound P ⟨dst, .call { callee := .builtin .len, args := #[x], argTypes := #[t] }, type, pos, after, guard⟩ (.lenMap x') := by
  intro ms tm ρ μ s s' v w hi hr i hs hle
  have rx := hr x x' hx
  simp only [aop] at hs
  split at hs
  · rename_i e1
    cases hs
    rw [e1] at rx
    generalize hX : ρ x = X at rx
    cases rx
    exact .same i.rel (vc := .int .i64 0) (by simp [execOp, resolve, invoke, BigFrame.builtin_len, hX, Builtin.len_, run_underlying ht, goInt]) (.int _ _)
  · rename_i g e1
    rw [e1] at rx
    generalize hX : ρ x = X at rx
    cases rx with
    | map hl =>
      rename_i l
      split at hs <;> cases hs
      rename_i es clock hgm
      have hg := getMap_spec hgm
      obtain ⟨ES, hE, hsz, hent⟩ := i.rel.obj g _ hg l hl
      exact .same i.rel (by simp [execOp, resolve, invoke, BigFrame.builtin_len, hX, Builtin.len_, run_underlying ht, getObj_map hE, goInt, hsz]) (.int _ _)
  · cases hs

theorem op_clearMap {x : Operand} {x' : Opd} (hx : compOpd P x = some x') {t kt et : TypeId} (ht : P.underlying t = some (.map kt et)) :
    OpSound P ⟨dst, .call { callee := .builtin .clear, args := #[x], argTypes := #[t] }, type, pos, after, guard⟩ (.clearMap x') := by
  intro ms tm ρ μ s s' v w hi hr i hs hle
  have rx := hr x x' hx
  simp only [aop] at hs
  split at hs
  · rename_i e1
    cases hs
    rw [e1] at rx
    generalize hX : ρ x = X at rx
    cases rx
    exact .same i.rel (vc := .tuple #[]) (by simp [execOp, resolve, invoke, BigFrame.builtin_clear, hX, Builtin.clear_, run_underlying ht]) (undef_rel μ)
  · rename_i g e1
    rw [e1] at rx
    generalize hX : ρ x = X at rx
    cases rx with
    | map hl =>
      rename_i l
      split at hs <;> cases hs
      rename_i es clock hgm
      have hg := getMap_spec hgm
      obtain ⟨ES, hE, hsz, hent⟩ := i.rel.obj g _ hg l hl
      obtain ⟨st, sr⟩ := map_step i hg hl (es' := []) (clock' := clock) (ES' := #[]) rfl (fun i e E h => by simp at h)
      exact .of (.tuple #[]) _ μ (by simp [execOp, resolve, invoke, BigFrame.builtin_clear, hX, Builtin.clear_, run_underlying ht, getObj_map hE, setObj_map _ hE]) (undef_rel μ) st sr
  · cases hs

theorem op_delete {t kt et tk : TypeId} (ht : P.underlying t = some (.map kt et)) {ck : CK} (hck : ckAt P kt = some ck) {m k : Operand} {m' k' : Opd}
    (hm : compOpd P m = some m') (hk : compOpd P k = some k') :
    OpSound P ⟨dst, .call { callee := .builtin .delete, args := #[m, k], argTypes := #[t, tk] }, type, pos, after, guard⟩ (.delete ck m' k') := by
  intro ms tm ρ μ s s' v w hi hr i hs hle
  have rm := hr m m' hm
  have rk := hr k k' hk
  obtain ⟨d, hd, hkey, hsame⟩ := ckAt_desc hck
  simp only [aop] at hs
  cases hik : isKey ck (opd tm k') with
  | false => simp [hik] at hs
  | true =>
    simp only [hik, Bool.not_true, cond_false] at hs
    have ek : ρ k = opd tm k' := scal_rel rk (key_scal hik)
    have hcheck : ∀ b, (Instr.checkKey b 10000 kt (ρ k)).run P w = .ok () w := fun b => checkKey_run hd hkey b 9999 _ w
    split at hs
    · rename_i e1
      cases hs
      rw [e1] at rm
      generalize hM : ρ m = M at rm
      cases rm
      exact .same i.rel (vc := .tuple #[]) (by simp [execOp, resolve, invoke, BigFrame.builtin_delete, hM, Builtin.delete_, run_underlying ht, hcheck]) (undef_rel μ)
    · rename_i g e1
      rw [e1] at rm
      generalize hM : ρ m = M at rm
      cases rm with
      | map hl =>
        rename_i l
        split at hs <;> try cases hs
        rename_i es clock hgm
        have hg := getMap_spec hgm
        obtain ⟨ES, hE, hsz, hent⟩ := i.rel.obj g _ hg l hl
        split at hs <;> cases hs
        · rename_i ii v' b hfk
          obtain ⟨j, E, a1, a2, a3, a4, a5, a6, a7⟩ := findKey_run (μ := μ) hsame hik es ES.toList 0 _ (by simpa using hsz.symm) (fun i e E h1 h2 => hent i e E h1 (by simpa using h2)) hfk
          have hij : ii = j := by omega
          subst hij
          have hlt : ii < ES.size := by
            rcases Nat.lt_or_ge ii ES.size with h | h
            · exact h
            · have : ES.toList[ii]? = none := List.getElem?_eq_none (by simpa using h)
              rw [this] at a3; cases a3
          have hlist : (ES.eraseIdxIfInBounds ii).toList = ES.toList.take ii ++ ES.toList.drop (ii + 1) := by
            unfold Array.eraseIdxIfInBounds
            rw [dif_pos hlt, Array.toList_eraseIdx, List.eraseIdx_eq_take_drop_succ]
          obtain ⟨st, sr⟩ := map_step i hg hl (es' := es.take ii ++ es.drop (ii + 1)) (clock' := clock) (ES' := ES.eraseIdxIfInBounds ii) (by
              rw [← Array.length_toList, hlist]; simp [hsz]) (fun q e E h1 h2 => by
              rw [← Array.getElem?_toList, hlist] at h2
              by_cases hq : q < ii
              · rw [List.getElem?_append_left (by simp; omega), List.getElem?_take_of_lt hq] at h1 h2
                exact hent q e E h1 (by simpa using h2)
              · rw [List.getElem?_append_right (by simp; omega), List.getElem?_drop] at h1 h2
                have e1 : (es.take ii).length = ii := by simp; omega
                have e2 : (ES.toList.take ii).length = ii := by simp; omega
                rw [e1] at h1
                rw [e2] at h2
                exact hent _ e E h1 (by simpa using h2))
          have hf : (Instr.findKey kt (ρ k) ES.toList).run P w = .ok (some (ii, E.val)) w := by rw [ek]; exact findKey_of hd a7
          exact .of (.tuple #[]) _ μ (by simp [execOp, resolve, invoke, BigFrame.builtin_delete, hM, Builtin.delete_, run_underlying ht, getObj_map hE, hcheck, hf, setObj_map _ hE]) (undef_rel μ) st sr
        · rename_i hfk
          have hn := findKey_run (μ := μ) hsame hik es ES.toList 0 _ (by simpa using hsz.symm) (fun i e E h1 h2 => hent i e E h1 (by simpa using h2)) hfk
          have hf : (Instr.findKey kt (ρ k) ES.toList).run P w = .ok none w := by rw [ek]; exact findKey_of hd hn
          have hself : setBlock w l.b (.map ES clock) = w := setBlock_self hE
          refine .same i.rel (vc := .tuple #[]) ?_ (undef_rel μ)
          simp [execOp, resolve, invoke, BigFrame.builtin_delete, hM, Builtin.delete_, run_underlying ht, getObj_map hE, hcheck, hf, setObj_map _ hE]
          exact hself
    · cases hs
end
end Go.Am

/-
  THE ABSTRACT MACHINE: copies of maps; texts that are ranged over; calls.
-/
namespace Go.Am
open Go.MapKept

section
variable {P : Program}
variable {dst : Option Tmp} {type : TypeId} {pos : String} {after : Array Edge} {guard : Option (Nat × Bool)}

theorem func_rho {μ : Mu} {tm : T Value} {ρ : Operand → Value} (hr : ORels P μ tm ρ) (f : FuncId) : ρ (.func f) = .func (.func f) #[] #[] := by
  have h := hr (.func f) (.const (.func (.func f) #[] #[])) rfl
  generalize hX : ρ (.func f) = X at h
  simp only [opd] at h
  cases h with
  | func h1 _ h2 _ =>
    have e1 := List.eq_nil_of_length_eq_zero h1.symm
    have e2 := List.eq_nil_of_length_eq_zero h2.symm
    rw [e1, e2]

/-- A call comes to the call of a function. -/
def CallSound (P : Program) (o : Oper) (a : AOp) : Prop :=
  ∀ (ms : Meths) (tm : T Value) (ρ : Operand → Value) (μ : Mu) (s s' : St) (f : Nat) (args : List Value) (w : World), (∀ x ∈ ms, x ∈ methsOf P) →
    ORels P μ tm ρ → Rel μ s.heap w → aop ms tm a s = .ok (.call f args s') →
    s' = s ∧ ∃ argsc : List Value, (execOp ρ o).run P w = (callFunc f ⟨argsc⟩).run P w ∧ LRel μ args argsc

theorem op_call {f : FuncId} {args : Array Operand} {args' : List Opd} {ats : Array TypeId} (ha : compOpds P args.toList = some args') :
    CallSound P ⟨dst, .call { callee := .value (.func f), args, argTypes := ats }, type, pos, after, guard⟩ (.call f args') := by
  intro ms tm ρ μ s s' f' as w hms hr r h
  simp only [aop] at h
  cases h
  have ra := opds_rel hr ha
  refine ⟨rfl, args.toList.map ρ, ?_, ra⟩
  have e : (#[] ++ args.map ρ ++ #[] : Array Value) = ⟨args.toList.map ρ⟩ := by apply Array.ext'; simp
  simp only [execOp, Sem.run_bind, resolve, func_rho hr f, Deferred.ofValue, Sem.run_pure, Result.andThen_ok, invoke]
  rw [e]

theorem op_callV {t : Tmp} {args : Array Operand} {args' : List Opd} {ats : Array TypeId} (ha : compOpds P args.toList = some args') :
    CallSound P ⟨dst, .call { callee := .value (.tmp t), args, argTypes := ats }, type, pos, after, guard⟩ (.callV (.tmp t) args') := by
  intro ms tm ρ μ s s' f' as w hms hr r h
  have rt := hr (.tmp t) (.tmp t) rfl
  have ra := opds_rel hr ha
  simp only [aop] at h
  split at h <;> cases h
  rename_i fn first captured e1
  rw [e1] at rt
  generalize hX : ρ (.tmp t) = X at rt
  obtain ⟨xs⟩ := first
  obtain ⟨ys⟩ := captured
  cases rt with
  | func h1 h2 h3 h4 =>
    rename_i xs' ys'
    refine ⟨rfl, xs' ++ args.toList.map ρ ++ ys', ?_, (LRel.append ⟨h1, h2⟩ ra).append ⟨h3, h4⟩⟩
    have e : ((⟨xs'⟩ : Array Value) ++ args.map ρ ++ (⟨ys'⟩ : Array Value)) = ⟨xs' ++ args.toList.map ρ ++ ys'⟩ := by apply Array.ext'; simp
    simp only [execOp, Sem.run_bind, resolve, hX, Deferred.ofValue, Sem.run_pure, Result.andThen_ok, invoke]
    rw [e]

end
end Go.Am
