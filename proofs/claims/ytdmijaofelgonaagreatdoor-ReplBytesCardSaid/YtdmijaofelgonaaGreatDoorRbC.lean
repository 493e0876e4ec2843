/-
  ReplBytes: Below, of the program, on the abstract machine.
-/
import Derived.Test.YtdmijaofelgonaaGreatDoorRbB
namespace Go.Am.R1B
open Go Go.Am
variable {tab : Nat → Option AFn} {k : Nat} {s : St} {g : Nat} {b : ByteArray} {e : Int} {p : Nat}
theorem num_fits : ∀ (l : List UInt8) (i acc v k e : Nat), num l i acc = (v, k, e) → (e = 0 → i < k ∧ k ≤ i + l.length) ∧ (e ≠ 0 → v = 0 ∧ k = 0) ∧ (e = 0 ∨ e = 20 ∨ e = 21)
  | [], i, acc, v, k, e, h => by
    simp only [num, Prod.mk.injEq] at h
    obtain ⟨rfl, rfl, h⟩ := h
    split at h <;> exact ⟨fun h0 => by omega, fun _ => ⟨rfl, rfl⟩, by omega⟩
  | c :: r, i, acc, v, k, e, h => by
    simp only [num] at h
    split at h
    · simp only [Prod.mk.injEq] at h
      obtain ⟨rfl, rfl, rfl⟩ := h
      exact ⟨fun h0 => by omega, fun _ => ⟨rfl, rfl⟩, by omega⟩
    · split at h
      · obtain ⟨h1, h2, h3⟩ := num_fits r (i + 1) _ v k e h
        refine ⟨fun h0 => ?_, h2, h3⟩
        have := h1 h0
        simp only [List.length_cons]
        omega
      · split at h
        · simp only [Prod.mk.injEq] at h
          obtain ⟨rfl, rfl, rfl⟩ := h
          exact ⟨fun h0 => by omega, fun _ => ⟨rfl, rfl⟩, by omega⟩
        · simp only [Prod.mk.injEq] at h
          obtain ⟨rfl, rfl, rfl⟩ := h
          exact ⟨fun h0 => by simp only [List.length_cons]; omega, fun h0 => absurd rfl h0, by omega⟩
/-- A number taken: it, where the reader is, what went wrong. -/
def rdN (b : ByteArray) (p : Nat) (e : Int) : Nat × Nat × Int :=
  if e = 0 then ((num (b.data.toList.drop p) 0 0).1, p + (num (b.data.toList.drop p) 0 0).2.1, (num (b.data.toList.drop p) 0 0).2.2) else (0, p, e)
theorem rdN_err (he : e ≠ 0) : rdN b p e = (0, p, e) := by rw [rdN, if_neg he]
theorem rdN_le (hp : p ≤ b.size) : (rdN b p e).2.1 ≤ b.size ∧ ((rdN b p e).2.2 ≠ 0 → (rdN b p e).1 = 0 ∧ (rdN b p e).2.1 = p) := by
  by_cases he : e = 0
  · rw [rdN, if_pos he]
    rcases hN : num (b.data.toList.drop p) 0 0 with ⟨v, k, e'⟩
    obtain ⟨h1, h2, -⟩ := num_fits _ _ _ _ _ _ hN
    dsimp only
    rw [List.length_drop, size_list] at h1
    by_cases h0 : e' = 0
    · refine ⟨?_, fun h => absurd (by rw [h0]; rfl) h⟩
      have := h1 h0
      omega
    · obtain ⟨rfl, rfl⟩ := h2 h0
      exact ⟨by omega, fun _ => ⟨rfl, rfl⟩⟩
  · rw [rdN_err he]
    exact ⟨hp, fun _ => ⟨rfl, rfl⟩⟩
/-- What a reading leaves: the value, the reader. -/
def After (kd : IntKind) (g : Nat) (b : ByteArray) (s : St) (N : Nat × Nat × Int) (v : Value) (s' : St) : Prop := v = .int kd N.1 ∧ Rd s' g b N.2.1 N.2.2 ∧ Only g s s'
theorem run60n (hk : 10 < k) (ht : tab 60 = some (.code a60)) (h : Rd s g b p e) (hp : p ≤ b.size) (hb : b.size < 4611686018427387904) :
    ∃ v s', acall tab [] (k + 1) 60 [rp g] s = .ok (v, s') ∧ After .u64 g b s (rdN b p e) v s' := by
  by_cases he : e = 0
  · subst he
    obtain ⟨v, s', h1, h2, h3, h4⟩ := run60 (tab := tab) hk ht h hp hb
    refine ⟨v, s', h1, ?_, ?_, h4⟩
    · rw [h2]; rfl
    · exact h3
  · rw [rdN_err he]
    have h' := h
    obtain ⟨mv, hm, h⟩ := h
    refine call_of ht ?_
    repeat (first | ((first | apply r_op | apply r_opn | (apply dw_pure; exact rfl) | (apply dw_make; exact rfl) | apply dw_load); exact rfl; (first | exact o_mv rfl | exact o_nilCheck rfl | exact o_fieldAddr rfl | ((first | apply o_load | apply o_loadN); exact rfl; (focus repeat first | assumption | exact T.get_set_same .. | refine (T.get_set_ne _ _ (by omega)).trans ?_); omega; omega; first | exact rfl | assumption | exact nfl_ok rfl) | ((first | apply o_loadS | apply o_loadNS); exact rfl; assumption; omega; first | exact rfl | assumption | exact nfl_ok rfl) | (apply o_indexSl; exact rfl; exact rfl; omega; first | assumption | exact rfl) | exact o_lenStr rfl | exact o_lenSl rfl | exact o_pick_t rfl rfl | exact o_pick_f rfl rfl | (apply o_cmp_t; exact rfl; exact rfl; exact rfl; focus (dsimp only [cmpP]; first | done | omega)) | (apply o_cmp_f; exact rfl; exact rfl; exact rfl; focus (dsimp only [cmpP]; first | done | omega)) | ((first | apply o_add | apply o_sub | apply o_mul); exact rfl; exact rfl; omega; omega) | ((first | apply o_add_u | apply o_mul_u | apply o_sub_u | apply o_and127); exact rfl; exact rfl; omega; omega) | ((first | apply o_to_i64 | apply o_to_u64 | apply o_to_u8); exact rfl; omega; omega) | exact o_to_u8_mod rfl | (apply o_storeN; exact rfl; exact rfl; exact rfl; exact rfl; (focus repeat first | assumption | exact T.get_set_same .. | refine (T.get_set_ne _ _ (by omega)).trans ?_); omega; simp [vcells]; exact rfl) | exact o_build rfl rfl | (apply o_buildSlice; exact rfl; exact rfl; simp only [List.length_cons, List.length_nil, Nat.reduceAdd]; exact rfl) | (apply o_alloc; simp only [List.length_cons, List.length_nil, Nat.reduceAdd]; exact rfl) | (apply o_box; exact rfl; exact rfl; exact rfl; simp only [List.length_cons, List.length_nil, Nat.reduceAdd]; exact rfl) | exact o_strToBytes rfl | exact o_extract rfl rfl | exact o_field rfl rfl | exact o_not rfl | exact o_eqNil rfl rfl rfl rfl rfl | (apply o_indexStr; exact rfl; exact rfl; assumption) | exact o_mkFunc rfl rfl); iterate 2 try exact rfl) | refine r_skip rfl ?_ | refine dw_skip rfl ?_ | refine r_nil ?_ | refine d_nil ?_ | refine c_seq ?_ | refine c_region ?_ | refine q_seq ?_ | refine c_true rfl ?_ | refine c_false rfl ?_ | refine c_skip ?_ | refine c_ret ?_ | refine c_exit ?_ | refine c_block ?_ | refine c_draw ?_ | refine q_seq_ret ?_ | refine q_seq_exit ?_ | refine q_block ?_ | refine q_block_ret ?_ | refine q_block_here rfl ?_ | refine q_block_out rfl ?_ | refine q_loop_exit ?_ | refine q_loop_ret ?_)
    refine q_ret (l := [.int .u64 0]) ?_ ⟨rfl, h', only_refl _ _⟩
    repeat (first | exact .nil | refine .tmp rfl ?_)
/-- A number below another one. -/
def belN (b : ByteArray) (p : Nat) (e : Int) (n : Nat) : Nat × Nat × Int :=
  if (rdN b p e).2.2 = 0 ∧ n ≤ (rdN b p e).1 then (0, p, 22) else rdN b p e
theorem run26 (hk : 10 < k) (ht : tab 26 = some (.code a26)) (ht1 : tab 60 = some (.code a60)) (ht2 : tab 61 = some (.code a61)) (h : Rd s g b p e) (hp : p ≤ b.size) (hb : b.size < 4611686018427387904) {n : Nat} (hn : 0 < n) (hn2 : n < 4294967296) :
    ∃ v s', acall tab [] (k + 2) 26 [rp g, .int .i64 n] s = .ok (v, s') ∧ After .i64 g b s (belN b p e n) v s' := by
  obtain ⟨k', rfl⟩ : ∃ k', k = k' + 1 := ⟨k - 1, by omega⟩
  have h' := h
  obtain ⟨mv, hm, h⟩ := h
  refine call_of ht ?_
  repeat (first | ((first | apply r_op | apply r_opn | (apply dw_pure; exact rfl) | (apply dw_make; exact rfl) | apply dw_load); exact rfl; (first | exact o_mv rfl | exact o_nilCheck rfl | exact o_fieldAddr rfl | ((first | apply o_load | apply o_loadN); exact rfl; (focus repeat first | assumption | exact T.get_set_same .. | refine (T.get_set_ne _ _ (by omega)).trans ?_); omega; omega; first | exact rfl | assumption | exact nfl_ok rfl) | ((first | apply o_loadS | apply o_loadNS); exact rfl; assumption; omega; first | exact rfl | assumption | exact nfl_ok rfl) | (apply o_indexSl; exact rfl; exact rfl; omega; first | assumption | exact rfl) | exact o_lenStr rfl | exact o_lenSl rfl | exact o_pick_t rfl rfl | exact o_pick_f rfl rfl | (apply o_cmp_t; exact rfl; exact rfl; exact rfl; focus (dsimp only [cmpP]; first | done | omega)) | (apply o_cmp_f; exact rfl; exact rfl; exact rfl; focus (dsimp only [cmpP]; first | done | omega)) | ((first | apply o_add | apply o_sub | apply o_mul); exact rfl; exact rfl; omega; omega) | ((first | apply o_add_u | apply o_mul_u | apply o_sub_u | apply o_and127); exact rfl; exact rfl; omega; omega) | ((first | apply o_to_i64 | apply o_to_u64 | apply o_to_u8); exact rfl; omega; omega) | exact o_to_u8_mod rfl | (apply o_storeN; exact rfl; exact rfl; exact rfl; exact rfl; (focus repeat first | assumption | exact T.get_set_same .. | refine (T.get_set_ne _ _ (by omega)).trans ?_); omega; simp [vcells]; exact rfl) | exact o_build rfl rfl | (apply o_buildSlice; exact rfl; exact rfl; simp only [List.length_cons, List.length_nil, Nat.reduceAdd]; exact rfl) | (apply o_alloc; simp only [List.length_cons, List.length_nil, Nat.reduceAdd]; exact rfl) | (apply o_box; exact rfl; exact rfl; exact rfl; simp only [List.length_cons, List.length_nil, Nat.reduceAdd]; exact rfl) | exact o_strToBytes rfl | exact o_extract rfl rfl | exact o_field rfl rfl | exact o_not rfl | exact o_eqNil rfl rfl rfl rfl rfl | (apply o_indexStr; exact rfl; exact rfl; assumption) | exact o_mkFunc rfl rfl); iterate 2 try exact rfl) | refine r_skip rfl ?_ | refine dw_skip rfl ?_ | refine r_nil ?_ | refine d_nil ?_ | refine c_seq ?_ | refine c_region ?_ | refine q_seq ?_ | refine c_true rfl ?_ | refine c_false rfl ?_ | refine c_skip ?_ | refine c_ret ?_ | refine c_exit ?_ | refine c_block ?_ | refine c_draw ?_ | refine q_seq_ret ?_ | refine q_seq_exit ?_ | refine q_block ?_ | refine q_block_ret ?_ | refine q_block_here rfl ?_ | refine q_block_out rfl ?_ | refine q_loop_exit ?_ | refine q_loop_ret ?_)
  apply r_call
  · exact rfl
  · exact rfl
  · exact run60n hk ht1 h' hp hb
  rintro v s1 ⟨rfl, hrd, ho⟩
  have hle := (rdN_le (e := e) hp).2
  rw [belN]
  generalize rdN b p e = N at hrd hle ⊢
  obtain ⟨v, q, x⟩ := N
  dsimp only at hrd hle ⊢
  have hrd' := hrd
  obtain ⟨mv1, hm1, h1⟩ := hrd
  by_cases hx : x = 0
  · by_cases hv : n ≤ v
    · rw [if_pos ⟨hx, hv⟩]
      repeat (first | ((first | apply r_op | apply r_opn | (apply dw_pure; exact rfl) | (apply dw_make; exact rfl) | apply dw_load); exact rfl; (first | exact o_mv rfl | exact o_nilCheck rfl | exact o_fieldAddr rfl | ((first | apply o_load | apply o_loadN); exact rfl; (focus repeat first | assumption | exact T.get_set_same .. | refine (T.get_set_ne _ _ (by omega)).trans ?_); omega; omega; first | exact rfl | assumption | exact nfl_ok rfl) | ((first | apply o_loadS | apply o_loadNS); exact rfl; assumption; omega; first | exact rfl | assumption | exact nfl_ok rfl) | (apply o_indexSl; exact rfl; exact rfl; omega; first | assumption | exact rfl) | exact o_lenStr rfl | exact o_lenSl rfl | exact o_pick_t rfl rfl | exact o_pick_f rfl rfl | (apply o_cmp_t; exact rfl; exact rfl; exact rfl; focus (dsimp only [cmpP]; first | done | omega)) | (apply o_cmp_f; exact rfl; exact rfl; exact rfl; focus (dsimp only [cmpP]; first | done | omega)) | ((first | apply o_add | apply o_sub | apply o_mul); exact rfl; exact rfl; omega; omega) | ((first | apply o_add_u | apply o_mul_u | apply o_sub_u | apply o_and127); exact rfl; exact rfl; omega; omega) | ((first | apply o_to_i64 | apply o_to_u64 | apply o_to_u8); exact rfl; omega; omega) | exact o_to_u8_mod rfl | (apply o_storeN; exact rfl; exact rfl; exact rfl; exact rfl; (focus repeat first | assumption | exact T.get_set_same .. | refine (T.get_set_ne _ _ (by omega)).trans ?_); omega; simp [vcells]; exact rfl) | exact o_build rfl rfl | (apply o_buildSlice; exact rfl; exact rfl; simp only [List.length_cons, List.length_nil, Nat.reduceAdd]; exact rfl) | (apply o_alloc; simp only [List.length_cons, List.length_nil, Nat.reduceAdd]; exact rfl) | (apply o_box; exact rfl; exact rfl; exact rfl; simp only [List.length_cons, List.length_nil, Nat.reduceAdd]; exact rfl) | exact o_strToBytes rfl | exact o_extract rfl rfl | exact o_field rfl rfl | exact o_not rfl | exact o_eqNil rfl rfl rfl rfl rfl | (apply o_indexStr; exact rfl; exact rfl; assumption) | exact o_mkFunc rfl rfl); iterate 2 try exact rfl) | refine r_skip rfl ?_ | refine dw_skip rfl ?_ | refine r_nil ?_ | refine d_nil ?_ | refine c_seq ?_ | refine c_region ?_ | refine q_seq ?_ | refine c_true rfl ?_ | refine c_false rfl ?_ | refine c_skip ?_ | refine c_ret ?_ | refine c_exit ?_ | refine c_block ?_ | refine c_draw ?_ | refine q_seq_ret ?_ | refine q_seq_exit ?_ | refine q_block ?_ | refine q_block_ret ?_ | refine q_block_here rfl ?_ | refine q_block_out rfl ?_ | refine q_loop_exit ?_ | refine q_loop_ret ?_)
      apply r_call
      · exact rfl
      · exact rfl
      · exact run61 ht2 hrd' _ _
      rintro v2 s2 ⟨hrd2, ho2⟩
      repeat (first | ((first | apply r_op | apply r_opn | (apply dw_pure; exact rfl) | (apply dw_make; exact rfl) | apply dw_load); exact rfl; (first | exact o_mv rfl | exact o_nilCheck rfl | exact o_fieldAddr rfl | ((first | apply o_load | apply o_loadN); exact rfl; (focus repeat first | assumption | exact T.get_set_same .. | refine (T.get_set_ne _ _ (by omega)).trans ?_); omega; omega; first | exact rfl | assumption | exact nfl_ok rfl) | ((first | apply o_loadS | apply o_loadNS); exact rfl; assumption; omega; first | exact rfl | assumption | exact nfl_ok rfl) | (apply o_indexSl; exact rfl; exact rfl; omega; first | assumption | exact rfl) | exact o_lenStr rfl | exact o_lenSl rfl | exact o_pick_t rfl rfl | exact o_pick_f rfl rfl | (apply o_cmp_t; exact rfl; exact rfl; exact rfl; focus (dsimp only [cmpP]; first | done | omega)) | (apply o_cmp_f; exact rfl; exact rfl; exact rfl; focus (dsimp only [cmpP]; first | done | omega)) | ((first | apply o_add | apply o_sub | apply o_mul); exact rfl; exact rfl; omega; omega) | ((first | apply o_add_u | apply o_mul_u | apply o_sub_u | apply o_and127); exact rfl; exact rfl; omega; omega) | ((first | apply o_to_i64 | apply o_to_u64 | apply o_to_u8); exact rfl; omega; omega) | exact o_to_u8_mod rfl | (apply o_storeN; exact rfl; exact rfl; exact rfl; exact rfl; (focus repeat first | assumption | exact T.get_set_same .. | refine (T.get_set_ne _ _ (by omega)).trans ?_); omega; simp [vcells]; exact rfl) | exact o_build rfl rfl | (apply o_buildSlice; exact rfl; exact rfl; simp only [List.length_cons, List.length_nil, Nat.reduceAdd]; exact rfl) | (apply o_alloc; simp only [List.length_cons, List.length_nil, Nat.reduceAdd]; exact rfl) | (apply o_box; exact rfl; exact rfl; exact rfl; simp only [List.length_cons, List.length_nil, Nat.reduceAdd]; exact rfl) | exact o_strToBytes rfl | exact o_extract rfl rfl | exact o_field rfl rfl | exact o_not rfl | exact o_eqNil rfl rfl rfl rfl rfl | (apply o_indexStr; exact rfl; exact rfl; assumption) | exact o_mkFunc rfl rfl); iterate 2 try exact rfl) | refine r_skip rfl ?_ | refine dw_skip rfl ?_ | refine r_nil ?_ | refine d_nil ?_ | refine c_seq ?_ | refine c_region ?_ | refine q_seq ?_ | refine c_true rfl ?_ | refine c_false rfl ?_ | refine c_skip ?_ | refine c_ret ?_ | refine c_exit ?_ | refine c_block ?_ | refine c_draw ?_ | refine q_seq_ret ?_ | refine q_seq_exit ?_ | refine q_block ?_ | refine q_block_ret ?_ | refine q_block_here rfl ?_ | refine q_block_out rfl ?_ | refine q_loop_exit ?_ | refine q_loop_ret ?_)
      refine q_ret (l := [.int .i64 0]) ?_ ⟨rfl, hrd2, ho.trans ho2⟩
      repeat (first | exact .nil | refine .tmp rfl ?_)
    · rw [if_neg (fun hh => hv hh.2)]
      repeat (first | ((first | apply r_op | apply r_opn | (apply dw_pure; exact rfl) | (apply dw_make; exact rfl) | apply dw_load); exact rfl; (first | exact o_mv rfl | exact o_nilCheck rfl | exact o_fieldAddr rfl | ((first | apply o_load | apply o_loadN); exact rfl; (focus repeat first | assumption | exact T.get_set_same .. | refine (T.get_set_ne _ _ (by omega)).trans ?_); omega; omega; first | exact rfl | assumption | exact nfl_ok rfl) | ((first | apply o_loadS | apply o_loadNS); exact rfl; assumption; omega; first | exact rfl | assumption | exact nfl_ok rfl) | (apply o_indexSl; exact rfl; exact rfl; omega; first | assumption | exact rfl) | exact o_lenStr rfl | exact o_lenSl rfl | exact o_pick_t rfl rfl | exact o_pick_f rfl rfl | (apply o_cmp_t; exact rfl; exact rfl; exact rfl; focus (dsimp only [cmpP]; first | done | omega)) | (apply o_cmp_f; exact rfl; exact rfl; exact rfl; focus (dsimp only [cmpP]; first | done | omega)) | ((first | apply o_add | apply o_sub | apply o_mul); exact rfl; exact rfl; omega; omega) | ((first | apply o_add_u | apply o_mul_u | apply o_sub_u | apply o_and127); exact rfl; exact rfl; omega; omega) | ((first | apply o_to_i64 | apply o_to_u64 | apply o_to_u8); exact rfl; omega; omega) | exact o_to_u8_mod rfl | (apply o_storeN; exact rfl; exact rfl; exact rfl; exact rfl; (focus repeat first | assumption | exact T.get_set_same .. | refine (T.get_set_ne _ _ (by omega)).trans ?_); omega; simp [vcells]; exact rfl) | exact o_build rfl rfl | (apply o_buildSlice; exact rfl; exact rfl; simp only [List.length_cons, List.length_nil, Nat.reduceAdd]; exact rfl) | (apply o_alloc; simp only [List.length_cons, List.length_nil, Nat.reduceAdd]; exact rfl) | (apply o_box; exact rfl; exact rfl; exact rfl; simp only [List.length_cons, List.length_nil, Nat.reduceAdd]; exact rfl) | exact o_strToBytes rfl | exact o_extract rfl rfl | exact o_field rfl rfl | exact o_not rfl | exact o_eqNil rfl rfl rfl rfl rfl | (apply o_indexStr; exact rfl; exact rfl; assumption) | exact o_mkFunc rfl rfl); iterate 2 try exact rfl) | refine r_skip rfl ?_ | refine dw_skip rfl ?_ | refine r_nil ?_ | refine d_nil ?_ | refine c_seq ?_ | refine c_region ?_ | refine q_seq ?_ | refine c_true rfl ?_ | refine c_false rfl ?_ | refine c_skip ?_ | refine c_ret ?_ | refine c_exit ?_ | refine c_block ?_ | refine c_draw ?_ | refine q_seq_ret ?_ | refine q_seq_exit ?_ | refine q_block ?_ | refine q_block_ret ?_ | refine q_block_here rfl ?_ | refine q_block_out rfl ?_ | refine q_loop_exit ?_ | refine q_loop_ret ?_)
      refine q_ret (l := [.int .i64 v]) ?_ ⟨rfl, hrd', ho⟩
      repeat (first | exact .nil | refine .tmp rfl ?_)
  · rw [if_neg (fun hh => hx hh.1)]
    obtain ⟨rfl, rfl⟩ := hle hx
    repeat (first | ((first | apply r_op | apply r_opn | (apply dw_pure; exact rfl) | (apply dw_make; exact rfl) | apply dw_load); exact rfl; (first | exact o_mv rfl | exact o_nilCheck rfl | exact o_fieldAddr rfl | ((first | apply o_load | apply o_loadN); exact rfl; (focus repeat first | assumption | exact T.get_set_same .. | refine (T.get_set_ne _ _ (by omega)).trans ?_); omega; omega; first | exact rfl | assumption | exact nfl_ok rfl) | ((first | apply o_loadS | apply o_loadNS); exact rfl; assumption; omega; first | exact rfl | assumption | exact nfl_ok rfl) | (apply o_indexSl; exact rfl; exact rfl; omega; first | assumption | exact rfl) | exact o_lenStr rfl | exact o_lenSl rfl | exact o_pick_t rfl rfl | exact o_pick_f rfl rfl | (apply o_cmp_t; exact rfl; exact rfl; exact rfl; focus (dsimp only [cmpP]; first | done | omega)) | (apply o_cmp_f; exact rfl; exact rfl; exact rfl; focus (dsimp only [cmpP]; first | done | omega)) | ((first | apply o_add | apply o_sub | apply o_mul); exact rfl; exact rfl; omega; omega) | ((first | apply o_add_u | apply o_mul_u | apply o_sub_u | apply o_and127); exact rfl; exact rfl; omega; omega) | ((first | apply o_to_i64 | apply o_to_u64 | apply o_to_u8); exact rfl; omega; omega) | exact o_to_u8_mod rfl | (apply o_storeN; exact rfl; exact rfl; exact rfl; exact rfl; (focus repeat first | assumption | exact T.get_set_same .. | refine (T.get_set_ne _ _ (by omega)).trans ?_); omega; simp [vcells]; exact rfl) | exact o_build rfl rfl | (apply o_buildSlice; exact rfl; exact rfl; simp only [List.length_cons, List.length_nil, Nat.reduceAdd]; exact rfl) | (apply o_alloc; simp only [List.length_cons, List.length_nil, Nat.reduceAdd]; exact rfl) | (apply o_box; exact rfl; exact rfl; exact rfl; simp only [List.length_cons, List.length_nil, Nat.reduceAdd]; exact rfl) | exact o_strToBytes rfl | exact o_extract rfl rfl | exact o_field rfl rfl | exact o_not rfl | exact o_eqNil rfl rfl rfl rfl rfl | (apply o_indexStr; exact rfl; exact rfl; assumption) | exact o_mkFunc rfl rfl); iterate 2 try exact rfl) | refine r_skip rfl ?_ | refine dw_skip rfl ?_ | refine r_nil ?_ | refine d_nil ?_ | refine c_seq ?_ | refine c_region ?_ | refine q_seq ?_ | refine c_true rfl ?_ | refine c_false rfl ?_ | refine c_skip ?_ | refine c_ret ?_ | refine c_exit ?_ | refine c_block ?_ | refine c_draw ?_ | refine q_seq_ret ?_ | refine q_seq_exit ?_ | refine q_block ?_ | refine q_block_ret ?_ | refine q_block_here rfl ?_ | refine q_block_out rfl ?_ | refine q_loop_exit ?_ | refine q_loop_ret ?_)
    refine q_ret (l := [.int .i64 0]) ?_ ⟨rfl, hrd', ho⟩
    repeat (first | exact .nil | refine .tmp rfl ?_)
end Go.Am.R1B
