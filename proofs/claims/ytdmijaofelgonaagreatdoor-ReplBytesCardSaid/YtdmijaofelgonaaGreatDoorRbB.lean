/-
  ReplBytes: Number, on the abstract machine: it reads what 'num' says.
-/
import Derived.Test.YtdmijaofelgonaaGreatDoorRbA
namespace Go.Am.R1B
open Go Go.Am
variable {tab : Nat → Option AFn} {k : Nat} {s : St} {g : Nat} {b : ByteArray} {p e : Int}
/-- One more group, as the code does it. -/
def orv (a : Int) (c i : Nat) : Int :=
  IntKind.wrap .u64 ((BitVec.ofInt 64 a ||| BitVec.ofInt 64 (IntKind.wrap .u64 ((c : Int) % 128 * 2 ^ (Nat.min (7 * (i : Int)).toNat 64)))).toNat : Int)
theorem pow128 (i : Nat) : (2 : Nat) ^ (7 * i) = 128 ^ i := by rw [Nat.pow_mul]
theorem orv_nonneg (a : Int) (c i : Nat) : 0 ≤ orv a c i ∧ orv a c i < 18446744073709551616 := by
  simp only [orv]
  generalize (BitVec.ofInt 64 a ||| _).toNat = z
  show 0 ≤ (z : Int) % 18446744073709551616 ∧ (z : Int) % 18446744073709551616 < _
  omega
theorem p128_le {i : Nat} (h : i ≤ 8) : (128 : Nat) ^ i ≤ 128 ^ 8 := Nat.pow_le_pow_right (by decide) h
theorem orv_eq {a c i : Nat} (hi : i ≤ 9) (ha : a < 128 ^ i) (hc : i ≤ 8 ∨ c % 128 ≤ 1) : orv a c i = ((a + c % 128 * 128 ^ i : Nat) : Int) := by
  have hp : (128 : Nat) ^ i * (c % 128) ≤ 128 ^ 9 := by
    have h1 : c % 128 < 128 := Nat.mod_lt _ (by decide)
    rcases hc with h | h
    · have h2 := p128_le h
      calc 128 ^ i * (c % 128) ≤ 128 ^ 8 * 128 := Nat.mul_le_mul h2 (by omega)
        _ = 128 ^ 9 := by decide
    · have h2 : (128 : Nat) ^ i ≤ 128 ^ 9 := Nat.pow_le_pow_right (by decide) hi
      calc 128 ^ i * (c % 128) ≤ 128 ^ 9 * 1 := Nat.mul_le_mul h2 h
        _ = 128 ^ 9 := by decide
  have ha9 : a < 128 ^ 9 := Nat.lt_of_lt_of_le ha (Nat.pow_le_pow_right (by decide) hi)
  have h9 : (128 : Nat) ^ 9 = 9223372036854775808 := by decide
  rw [h9] at ha9 hp
  have e0 : Nat.min (7 * (i : Int)).toNat 64 = 7 * i := by
    rw [show (7 * (i : Int)).toNat = 7 * i by omega]
    exact Nat.min_eq_left (by omega)
  have e1 : ((c : Int) % 128 * 2 ^ (Nat.min (7 * (i : Int)).toNat 64)) = ((128 ^ i * (c % 128) : Nat) : Int) := by
    rw [e0, ← pow128]
    push_cast
    rw [Int.mul_comm]
  have e2 : IntKind.wrap .u64 ((128 ^ i * (c % 128) : Nat) : Int) = ((128 ^ i * (c % 128) : Nat) : Int) := wrap_u64 (by omega) (by omega)
  simp only [orv]
  rw [e1, e2]
  have e3 : (BitVec.ofInt 64 ((a : Nat) : Int)).toNat = a := by rw [BitVec.toNat_ofInt]; omega
  have e4 : (BitVec.ofInt 64 ((128 ^ i * (c % 128) : Nat) : Int)).toNat = 128 ^ i * (c % 128) := by
    rw [BitVec.toNat_ofInt]
    generalize 128 ^ i * (c % 128) = z at hp
    omega
  rw [BitVec.toNat_or, e3, e4]
  have e5 : a ||| 128 ^ i * (c % 128) = a + c % 128 * 128 ^ i := by
    have h : a < 2 ^ (7 * i) := by rw [pow128]; exact ha
    have := Nat.two_pow_add_eq_or_of_lt h (c % 128)
    rw [pow128] at this
    rw [Nat.or_comm, ← this, Nat.mul_comm (128 ^ i)]
    omega
  rw [e5]
  have e6 : c % 128 * 128 ^ i = 128 ^ i * (c % 128) := Nat.mul_comm _ _
  refine wrap_u64 (by omega) ?_
  rw [e6]
  generalize 128 ^ i * (c % 128) = z at hp
  omega
end Go.Am.R1B

/-
  ReplBytes: Number, on the abstract machine: it reads what 'num' says.
-/
namespace Go.Am.R1B
open Go Go.Am
variable {tab : Nat → Option AFn} {k : Nat} {s : St} {g : Nat} {b : ByteArray} {p e : Int}
theorem size_list (r : ByteArray) : r.data.toList.length = r.size := rfl
theorem num_nil (i acc : Nat) : num [] i acc = (0, 0, if i < 10 then 20 else 21) := rfl
theorem num_ten (l : List UInt8) (acc : Nat) : num l 10 acc = (0, 0, 21) := by cases l <;> simp [num]
theorem num_more {c : UInt8} {l : List UInt8} {i acc : Nat} (hi : i < 10) (hc : 128 ≤ c.toNat) : num (c :: l) i acc = num l (i + 1) (acc + (c.toNat - 128) * 128 ^ i) := by
  simp only [num]
  rw [if_neg (by omega), if_pos hc]
theorem num_bad {c : UInt8} {l : List UInt8} {i acc : Nat} (hi : i < 10) (hc : c.toNat < 128) (h : c.toNat = 0 ∧ i > 0 ∨ i = 9 ∧ c.toNat > 1) : num (c :: l) i acc = (0, 0, 21) := by
  simp only [num]
  rw [if_neg (by omega), if_neg (by omega), if_pos h]
theorem num_last {c : UInt8} {l : List UInt8} {i acc : Nat} (hi : i < 10) (hc : c.toNat < 128) (h : ¬ (c.toNat = 0 ∧ i > 0 ∨ i = 9 ∧ c.toNat > 1)) : num (c :: l) i acc = (acc + c.toNat * 128 ^ i, i + 1, 0) := by
  simp only [num]
  rw [if_neg (by omega), if_neg (by omega), if_neg h]
theorem drop_cons {l : List UInt8} {i : Nat} (h : i < l.length) : ∃ c, lget l i = some c ∧ l.drop i = c :: l.drop (i + 1) :=
  ⟨l[i], by rw [lget_eq, List.getElem?_eq_getElem h], List.drop_eq_getElem_cons h⟩
/-- What a run of Number leaves: the value, the reader. -/
def Num60 (g : Nat) (b : ByteArray) (p : Nat) (s : St) (N : Nat × Nat × Nat) (v : Value) (s' : St) : Prop := v = .int .u64 N.1 ∧ Rd s' g b (p + N.2.1 : Nat) N.2.2 ∧ Only g s s'
set_option maxHeartbeats 1000000 in
theorem run60 (hk : 10 < k) (ht : tab 60 = some (.code a60)) {p : Nat} (h : Rd s g b p 0) (hp : p ≤ b.size) (hb : b.size < 4611686018427387904) :
    ∃ v s', acall tab [] (k + 1) 60 [rp g] s = .ok (v, s') ∧ Num60 g b p s (num (b.data.toList.drop p) 0 0) v s' := by
  obtain ⟨mv, hm, h⟩ := h
  generalize hN : num (b.data.toList.drop p) 0 0 = N
  refine call_of ht ?_
  repeat (first | ((first | apply r_op | apply r_opn | (apply dw_pure; exact rfl) | (apply dw_make; exact rfl) | apply dw_load); exact rfl; (first | exact o_mv rfl | exact o_nilCheck rfl | exact o_fieldAddr rfl | ((first | apply o_load | apply o_loadN); exact rfl; (focus repeat first | assumption | exact T.get_set_same .. | refine (T.get_set_ne _ _ (by omega)).trans ?_); omega; omega; first | exact rfl | assumption | exact nfl_ok rfl) | ((first | apply o_loadS | apply o_loadNS); exact rfl; assumption; omega; first | exact rfl | assumption | exact nfl_ok rfl) | (apply o_indexSl; exact rfl; exact rfl; omega; first | assumption | exact rfl) | exact o_lenStr rfl | exact o_lenSl rfl | exact o_pick_t rfl rfl | exact o_pick_f rfl rfl | (apply o_cmp_t; exact rfl; exact rfl; exact rfl; focus (dsimp only [cmpP]; first | done | omega)) | (apply o_cmp_f; exact rfl; exact rfl; exact rfl; focus (dsimp only [cmpP]; first | done | omega)) | ((first | apply o_add | apply o_sub | apply o_mul); exact rfl; exact rfl; omega; omega) | ((first | apply o_add_u | apply o_mul_u | apply o_sub_u | apply o_and127); exact rfl; exact rfl; omega; omega) | ((first | apply o_to_i64 | apply o_to_u64 | apply o_to_u8); exact rfl; omega; omega) | exact o_to_u8_mod rfl | (apply o_storeN; exact rfl; exact rfl; exact rfl; exact rfl; (focus repeat first | assumption | exact T.get_set_same .. | refine (T.get_set_ne _ _ (by omega)).trans ?_); omega; simp [vcells]; exact rfl) | exact o_build rfl rfl | (apply o_buildSlice; exact rfl; exact rfl; simp only [List.length_cons, List.length_nil, Nat.reduceAdd]; exact rfl) | (apply o_alloc; simp only [List.length_cons, List.length_nil, Nat.reduceAdd]; exact rfl) | (apply o_box; exact rfl; exact rfl; exact rfl; simp only [List.length_cons, List.length_nil, Nat.reduceAdd]; exact rfl) | exact o_strToBytes rfl | exact o_extract rfl rfl | exact o_field rfl rfl | exact o_not rfl | exact o_eqNil rfl rfl rfl rfl rfl | (apply o_indexStr; exact rfl; exact rfl; assumption) | exact o_mkFunc rfl rfl); iterate 2 try exact rfl) | refine r_skip rfl ?_ | refine dw_skip rfl ?_ | refine r_nil ?_ | refine d_nil ?_ | refine c_seq ?_ | refine c_region ?_ | refine q_seq ?_ | refine c_true rfl ?_ | refine c_false rfl ?_ | refine c_skip ?_ | refine c_ret ?_ | refine c_exit ?_ | refine c_block ?_ | refine c_draw ?_ | refine q_seq_ret ?_ | refine q_seq_exit ?_ | refine q_block ?_ | refine q_block_ret ?_ | refine q_block_here rfl ?_ | refine q_block_out rfl ?_ | refine q_loop_exit ?_ | refine q_loop_ret ?_)
  apply dw_pure
  · exact rfl
  · exact rfl
  · apply o_sliceStr
    · exact rfl
    · exact rfl
    · exact rfl
    · exact Nat.le_refl _
    · exact hp
  have hr : (b.extract p b.size).data.toList = b.data.toList.drop p := by
    rw [ByteArray.data_extract, Array.toList_extract]
    have e : b.data.toList.length = b.size := rfl
    simp only [List.extract, e]
    exact List.take_of_length_le (by rw [List.length_drop, e]; exact Nat.le_refl _)
  generalize b.extract p b.size = r at hr ⊢
  rw [← hr] at hN
  have hrl := size_list r
  have hr2 : r.size ≤ b.size := by rw [← hrl, hr, List.length_drop]; show b.data.toList.length - p ≤ _; rw [size_list]; omega
  repeat (first | ((first | apply r_op | apply r_opn | (apply dw_pure; exact rfl) | (apply dw_make; exact rfl) | apply dw_load); exact rfl; (first | exact o_mv rfl | exact o_nilCheck rfl | exact o_fieldAddr rfl | ((first | apply o_load | apply o_loadN); exact rfl; (focus repeat first | assumption | exact T.get_set_same .. | refine (T.get_set_ne _ _ (by omega)).trans ?_); omega; omega; first | exact rfl | assumption | exact nfl_ok rfl) | ((first | apply o_loadS | apply o_loadNS); exact rfl; assumption; omega; first | exact rfl | assumption | exact nfl_ok rfl) | (apply o_indexSl; exact rfl; exact rfl; omega; first | assumption | exact rfl) | exact o_lenStr rfl | exact o_lenSl rfl | exact o_pick_t rfl rfl | exact o_pick_f rfl rfl | (apply o_cmp_t; exact rfl; exact rfl; exact rfl; focus (dsimp only [cmpP]; first | done | omega)) | (apply o_cmp_f; exact rfl; exact rfl; exact rfl; focus (dsimp only [cmpP]; first | done | omega)) | ((first | apply o_add | apply o_sub | apply o_mul); exact rfl; exact rfl; omega; omega) | ((first | apply o_add_u | apply o_mul_u | apply o_sub_u | apply o_and127); exact rfl; exact rfl; omega; omega) | ((first | apply o_to_i64 | apply o_to_u64 | apply o_to_u8); exact rfl; omega; omega) | exact o_to_u8_mod rfl | (apply o_storeN; exact rfl; exact rfl; exact rfl; exact rfl; (focus repeat first | assumption | exact T.get_set_same .. | refine (T.get_set_ne _ _ (by omega)).trans ?_); omega; simp [vcells]; exact rfl) | exact o_build rfl rfl | (apply o_buildSlice; exact rfl; exact rfl; simp only [List.length_cons, List.length_nil, Nat.reduceAdd]; exact rfl) | (apply o_alloc; simp only [List.length_cons, List.length_nil, Nat.reduceAdd]; exact rfl) | (apply o_box; exact rfl; exact rfl; exact rfl; simp only [List.length_cons, List.length_nil, Nat.reduceAdd]; exact rfl) | exact o_strToBytes rfl | exact o_extract rfl rfl | exact o_field rfl rfl | exact o_not rfl | exact o_eqNil rfl rfl rfl rfl rfl | (apply o_indexStr; exact rfl; exact rfl; assumption) | exact o_mkFunc rfl rfl); iterate 2 try exact rfl) | refine r_skip rfl ?_ | refine dw_skip rfl ?_ | refine r_nil ?_ | refine d_nil ?_ | refine c_seq ?_ | refine c_region ?_ | refine q_seq ?_ | refine c_true rfl ?_ | refine c_false rfl ?_ | refine c_skip ?_ | refine c_ret ?_ | refine c_exit ?_ | refine c_block ?_ | refine c_draw ?_ | refine q_seq_ret ?_ | refine q_seq_exit ?_ | refine q_block ?_ | refine q_block_ret ?_ | refine q_block_here rfl ?_ | refine q_block_out rfl ?_ | refine q_loop_exit ?_ | refine q_loop_ret ?_)
  refine r_as (.int .i64 ((min r.size 10 : Nat) : Int)) rfl (o_min rfl rfl) ?_ ?_
  · by_cases h10 : r.size ≤ 10
    · rw [Nat.min_eq_left h10, show decide ((10 : Int) < r.size) = false from decide_eq_false (by omega)]; rfl
    · rw [Nat.min_eq_right (by omega), show decide ((10 : Int) < r.size) = true from decide_eq_true (by omega)]; rfl
  have hmr : min r.size 10 ≤ r.size := Nat.min_le_left _ _
  have hm10 : min r.size 10 ≤ 10 := Nat.min_le_right _ _
  have hmm : min r.size 10 = r.size ∨ min r.size 10 = 10 := by omega
  generalize hmd : min r.size 10 = m at hmr hm10 hmm ⊢
  repeat (first | ((first | apply r_op | apply r_opn | (apply dw_pure; exact rfl) | (apply dw_make; exact rfl) | apply dw_load); exact rfl; (first | exact o_mv rfl | exact o_nilCheck rfl | exact o_fieldAddr rfl | ((first | apply o_load | apply o_loadN); exact rfl; (focus repeat first | assumption | exact T.get_set_same .. | refine (T.get_set_ne _ _ (by omega)).trans ?_); omega; omega; first | exact rfl | assumption | exact nfl_ok rfl) | ((first | apply o_loadS | apply o_loadNS); exact rfl; assumption; omega; first | exact rfl | assumption | exact nfl_ok rfl) | (apply o_indexSl; exact rfl; exact rfl; omega; first | assumption | exact rfl) | exact o_lenStr rfl | exact o_lenSl rfl | exact o_pick_t rfl rfl | exact o_pick_f rfl rfl | (apply o_cmp_t; exact rfl; exact rfl; exact rfl; focus (dsimp only [cmpP]; first | done | omega)) | (apply o_cmp_f; exact rfl; exact rfl; exact rfl; focus (dsimp only [cmpP]; first | done | omega)) | ((first | apply o_add | apply o_sub | apply o_mul); exact rfl; exact rfl; omega; omega) | ((first | apply o_add_u | apply o_mul_u | apply o_sub_u | apply o_and127); exact rfl; exact rfl; omega; omega) | ((first | apply o_to_i64 | apply o_to_u64 | apply o_to_u8); exact rfl; omega; omega) | exact o_to_u8_mod rfl | (apply o_storeN; exact rfl; exact rfl; exact rfl; exact rfl; (focus repeat first | assumption | exact T.get_set_same .. | refine (T.get_set_ne _ _ (by omega)).trans ?_); omega; simp [vcells]; exact rfl) | exact o_build rfl rfl | (apply o_buildSlice; exact rfl; exact rfl; simp only [List.length_cons, List.length_nil, Nat.reduceAdd]; exact rfl) | (apply o_alloc; simp only [List.length_cons, List.length_nil, Nat.reduceAdd]; exact rfl) | (apply o_box; exact rfl; exact rfl; exact rfl; simp only [List.length_cons, List.length_nil, Nat.reduceAdd]; exact rfl) | exact o_strToBytes rfl | exact o_extract rfl rfl | exact o_field rfl rfl | exact o_not rfl | exact o_eqNil rfl rfl rfl rfl rfl | (apply o_indexStr; exact rfl; exact rfl; assumption) | exact o_mkFunc rfl rfl); iterate 2 try exact rfl) | refine r_skip rfl ?_ | refine dw_skip rfl ?_ | refine r_nil ?_ | refine d_nil ?_ | refine c_seq ?_ | refine c_region ?_ | refine q_seq ?_ | refine c_true rfl ?_ | refine c_false rfl ?_ | refine c_skip ?_ | refine c_ret ?_ | refine c_exit ?_ | refine c_block ?_ | refine c_draw ?_ | refine q_seq_ret ?_ | refine q_seq_exit ?_ | refine q_block ?_ | refine q_block_ret ?_ | refine q_block_here rfl ?_ | refine q_block_out rfl ?_ | refine q_loop_exit ?_ | refine q_loop_ret ?_)
  apply c_loop (β := Nat × Int) (fun x => [(24, .int .i64 (x.1 : Nat)), (23, .int .i64 m), (4, .string r), (3, .int .u64 x.2), (0, rp g)])
    (fun x s' => s' = s ∧ x.1 ≤ m ∧ (x.1 < 10 → ∃ acc : Nat, x.2 = acc ∧ acc < 128 ^ x.1 ∧ num (r.data.toList.drop x.1) x.1 acc = N) ∧ (x.1 = 10 → N = (0, 0, 21)))
    (fun x => m - x.1) (0, 0)
  · show m - 0 < k
    omega
  · (repeat (first | exact sub_nil _ | refine sub_cons rfl ?_))
  · exact ⟨rfl, Nat.zero_le _, fun _ => ⟨0, rfl, by decide, hN⟩, fun h => by cases h⟩
  rintro ⟨i, a⟩ s' - ⟨rfl, hi, hlt, hten⟩
  dsimp only at hi hlt hten ⊢
  by_cases him : i < m
  · obtain ⟨acc, rfl, hacc, hnum⟩ := hlt (by omega)
    obtain ⟨c, hc, hd⟩ := drop_cons (l := r.data.toList) (i := i) (by rw [hrl]; omega)
    have hc256 : c.toNat < 256 := c.toNat_lt
    rw [hd] at hnum
    repeat (first | ((first | apply r_op | apply r_opn | (apply dw_pure; exact rfl) | (apply dw_make; exact rfl) | apply dw_load); exact rfl; (first | exact o_mv rfl | exact o_nilCheck rfl | exact o_fieldAddr rfl | ((first | apply o_load | apply o_loadN); exact rfl; (focus repeat first | assumption | exact T.get_set_same .. | refine (T.get_set_ne _ _ (by omega)).trans ?_); omega; omega; first | exact rfl | assumption | exact nfl_ok rfl) | ((first | apply o_loadS | apply o_loadNS); exact rfl; assumption; omega; first | exact rfl | assumption | exact nfl_ok rfl) | (apply o_indexSl; exact rfl; exact rfl; omega; first | assumption | exact rfl) | exact o_lenStr rfl | exact o_lenSl rfl | exact o_pick_t rfl rfl | exact o_pick_f rfl rfl | (apply o_cmp_t; exact rfl; exact rfl; exact rfl; focus (dsimp only [cmpP]; first | done | omega)) | (apply o_cmp_f; exact rfl; exact rfl; exact rfl; focus (dsimp only [cmpP]; first | done | omega)) | ((first | apply o_add | apply o_sub | apply o_mul); exact rfl; exact rfl; omega; omega) | ((first | apply o_add_u | apply o_mul_u | apply o_sub_u | apply o_and127); exact rfl; exact rfl; omega; omega) | ((first | apply o_to_i64 | apply o_to_u64 | apply o_to_u8); exact rfl; omega; omega) | exact o_to_u8_mod rfl | (apply o_storeN; exact rfl; exact rfl; exact rfl; exact rfl; (focus repeat first | assumption | exact T.get_set_same .. | refine (T.get_set_ne _ _ (by omega)).trans ?_); omega; simp [vcells]; exact rfl) | exact o_build rfl rfl | (apply o_buildSlice; exact rfl; exact rfl; simp only [List.length_cons, List.length_nil, Nat.reduceAdd]; exact rfl) | (apply o_alloc; simp only [List.length_cons, List.length_nil, Nat.reduceAdd]; exact rfl) | (apply o_box; exact rfl; exact rfl; exact rfl; simp only [List.length_cons, List.length_nil, Nat.reduceAdd]; exact rfl) | exact o_strToBytes rfl | exact o_extract rfl rfl | exact o_field rfl rfl | exact o_not rfl | exact o_eqNil rfl rfl rfl rfl rfl | (apply o_indexStr; exact rfl; exact rfl; assumption) | exact o_mkFunc rfl rfl); iterate 2 try exact rfl) | refine r_skip rfl ?_ | refine dw_skip rfl ?_ | refine r_nil ?_ | refine d_nil ?_ | refine c_seq ?_ | refine c_region ?_ | refine q_seq ?_ | refine c_true rfl ?_ | refine c_false rfl ?_ | refine c_skip ?_ | refine c_ret ?_ | refine c_exit ?_ | refine c_block ?_ | refine c_draw ?_ | refine q_seq_ret ?_ | refine q_seq_exit ?_ | refine q_block ?_ | refine q_block_ret ?_ | refine q_block_here rfl ?_ | refine q_block_out rfl ?_ | refine q_loop_exit ?_ | refine q_loop_ret ?_)
    (apply r_op; exact rfl; exact o_bin rfl rfl rfl)
    refine r_as (.int .u64 (orv acc c.toNat i)) rfl (o_bin rfl rfl rfl) rfl ?_
    obtain ⟨ho1, ho2⟩ := orv_nonneg acc c.toNat i
    have hov := orv_eq (a := acc) (c := c.toNat) (i := i) (by omega) hacc
    generalize orv acc c.toNat i = z at ho1 ho2 hov ⊢
    by_cases hc128 : 128 ≤ c.toNat
    · repeat (first | ((first | apply r_op | apply r_opn | (apply dw_pure; exact rfl) | (apply dw_make; exact rfl) | apply dw_load); exact rfl; (first | exact o_mv rfl | exact o_nilCheck rfl | exact o_fieldAddr rfl | ((first | apply o_load | apply o_loadN); exact rfl; (focus repeat first | assumption | exact T.get_set_same .. | refine (T.get_set_ne _ _ (by omega)).trans ?_); omega; omega; first | exact rfl | assumption | exact nfl_ok rfl) | ((first | apply o_loadS | apply o_loadNS); exact rfl; assumption; omega; first | exact rfl | assumption | exact nfl_ok rfl) | (apply o_indexSl; exact rfl; exact rfl; omega; first | assumption | exact rfl) | exact o_lenStr rfl | exact o_lenSl rfl | exact o_pick_t rfl rfl | exact o_pick_f rfl rfl | (apply o_cmp_t; exact rfl; exact rfl; exact rfl; focus (dsimp only [cmpP]; first | done | omega)) | (apply o_cmp_f; exact rfl; exact rfl; exact rfl; focus (dsimp only [cmpP]; first | done | omega)) | ((first | apply o_add | apply o_sub | apply o_mul); exact rfl; exact rfl; omega; omega) | ((first | apply o_add_u | apply o_mul_u | apply o_sub_u | apply o_and127); exact rfl; exact rfl; omega; omega) | ((first | apply o_to_i64 | apply o_to_u64 | apply o_to_u8); exact rfl; omega; omega) | exact o_to_u8_mod rfl | (apply o_storeN; exact rfl; exact rfl; exact rfl; exact rfl; (focus repeat first | assumption | exact T.get_set_same .. | refine (T.get_set_ne _ _ (by omega)).trans ?_); omega; simp [vcells]; exact rfl) | exact o_build rfl rfl | (apply o_buildSlice; exact rfl; exact rfl; simp only [List.length_cons, List.length_nil, Nat.reduceAdd]; exact rfl) | (apply o_alloc; simp only [List.length_cons, List.length_nil, Nat.reduceAdd]; exact rfl) | (apply o_box; exact rfl; exact rfl; exact rfl; simp only [List.length_cons, List.length_nil, Nat.reduceAdd]; exact rfl) | exact o_strToBytes rfl | exact o_extract rfl rfl | exact o_field rfl rfl | exact o_not rfl | exact o_eqNil rfl rfl rfl rfl rfl | (apply o_indexStr; exact rfl; exact rfl; assumption) | exact o_mkFunc rfl rfl); iterate 2 try exact rfl) | refine r_skip rfl ?_ | refine dw_skip rfl ?_ | refine r_nil ?_ | refine d_nil ?_ | refine c_seq ?_ | refine c_region ?_ | refine q_seq ?_ | refine c_true rfl ?_ | refine c_false rfl ?_ | refine c_skip ?_ | refine c_ret ?_ | refine c_exit ?_ | refine c_block ?_ | refine c_draw ?_ | refine q_seq_ret ?_ | refine q_seq_exit ?_ | refine q_block ?_ | refine q_block_ret ?_ | refine q_block_here rfl ?_ | refine q_block_out rfl ?_ | refine q_loop_exit ?_ | refine q_loop_ret ?_)
      rw [num_more (by omega) hc128] at hnum
      refine q_loop (i + 1, z) ?_ ?_ ?_
      · show m - (i + 1) < m - i
        omega
      · (repeat (first | exact sub_nil _ | refine sub_cons rfl ?_))
      · refine ⟨rfl, by show i + 1 ≤ m; omega, fun hlt => ⟨_, hov (.inl (by have : i + 1 < 10 := hlt; omega)), ?_, ?_⟩, fun h10 => ?_⟩
        · have e : c.toNat % 128 ≤ 127 := by omega
          show acc + c.toNat % 128 * 128 ^ i < 128 ^ (i + 1)
          rw [Nat.pow_succ]
          have := Nat.mul_le_mul_right (128 ^ i) e
          omega
        · show num (r.data.toList.drop (i + 1)) (i + 1) _ = N
          rw [show c.toNat % 128 = c.toNat - 128 by omega]
          exact hnum
        · rw [show i + 1 = 10 from h10, num_ten] at hnum
          exact hnum.symm
    · by_cases hbad : c.toNat = 0 ∧ i > 0 ∨ i = 9 ∧ c.toNat > 1
      · rw [num_bad (by omega) (by omega) hbad] at hnum
        subst hnum
        have hfin : ∀ (S : St), S = ⟨s'.heap.set g (.row [.string b, .int .i64 p, .int .i64 21] 3 3), s'.next, Nat.min s'.low g⟩ → Num60 g b p s' (0, 0, 21) (.int .u64 0) S := fun S hS => by
          subst hS; exact ⟨rfl, rd_set, only_set _ _ _⟩
        by_cases hc0 : c.toNat = 0
        · by_cases hi0 : i > 0
          · repeat (first | ((first | apply r_op | apply r_opn | (apply dw_pure; exact rfl) | (apply dw_make; exact rfl) | apply dw_load); exact rfl; (first | exact o_mv rfl | exact o_nilCheck rfl | exact o_fieldAddr rfl | ((first | apply o_load | apply o_loadN); exact rfl; (focus repeat first | assumption | exact T.get_set_same .. | refine (T.get_set_ne _ _ (by omega)).trans ?_); omega; omega; first | exact rfl | assumption | exact nfl_ok rfl) | ((first | apply o_loadS | apply o_loadNS); exact rfl; assumption; omega; first | exact rfl | assumption | exact nfl_ok rfl) | (apply o_indexSl; exact rfl; exact rfl; omega; first | assumption | exact rfl) | exact o_lenStr rfl | exact o_lenSl rfl | exact o_pick_t rfl rfl | exact o_pick_f rfl rfl | (apply o_cmp_t; exact rfl; exact rfl; exact rfl; focus (dsimp only [cmpP]; first | done | omega)) | (apply o_cmp_f; exact rfl; exact rfl; exact rfl; focus (dsimp only [cmpP]; first | done | omega)) | ((first | apply o_add | apply o_sub | apply o_mul); exact rfl; exact rfl; omega; omega) | ((first | apply o_add_u | apply o_mul_u | apply o_sub_u | apply o_and127); exact rfl; exact rfl; omega; omega) | ((first | apply o_to_i64 | apply o_to_u64 | apply o_to_u8); exact rfl; omega; omega) | exact o_to_u8_mod rfl | (apply o_storeN; exact rfl; exact rfl; exact rfl; exact rfl; (focus repeat first | assumption | exact T.get_set_same .. | refine (T.get_set_ne _ _ (by omega)).trans ?_); omega; simp [vcells]; exact rfl) | exact o_build rfl rfl | (apply o_buildSlice; exact rfl; exact rfl; simp only [List.length_cons, List.length_nil, Nat.reduceAdd]; exact rfl) | (apply o_alloc; simp only [List.length_cons, List.length_nil, Nat.reduceAdd]; exact rfl) | (apply o_box; exact rfl; exact rfl; exact rfl; simp only [List.length_cons, List.length_nil, Nat.reduceAdd]; exact rfl) | exact o_strToBytes rfl | exact o_extract rfl rfl | exact o_field rfl rfl | exact o_not rfl | exact o_eqNil rfl rfl rfl rfl rfl | (apply o_indexStr; exact rfl; exact rfl; assumption) | exact o_mkFunc rfl rfl); iterate 2 try exact rfl) | refine r_skip rfl ?_ | refine dw_skip rfl ?_ | refine r_nil ?_ | refine d_nil ?_ | refine c_seq ?_ | refine c_region ?_ | refine q_seq ?_ | refine c_true rfl ?_ | refine c_false rfl ?_ | refine c_skip ?_ | refine c_ret ?_ | refine c_exit ?_ | refine c_block ?_ | refine c_draw ?_ | refine q_seq_ret ?_ | refine q_seq_exit ?_ | refine q_block ?_ | refine q_block_ret ?_ | refine q_block_here rfl ?_ | refine q_block_out rfl ?_ | refine q_loop_exit ?_ | refine q_loop_ret ?_)
            refine q_ret (l := [.int .u64 0]) ?_ (hfin _ rfl)
            repeat (first | exact .nil | refine .tmp rfl ?_)
          · exact absurd hbad (by omega)
        · repeat (first | ((first | apply r_op | apply r_opn | (apply dw_pure; exact rfl) | (apply dw_make; exact rfl) | apply dw_load); exact rfl; (first | exact o_mv rfl | exact o_nilCheck rfl | exact o_fieldAddr rfl | ((first | apply o_load | apply o_loadN); exact rfl; (focus repeat first | assumption | exact T.get_set_same .. | refine (T.get_set_ne _ _ (by omega)).trans ?_); omega; omega; first | exact rfl | assumption | exact nfl_ok rfl) | ((first | apply o_loadS | apply o_loadNS); exact rfl; assumption; omega; first | exact rfl | assumption | exact nfl_ok rfl) | (apply o_indexSl; exact rfl; exact rfl; omega; first | assumption | exact rfl) | exact o_lenStr rfl | exact o_lenSl rfl | exact o_pick_t rfl rfl | exact o_pick_f rfl rfl | (apply o_cmp_t; exact rfl; exact rfl; exact rfl; focus (dsimp only [cmpP]; first | done | omega)) | (apply o_cmp_f; exact rfl; exact rfl; exact rfl; focus (dsimp only [cmpP]; first | done | omega)) | ((first | apply o_add | apply o_sub | apply o_mul); exact rfl; exact rfl; omega; omega) | ((first | apply o_add_u | apply o_mul_u | apply o_sub_u | apply o_and127); exact rfl; exact rfl; omega; omega) | ((first | apply o_to_i64 | apply o_to_u64 | apply o_to_u8); exact rfl; omega; omega) | exact o_to_u8_mod rfl | (apply o_storeN; exact rfl; exact rfl; exact rfl; exact rfl; (focus repeat first | assumption | exact T.get_set_same .. | refine (T.get_set_ne _ _ (by omega)).trans ?_); omega; simp [vcells]; exact rfl) | exact o_build rfl rfl | (apply o_buildSlice; exact rfl; exact rfl; simp only [List.length_cons, List.length_nil, Nat.reduceAdd]; exact rfl) | (apply o_alloc; simp only [List.length_cons, List.length_nil, Nat.reduceAdd]; exact rfl) | (apply o_box; exact rfl; exact rfl; exact rfl; simp only [List.length_cons, List.length_nil, Nat.reduceAdd]; exact rfl) | exact o_strToBytes rfl | exact o_extract rfl rfl | exact o_field rfl rfl | exact o_not rfl | exact o_eqNil rfl rfl rfl rfl rfl | (apply o_indexStr; exact rfl; exact rfl; assumption) | exact o_mkFunc rfl rfl); iterate 2 try exact rfl) | refine r_skip rfl ?_ | refine dw_skip rfl ?_ | refine r_nil ?_ | refine d_nil ?_ | refine c_seq ?_ | refine c_region ?_ | refine q_seq ?_ | refine c_true rfl ?_ | refine c_false rfl ?_ | refine c_skip ?_ | refine c_ret ?_ | refine c_exit ?_ | refine c_block ?_ | refine c_draw ?_ | refine q_seq_ret ?_ | refine q_seq_exit ?_ | refine q_block ?_ | refine q_block_ret ?_ | refine q_block_here rfl ?_ | refine q_block_out rfl ?_ | refine q_loop_exit ?_ | refine q_loop_ret ?_)
          refine q_ret (l := [.int .u64 0]) ?_ (hfin _ rfl)
          repeat (first | exact .nil | refine .tmp rfl ?_)
      · rw [num_last (by omega) (by omega) hbad] at hnum
        subst hnum
        have hz := hov (by omega)
        rw [show c.toNat % 128 = c.toNat by omega] at hz
        have hfin : ∀ (S : St), S = ⟨s'.heap.set g (.row [.string b, .int .i64 (p + (i + 1)), .int .i64 0] 3 3), s'.next, Nat.min s'.low g⟩ → Num60 g b p s' (acc + c.toNat * 128 ^ i, i + 1, 0) (.int .u64 z) S := fun S hS => by
          subst hS
          refine ⟨by rw [hz], ⟨3, Nat.le_refl _, ?_⟩, only_set _ _ _⟩
          rw [T.get_set_same]
          rfl
        by_cases hc0 : c.toNat = 0
        · have hi0 : i = 0 := by omega
          repeat (first | ((first | apply r_op | apply r_opn | (apply dw_pure; exact rfl) | (apply dw_make; exact rfl) | apply dw_load); exact rfl; (first | exact o_mv rfl | exact o_nilCheck rfl | exact o_fieldAddr rfl | ((first | apply o_load | apply o_loadN); exact rfl; (focus repeat first | assumption | exact T.get_set_same .. | refine (T.get_set_ne _ _ (by omega)).trans ?_); omega; omega; first | exact rfl | assumption | exact nfl_ok rfl) | ((first | apply o_loadS | apply o_loadNS); exact rfl; assumption; omega; first | exact rfl | assumption | exact nfl_ok rfl) | (apply o_indexSl; exact rfl; exact rfl; omega; first | assumption | exact rfl) | exact o_lenStr rfl | exact o_lenSl rfl | exact o_pick_t rfl rfl | exact o_pick_f rfl rfl | (apply o_cmp_t; exact rfl; exact rfl; exact rfl; focus (dsimp only [cmpP]; first | done | omega)) | (apply o_cmp_f; exact rfl; exact rfl; exact rfl; focus (dsimp only [cmpP]; first | done | omega)) | ((first | apply o_add | apply o_sub | apply o_mul); exact rfl; exact rfl; omega; omega) | ((first | apply o_add_u | apply o_mul_u | apply o_sub_u | apply o_and127); exact rfl; exact rfl; omega; omega) | ((first | apply o_to_i64 | apply o_to_u64 | apply o_to_u8); exact rfl; omega; omega) | exact o_to_u8_mod rfl | (apply o_storeN; exact rfl; exact rfl; exact rfl; exact rfl; (focus repeat first | assumption | exact T.get_set_same .. | refine (T.get_set_ne _ _ (by omega)).trans ?_); omega; simp [vcells]; exact rfl) | exact o_build rfl rfl | (apply o_buildSlice; exact rfl; exact rfl; simp only [List.length_cons, List.length_nil, Nat.reduceAdd]; exact rfl) | (apply o_alloc; simp only [List.length_cons, List.length_nil, Nat.reduceAdd]; exact rfl) | (apply o_box; exact rfl; exact rfl; exact rfl; simp only [List.length_cons, List.length_nil, Nat.reduceAdd]; exact rfl) | exact o_strToBytes rfl | exact o_extract rfl rfl | exact o_field rfl rfl | exact o_not rfl | exact o_eqNil rfl rfl rfl rfl rfl | (apply o_indexStr; exact rfl; exact rfl; assumption) | exact o_mkFunc rfl rfl); iterate 2 try exact rfl) | refine r_skip rfl ?_ | refine dw_skip rfl ?_ | refine r_nil ?_ | refine d_nil ?_ | refine c_seq ?_ | refine c_region ?_ | refine q_seq ?_ | refine c_true rfl ?_ | refine c_false rfl ?_ | refine c_skip ?_ | refine c_ret ?_ | refine c_exit ?_ | refine c_block ?_ | refine c_draw ?_ | refine q_seq_ret ?_ | refine q_seq_exit ?_ | refine q_block ?_ | refine q_block_ret ?_ | refine q_block_here rfl ?_ | refine q_block_out rfl ?_ | refine q_loop_exit ?_ | refine q_loop_ret ?_)
          refine q_ret (l := [.int .u64 z]) ?_ (hfin _ rfl)
          repeat (first | exact .nil | refine .tmp rfl ?_)
        · by_cases hi9 : i = 9
          · repeat (first | ((first | apply r_op | apply r_opn | (apply dw_pure; exact rfl) | (apply dw_make; exact rfl) | apply dw_load); exact rfl; (first | exact o_mv rfl | exact o_nilCheck rfl | exact o_fieldAddr rfl | ((first | apply o_load | apply o_loadN); exact rfl; (focus repeat first | assumption | exact T.get_set_same .. | refine (T.get_set_ne _ _ (by omega)).trans ?_); omega; omega; first | exact rfl | assumption | exact nfl_ok rfl) | ((first | apply o_loadS | apply o_loadNS); exact rfl; assumption; omega; first | exact rfl | assumption | exact nfl_ok rfl) | (apply o_indexSl; exact rfl; exact rfl; omega; first | assumption | exact rfl) | exact o_lenStr rfl | exact o_lenSl rfl | exact o_pick_t rfl rfl | exact o_pick_f rfl rfl | (apply o_cmp_t; exact rfl; exact rfl; exact rfl; focus (dsimp only [cmpP]; first | done | omega)) | (apply o_cmp_f; exact rfl; exact rfl; exact rfl; focus (dsimp only [cmpP]; first | done | omega)) | ((first | apply o_add | apply o_sub | apply o_mul); exact rfl; exact rfl; omega; omega) | ((first | apply o_add_u | apply o_mul_u | apply o_sub_u | apply o_and127); exact rfl; exact rfl; omega; omega) | ((first | apply o_to_i64 | apply o_to_u64 | apply o_to_u8); exact rfl; omega; omega) | exact o_to_u8_mod rfl | (apply o_storeN; exact rfl; exact rfl; exact rfl; exact rfl; (focus repeat first | assumption | exact T.get_set_same .. | refine (T.get_set_ne _ _ (by omega)).trans ?_); omega; simp [vcells]; exact rfl) | exact o_build rfl rfl | (apply o_buildSlice; exact rfl; exact rfl; simp only [List.length_cons, List.length_nil, Nat.reduceAdd]; exact rfl) | (apply o_alloc; simp only [List.length_cons, List.length_nil, Nat.reduceAdd]; exact rfl) | (apply o_box; exact rfl; exact rfl; exact rfl; simp only [List.length_cons, List.length_nil, Nat.reduceAdd]; exact rfl) | exact o_strToBytes rfl | exact o_extract rfl rfl | exact o_field rfl rfl | exact o_not rfl | exact o_eqNil rfl rfl rfl rfl rfl | (apply o_indexStr; exact rfl; exact rfl; assumption) | exact o_mkFunc rfl rfl); iterate 2 try exact rfl) | refine r_skip rfl ?_ | refine dw_skip rfl ?_ | refine r_nil ?_ | refine d_nil ?_ | refine c_seq ?_ | refine c_region ?_ | refine q_seq ?_ | refine c_true rfl ?_ | refine c_false rfl ?_ | refine c_skip ?_ | refine c_ret ?_ | refine c_exit ?_ | refine c_block ?_ | refine c_draw ?_ | refine q_seq_ret ?_ | refine q_seq_exit ?_ | refine q_block ?_ | refine q_block_ret ?_ | refine q_block_here rfl ?_ | refine q_block_out rfl ?_ | refine q_loop_exit ?_ | refine q_loop_ret ?_)
            refine q_ret (l := [.int .u64 z]) ?_ (hfin _ rfl)
            repeat (first | exact .nil | refine .tmp rfl ?_)
          · repeat (first | ((first | apply r_op | apply r_opn | (apply dw_pure; exact rfl) | (apply dw_make; exact rfl) | apply dw_load); exact rfl; (first | exact o_mv rfl | exact o_nilCheck rfl | exact o_fieldAddr rfl | ((first | apply o_load | apply o_loadN); exact rfl; (focus repeat first | assumption | exact T.get_set_same .. | refine (T.get_set_ne _ _ (by omega)).trans ?_); omega; omega; first | exact rfl | assumption | exact nfl_ok rfl) | ((first | apply o_loadS | apply o_loadNS); exact rfl; assumption; omega; first | exact rfl | assumption | exact nfl_ok rfl) | (apply o_indexSl; exact rfl; exact rfl; omega; first | assumption | exact rfl) | exact o_lenStr rfl | exact o_lenSl rfl | exact o_pick_t rfl rfl | exact o_pick_f rfl rfl | (apply o_cmp_t; exact rfl; exact rfl; exact rfl; focus (dsimp only [cmpP]; first | done | omega)) | (apply o_cmp_f; exact rfl; exact rfl; exact rfl; focus (dsimp only [cmpP]; first | done | omega)) | ((first | apply o_add | apply o_sub | apply o_mul); exact rfl; exact rfl; omega; omega) | ((first | apply o_add_u | apply o_mul_u | apply o_sub_u | apply o_and127); exact rfl; exact rfl; omega; omega) | ((first | apply o_to_i64 | apply o_to_u64 | apply o_to_u8); exact rfl; omega; omega) | exact o_to_u8_mod rfl | (apply o_storeN; exact rfl; exact rfl; exact rfl; exact rfl; (focus repeat first | assumption | exact T.get_set_same .. | refine (T.get_set_ne _ _ (by omega)).trans ?_); omega; simp [vcells]; exact rfl) | exact o_build rfl rfl | (apply o_buildSlice; exact rfl; exact rfl; simp only [List.length_cons, List.length_nil, Nat.reduceAdd]; exact rfl) | (apply o_alloc; simp only [List.length_cons, List.length_nil, Nat.reduceAdd]; exact rfl) | (apply o_box; exact rfl; exact rfl; exact rfl; simp only [List.length_cons, List.length_nil, Nat.reduceAdd]; exact rfl) | exact o_strToBytes rfl | exact o_extract rfl rfl | exact o_field rfl rfl | exact o_not rfl | exact o_eqNil rfl rfl rfl rfl rfl | (apply o_indexStr; exact rfl; exact rfl; assumption) | exact o_mkFunc rfl rfl); iterate 2 try exact rfl) | refine r_skip rfl ?_ | refine dw_skip rfl ?_ | refine r_nil ?_ | refine d_nil ?_ | refine c_seq ?_ | refine c_region ?_ | refine q_seq ?_ | refine c_true rfl ?_ | refine c_false rfl ?_ | refine c_skip ?_ | refine c_ret ?_ | refine c_exit ?_ | refine c_block ?_ | refine c_draw ?_ | refine q_seq_ret ?_ | refine q_seq_exit ?_ | refine q_block ?_ | refine q_block_ret ?_ | refine q_block_here rfl ?_ | refine q_block_out rfl ?_ | refine q_loop_exit ?_ | refine q_loop_ret ?_)
            refine q_ret (l := [.int .u64 z]) ?_ (hfin _ rfl)
            repeat (first | exact .nil | refine .tmp rfl ?_)
  · have hie : i = m := by omega
    subst hie
    by_cases h10 : 10 ≤ r.size
    · have e10 : i = 10 := by omega
      have hN2 := hten e10
      repeat (first | ((first | apply r_op | apply r_opn | (apply dw_pure; exact rfl) | (apply dw_make; exact rfl) | apply dw_load); exact rfl; (first | exact o_mv rfl | exact o_nilCheck rfl | exact o_fieldAddr rfl | ((first | apply o_load | apply o_loadN); exact rfl; (focus repeat first | assumption | exact T.get_set_same .. | refine (T.get_set_ne _ _ (by omega)).trans ?_); omega; omega; first | exact rfl | assumption | exact nfl_ok rfl) | ((first | apply o_loadS | apply o_loadNS); exact rfl; assumption; omega; first | exact rfl | assumption | exact nfl_ok rfl) | (apply o_indexSl; exact rfl; exact rfl; omega; first | assumption | exact rfl) | exact o_lenStr rfl | exact o_lenSl rfl | exact o_pick_t rfl rfl | exact o_pick_f rfl rfl | (apply o_cmp_t; exact rfl; exact rfl; exact rfl; focus (dsimp only [cmpP]; first | done | omega)) | (apply o_cmp_f; exact rfl; exact rfl; exact rfl; focus (dsimp only [cmpP]; first | done | omega)) | ((first | apply o_add | apply o_sub | apply o_mul); exact rfl; exact rfl; omega; omega) | ((first | apply o_add_u | apply o_mul_u | apply o_sub_u | apply o_and127); exact rfl; exact rfl; omega; omega) | ((first | apply o_to_i64 | apply o_to_u64 | apply o_to_u8); exact rfl; omega; omega) | exact o_to_u8_mod rfl | (apply o_storeN; exact rfl; exact rfl; exact rfl; exact rfl; (focus repeat first | assumption | exact T.get_set_same .. | refine (T.get_set_ne _ _ (by omega)).trans ?_); omega; simp [vcells]; exact rfl) | exact o_build rfl rfl | (apply o_buildSlice; exact rfl; exact rfl; simp only [List.length_cons, List.length_nil, Nat.reduceAdd]; exact rfl) | (apply o_alloc; simp only [List.length_cons, List.length_nil, Nat.reduceAdd]; exact rfl) | (apply o_box; exact rfl; exact rfl; exact rfl; simp only [List.length_cons, List.length_nil, Nat.reduceAdd]; exact rfl) | exact o_strToBytes rfl | exact o_extract rfl rfl | exact o_field rfl rfl | exact o_not rfl | exact o_eqNil rfl rfl rfl rfl rfl | (apply o_indexStr; exact rfl; exact rfl; assumption) | exact o_mkFunc rfl rfl); iterate 2 try exact rfl) | refine r_skip rfl ?_ | refine dw_skip rfl ?_ | refine r_nil ?_ | refine d_nil ?_ | refine c_seq ?_ | refine c_region ?_ | refine q_seq ?_ | refine c_true rfl ?_ | refine c_false rfl ?_ | refine c_skip ?_ | refine c_ret ?_ | refine c_exit ?_ | refine c_block ?_ | refine c_draw ?_ | refine q_seq_ret ?_ | refine q_seq_exit ?_ | refine q_block ?_ | refine q_block_ret ?_ | refine q_block_here rfl ?_ | refine q_block_out rfl ?_ | refine q_loop_exit ?_ | refine q_loop_ret ?_)
      refine q_ret (l := [.int .u64 0]) ?_ ?_
      repeat (first | exact .nil | refine .tmp rfl ?_)
      subst hN2
      refine ⟨rfl, rd_set, ?_⟩
      exact (only_set _ _ _).trans (only_set _ _ _)
    · have em : i = r.size := by omega
      obtain ⟨acc, -, -, hnum⟩ := hlt (by omega)
      rw [List.drop_eq_nil_of_le (by rw [hrl]; omega), num_nil, if_pos (by omega)] at hnum
      subst hnum
      repeat (first | ((first | apply r_op | apply r_opn | (apply dw_pure; exact rfl) | (apply dw_make; exact rfl) | apply dw_load); exact rfl; (first | exact o_mv rfl | exact o_nilCheck rfl | exact o_fieldAddr rfl | ((first | apply o_load | apply o_loadN); exact rfl; (focus repeat first | assumption | exact T.get_set_same .. | refine (T.get_set_ne _ _ (by omega)).trans ?_); omega; omega; first | exact rfl | assumption | exact nfl_ok rfl) | ((first | apply o_loadS | apply o_loadNS); exact rfl; assumption; omega; first | exact rfl | assumption | exact nfl_ok rfl) | (apply o_indexSl; exact rfl; exact rfl; omega; first | assumption | exact rfl) | exact o_lenStr rfl | exact o_lenSl rfl | exact o_pick_t rfl rfl | exact o_pick_f rfl rfl | (apply o_cmp_t; exact rfl; exact rfl; exact rfl; focus (dsimp only [cmpP]; first | done | omega)) | (apply o_cmp_f; exact rfl; exact rfl; exact rfl; focus (dsimp only [cmpP]; first | done | omega)) | ((first | apply o_add | apply o_sub | apply o_mul); exact rfl; exact rfl; omega; omega) | ((first | apply o_add_u | apply o_mul_u | apply o_sub_u | apply o_and127); exact rfl; exact rfl; omega; omega) | ((first | apply o_to_i64 | apply o_to_u64 | apply o_to_u8); exact rfl; omega; omega) | exact o_to_u8_mod rfl | (apply o_storeN; exact rfl; exact rfl; exact rfl; exact rfl; (focus repeat first | assumption | exact T.get_set_same .. | refine (T.get_set_ne _ _ (by omega)).trans ?_); omega; simp [vcells]; exact rfl) | exact o_build rfl rfl | (apply o_buildSlice; exact rfl; exact rfl; simp only [List.length_cons, List.length_nil, Nat.reduceAdd]; exact rfl) | (apply o_alloc; simp only [List.length_cons, List.length_nil, Nat.reduceAdd]; exact rfl) | (apply o_box; exact rfl; exact rfl; exact rfl; simp only [List.length_cons, List.length_nil, Nat.reduceAdd]; exact rfl) | exact o_strToBytes rfl | exact o_extract rfl rfl | exact o_field rfl rfl | exact o_not rfl | exact o_eqNil rfl rfl rfl rfl rfl | (apply o_indexStr; exact rfl; exact rfl; assumption) | exact o_mkFunc rfl rfl); iterate 2 try exact rfl) | refine r_skip rfl ?_ | refine dw_skip rfl ?_ | refine r_nil ?_ | refine d_nil ?_ | refine c_seq ?_ | refine c_region ?_ | refine q_seq ?_ | refine c_true rfl ?_ | refine c_false rfl ?_ | refine c_skip ?_ | refine c_ret ?_ | refine c_exit ?_ | refine c_block ?_ | refine c_draw ?_ | refine q_seq_ret ?_ | refine q_seq_exit ?_ | refine q_block ?_ | refine q_block_ret ?_ | refine q_block_here rfl ?_ | refine q_block_out rfl ?_ | refine q_loop_exit ?_ | refine q_loop_ret ?_)
      refine q_ret (l := [.int .u64 0]) ?_ ⟨rfl, rd_set, only_set _ _ _⟩
      repeat (first | exact .nil | refine .tmp rfl ?_)
end Go.Am.R1B
