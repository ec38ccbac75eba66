/-
  More contracts of chunk and of its reference.
-/
import Derived.Test.YthfljfcpeoofiaaQCc
set_option maxRecDepth 100000
namespace Go.Vc
open Go Go.Proofs Go.Plain
theorem rep_splice (x : C) (n k m : Nat) (z : C) (hk : k + m ≤ n) : splice (List.replicate k x ++ List.replicate (n - k) z) k (List.replicate m x) = List.replicate (k + m) x ++ List.replicate (n - (k + m)) z := by
  unfold splice
  rw [List.take_append_of_le_length (by simp), List.take_of_length_le (by simp), List.length_append, List.length_replicate, List.length_replicate, List.length_replicate,
    List.take_of_length_le (by rw [List.length_replicate]; omega), List.drop_append, List.length_replicate, List.drop_of_length_le (by rw [List.length_replicate]; omega), List.drop_replicate,
    show n - k - (k + m - k) = n - (k + m) by omega, List.nil_append, ← List.append_assoc, List.replicate_append_replicate]
theorem pc_slices_Repeat (x : Nat) (n : Nat) (hn : n ≤ 100000) : PC Try.prog f_slices_Repeat___int_int_ [(.sl I64, Ns [x]), (I64, .int n)] [(.sl I64, Ns (List.replicate n x))] := by
  apply pcv_slices_Repeat___int_int_ rfl
  simp only [vc_slices_Repeat___int_int_, VC.H_asrt, VC.H_cond, VC.H_call2, ev_var, ev_int, ev_bool, ev_mul, ev_lss, ev_leq, ev_gtr, ev_geq, ev_ite, ev_conv, ev_len, ea_nil, ea_cons, env_zero, env_succ, env_cons, env_nil, List.map_cons, List.map_nil, v_int, v_bool, v_ls, bool_ite, pres_nil, orT, orF, decide_eq_true_eq, decide_eq_false_iff_not, forall_const, Int.not_lt, List.length_cons, List.length_nil]
  have c1 : IntKind.u64.wrap (((0 + 1 : Nat) : Nat) : Int) = 1 := rfl
  have c2 : IntKind.u64.wrap (n : Int) = n := by rw [wrapu64]; omega
  have c3 : IntKind.i64.wrap (n : Int) = n := wrapi64_in (by omega)
  rw [c1, c2]
  refine ⟨fun h => by omega, fun _ => ⟨_, _, pc_math_bits_Mul n (by omega), ?_⟩⟩
  simp only [v_int, c3]
  refine ⟨fun h => by omega, fun _ => ⟨by omega, by omega, by omega, ?_⟩⟩
  have hr : Ns (List.replicate n x) = .ls (List.replicate n (C.int x)) := by simp [Ns]
  rw [hr]
  refine VC.go_loop (fun k : Nat => [.int k, .ls (List.replicate k (C.int x) ++ List.replicate (n - k) (C.int 0))]) (fun k => k ≤ n ∧ (1 ≤ n → 1 ≤ k)) (fun k => n - k) (min 1 n) ?_ ⟨by omega, by omega⟩ fun k hk => ?_
  · simp only [ev_var, ev_int, ev_conv, ev_len, ev_sub, ev_rep, ev_splice, ev_minI, env_zero, env_succ, List.map_cons, List.map_nil, v_int, v_ls, Int.toNat_natCast, c3, Int.toNat_zero, List.drop_zero, List.length_cons, List.length_nil]
    have e1 : min (((0 + 1 : Nat) : Nat) : Int) (n : Int) = ((min 1 n : Nat) : Int) := by omega
    rw [e1]
    congr 2
    congr 1
    by_cases h0 : n = 0
    · subst h0
      rfl
    · have e2 : List.take n [C.int (x : Int)] = List.replicate 1 (C.int x) := by
        rw [List.take_of_length_le (by simp; omega)]
        rfl
      have e3 : min 1 n = 1 := by omega
      have := rep_splice (C.int x) n 0 1 (C.int 0) (by omega)
      rw [e2, e3]
      simpa using this
  · simp only [VC.H_asrt, VC.H_cond, VC.H_ret, VC.H_back, ev_var, ev_int, ev_add, ev_sub', ev_lss, ev_leq, ev_geq, ev_conv, ev_len, ev_sub, ev_splice, ev_minI, ev_fits64, ea_nil, ea_cons, env_zero, env_succ, env_cons, env_nil, List.map_cons, List.map_nil, v_int, v_bool, v_ls, pres_nil, decide_eq_true_eq, decide_eq_false_iff_not, forall_const, Int.not_lt, c3, Int.toNat_natCast, Int.toNat_zero, List.drop_zero]
    have t1 : (0 + ((k : Int) - 0)).toNat = k := by omega
    have t2 : ((n : Int) - k).toNat = n - k := by omega
    have e1 : (List.replicate k (C.int x) ++ List.replicate (n - k) (C.int 0)).take k = List.replicate k (C.int (x : Int)) := by
      rw [List.take_append_of_le_length (by simp), List.take_of_length_le (by simp)]
    rw [t1, t2, e1, List.length_replicate]
    refine ⟨fun hc => ?_, fun hc => ?_⟩
    · have e2 : min (k : Int) ((n : Int) - k) = ((min k (n - k) : Nat) : Int) := by omega
      rw [e2]
      refine ⟨by omega, by omega, by omega, by omega, by omega, by omega, k + min k (n - k), ?_, ⟨by omega, by omega⟩, by omega⟩
      have := rep_splice (C.int x) n k (min k (n - k)) (C.int 0) (by omega)
      rw [List.take_replicate, Nat.min_comm (n - k) k, this]
      simp
    · have : k = n := by omega
      subst this
      simp
theorem ckT_len (c : Nat) (h : c < 65536) : (ckT c).length ≤ 8191 := by
  unfold ckT
  split
  · rw [List.length_replicate]; omega
  · split <;> simp
theorem and_pow (c k : Nat) : c &&& 2 ^ k = 0 ↔ c.testBit k = false := by
  constructor
  · intro h
    have := congrArg (fun n => n.testBit k) h
    simpa [Nat.testBit_and, Nat.testBit_two_pow_self] using this
  · intro h
    apply Nat.eq_of_testBit_eq
    intro i
    rw [Nat.testBit_and, Nat.testBit_two_pow, Nat.zero_testBit]
    by_cases hi : k = i
    · subst hi
      simp [h]
    · simp [hi]
theorem hi_bit : ∀ c : Nat, c < 65536 → (arith .and .u16 (c : Int) 32768 = 0 ↔ c < 32768) := by
  intro c hc
  rw [show (32768 : Int) = ((32768 : Nat) : Int) from rfl, arith_andU rfl (by show _ < 2 ^ 16; omega) (by decide)]
  rw [show (32768 : Nat) = 2 ^ 15 from rfl]
  have h := and_pow c 15
  rw [Nat.testBit_eq_decide_div_mod_eq, decide_eq_false_iff_not] at h
  omega
theorem mid_bit : ∀ c : Nat, c < 65536 → 32768 ≤ c → (arith .and .u16 (c : Int) 16384 = 0 ↔ c < 49152) := by
  intro c hc h32
  rw [show (16384 : Int) = ((16384 : Nat) : Int) from rfl, arith_andU rfl (by show _ < 2 ^ 16; omega) (by decide)]
  rw [show (16384 : Nat) = 2 ^ 14 from rfl]
  have h := and_pow c 14
  rw [Nat.testBit_eq_decide_div_mod_eq, decide_eq_false_iff_not] at h
  omega
theorem low13 (c : Nat) (hc : c < 65536) : IntKind.i64.wrap (arith .and .u16 (c : Int) 8191) = ((c % 8192 : Nat) : Int) := by
  rw [show (8191 : Int) = ((8191 : Nat) : Int) from rfl, arith_andU rfl (by show _ < 2 ^ 16; omega) (by decide)]
  have := Nat.and_two_pow_sub_one_eq_mod c 13
  rw [show (8191 : Nat) = 2 ^ 13 - 1 from rfl, this, wrapi64_in (by omega)]
theorem top3 (c : Nat) (hc : c < 32768) : arith .and .i64 (IntKind.i64.wrap (arith .shr .u16 (c : Int) 13)) 3 = ((c / 8192 : Nat) : Int) := by
  have e1 : arith .shr .u16 (c : Int) 13 = ((c / 8192 : Nat) : Int) := by
    rw [arith_shr]
    simp [IntKind.bits]
  rw [e1, wrapi64_in (by omega), show (3 : Int) = ((3 : Nat) : Int) from rfl, arith_andH (by show _ < 2 ^ 63; omega) (by decide)]
  have := Nat.and_two_pow_sub_one_eq_mod (c / 8192) 2
  rw [show (3 : Nat) = 2 ^ 2 - 1 from rfl, this]
  omega
theorem digit_of (c w k : Nat) (hc : c < 65536) (hw : 1 ≤ w ∧ w ≤ 2) (hk : k ≤ 16) : arith .and .i64 (IntKind.i64.wrap (arith .shr .u16 (c : Int) (k : Int))) (arith .shl .i64 1 (w : Int) - 1) = ((c / 2 ^ k % 2 ^ w : Nat) : Int) := by
  have e1 : arith .shr .u16 (c : Int) (k : Int) = ((c / 2 ^ k : Nat) : Int) := by
    rw [arith_shr, Int.toNat_natCast, Nat.min_eq_left (by simp only [IntKind.bits]; omega)]
    simp
  have h1 : c / 2 ^ k ≤ c := Nat.div_le_self _ _
  generalize c / 2 ^ k = q at e1 h1
  have e2 : arith .shl .i64 1 (w : Int) - 1 = ((2 ^ w - 1 : Nat) : Int) := by
    rcases (show w = 1 ∨ w = 2 by omega) with rfl | rfl <;> rfl
  rw [e1, wrapi64_in (by omega), e2, arith_andH (by show _ < 2 ^ 63; omega) (by show _ < 2 ^ 63; rcases (show w = 1 ∨ w = 2 by omega) with rfl | rfl <;> decide), Nat.and_two_pow_sub_one_eq_mod]
theorem pc_chunk_unpack (c m : Nat) (hc : c < 65536) (hm : m ≤ 4000) : PC Try.prog f_chunk_unpack [(U16, .int c), (I64, .int m)] [(.sl I64, Ns ((ckT c).take m))] := by
  apply pcv_chunk_unpack rfl
  simp only [vc_chunk_unpack, VC.H_cond, VC.H_ret, VC.H_call1, ev_var, ev_int, ev_nil, ev_cons, ev_bin, ev_eql, ev_conv, ev_minI, ea_nil, ea_cons, env_zero, env_succ, env_cons, env_nil, List.map_cons, List.map_nil, v_int, v_bool, v_ls, pres_nil, decide_eq_true_eq, decide_eq_false_iff_not, forall_const]
  refine ⟨fun h => ?_, fun h => ?_⟩
  · have h2 : c < 32768 := (hi_bit c hc).1 h
    rw [low13 c hc, top3 c h2]
    have e1 : min ((c % 8192 : Nat) : Int) (m : Int) = ((min (c % 8192) m : Nat) : Int) := by omega
    rw [e1]
    refine ⟨_, pc_slices_Repeat (c / 8192) (min (c % 8192) m) (by omega), ?_⟩
    rw [ckT, if_pos h2, List.take_replicate, Nat.min_comm]
  · have h2 : ¬ c < 32768 := fun h' => h ((hi_bit c hc).2 h')
    by_cases h3 : c < 49152
    · have hz := (mid_bit c hc (by omega)).2 h3
      rw [ckT, if_neg h2, if_pos h3]
      refine VC.go_loop (fun i : Nat => [Ns ((List.range i).map fun i => c / 2 ^ (13 - i) % 2), .int i]) (fun i => i ≤ min 14 m) (fun i => 14 - i) 0 rfl (Nat.zero_le _) fun i hi => ?_
      simp only [VC.H_asrt, VC.H_cond, VC.H_ret, VC.H_back, ev_var, ev_int, ev_nil, ev_cons, ev_bin, ev_add, ev_sub', ev_mul, ev_neq, ev_lss, ev_leq, ev_geq, ev_ite, ev_conv, ev_len, ev_app, ev_minI, ev_fits64, ea_nil, ea_cons, env_zero, env_succ, env_cons, env_nil, List.map_cons, List.map_nil, v_int, v_bool, v_ls, pres_nil, decide_eq_true_eq, decide_eq_false_iff_not, forall_const, Int.not_lt, hz, not_true_eq_false, if_false, List.length_map, List.length_range, List.length_cons, List.length_nil, ne_eq]
      refine ⟨fun hc2 => ?_, fun hc2 => ?_⟩
      · have ek : (1 : Int) * (14 - 1 - (i : Int)) = ((13 - i : Nat) : Int) := by omega
        have ed := digit_of c 1 (13 - i) hc (by decide) (by omega)
        rw [ek]
        rw [show ((1 : Nat) : Int) = 1 from rfl] at ed
        refine ⟨by omega, by omega, by omega, by omega, by omega, by decide, by omega, by omega, i + 1, ?_, by omega, by omega⟩
        rw [ed, List.range_succ, List.map_append]
        simp
      · have : i = min 14 m := by omega
        subst this
        congr 3
        rw [← List.map_take, List.take_range, Nat.min_comm]
    · have hz : ¬ arith .and .u16 (c : Int) 16384 = 0 := fun h' => h3 ((mid_bit c hc (by omega)).1 h')
      rw [ckT, if_neg h2, if_neg h3]
      refine VC.go_loop (fun i : Nat => [Ns ((List.range i).map fun i => c / 4 ^ (6 - i) % 4), .int i]) (fun i => i ≤ min 7 m) (fun i => 7 - i) 0 rfl (Nat.zero_le _) fun i hi => ?_
      simp only [VC.H_asrt, VC.H_cond, VC.H_ret, VC.H_back, ev_var, ev_int, ev_nil, ev_cons, ev_bin, ev_add, ev_sub', ev_mul, ev_neq, ev_lss, ev_leq, ev_geq, ev_ite, ev_conv, ev_len, ev_app, ev_minI, ev_fits64, ea_nil, ea_cons, env_zero, env_succ, env_cons, env_nil, List.map_cons, List.map_nil, v_int, v_bool, v_ls, pres_nil, decide_eq_true_eq, decide_eq_false_iff_not, forall_const, Int.not_lt, hz, not_false_eq_true, if_true, List.length_map, List.length_range, List.length_cons, List.length_nil, ne_eq]
      refine ⟨fun hc2 => ?_, fun hc2 => ?_⟩
      · have ek : (2 : Int) * (7 - 1 - (i : Int)) = ((2 * (6 - i) : Nat) : Int) := by omega
        have ed := digit_of c 2 (2 * (6 - i)) hc (by decide) (by omega)
        rw [ek]
        rw [show ((2 : Nat) : Int) = 2 from rfl, Nat.pow_mul] at ed
        refine ⟨by omega, by omega, by omega, by omega, by omega, by decide, by omega, by omega, i + 1, ?_, by omega, by omega⟩
        rw [ed, List.range_succ, List.map_append]
        simp
      · have : i = min 7 m := by omega
        subst this
        congr 3
        rw [← List.map_take, List.take_range, Nat.min_comm]
end Go.Vc
