/-
  The contracts of remb's reading and of its reference, each out of its condition.
-/
import Derived.Test.YtkkkjjonjdkngaaQMc
set_option maxRecDepth 100000
namespace Go.Vc
open Go Go.Proofs Go.Plain
theorem rm_bad {b : List UInt8} {e : Int} (h : rmE b = e) (he : e ≠ 0) : RmC (rmR b) = .ls [.int 0, .int 0, .ls []] := by
  rw [rmR, if_neg (by rw [h]; exact he)]
  rfl
theorem w8i (b : List UInt8) (i : Nat) : IntKind.i64.wrap (at_ b i : Nat) = ((at_ b i : Nat) : Int) := by have := at_lt b i; exact wrapi64_in (by omega)
theorem quo4 (n : Nat) (h : 8 ≤ n) (h2 : n ≤ 65520) : arith .quo .i64 ((n : Nat) - 8 : Int) 4 = (((n - 8) / 4 : Nat) : Int) := by
  rw [arith_quo _ _ _ (by omega), wrapi64_in (by omega)]
  omega
theorem num_get (b : List UInt8) (i n : Nat) (h : i + n ≤ b.length) (hn : 1 ≤ n ∧ n ≤ 8) : getV b (i : Int) (n : Int) = num b i n := by
  have e : getE b.length i n = 0 := by rw [getE_zero]; omega
  rw [getV, if_pos e]
  rfl
theorem srcs_snoc (b : List UInt8) (i : Nat) : Ns ((List.range (i + 1)).map fun j => num b (8 + 4 * j) 4) = .ls ((Ns ((List.range i).map fun j => num b (8 + 4 * j) 4)).toList ++ [.int (num b (8 + 4 * i) 4 : Nat)]) := by
  rw [List.range_succ]
  simp [Ns]
theorem n18 (n : Nat) (h : n < 16777216) : IntKind.i64.wrap (arith .shr .u64 ((n : Nat) : Int) 18) = ((n / 262144 : Nat) : Int) ∧ IntKind.u32.wrap (arith .and .u64 ((n : Nat) : Int) 262143) = ((n % 262144 : Nat) : Int) := by
  have e1 : arith .shr .u64 ((n : Nat) : Int) 18 = ((n / 2 ^ 18 : Nat) : Int) := shrN .u64 n 18 (by decide)
  have e2 : arith .and .u64 ((n : Nat) : Int) 262143 = ((n % 262144 : Nat) : Int) := by
    rw [show (262143 : Int) = ((262143 : Nat) : Int) by rfl, arith_andU rfl (by show _ < 2 ^ 64; omega) (by decide)]
    have := Nat.and_two_pow_sub_one_eq_mod n 18
    rw [← this]
  rw [e1, e2]
  refine ⟨wrapi64_in (by omega), ?_⟩
  rw [wrapu32]
  omega
theorem pc_remb_Read (b : List UInt8) (hb : b.length ≤ 140737488355328) : PC Try.prog f_remb_Read [(Byt, B b)] [(RmSh, RmC (rmR b)), (I64, .int (rmE b))] := by
  apply pcv_remb_Read rfl
  have i4 : Int.toNat 4 = 4 := rfl
  have i0 : Int.toNat 0 = 0 := rfl
  have l4 := at_lt b 4
  simp only [vc_remb_Read, VC.H_asrt, VC.H_cond, VC.H_ret, VC.H_call1, VC.H_call2, ev_var, ev_int, ev_bool, ev_str, ev_nil, ev_nilS, ev_cons, ev_bin, ev_sub', ev_neq, ev_lss, ev_leq, ev_gtr, ev_sneq, ev_ite, ev_conv, ev_len, ev_idx, ev_sub, ev_toStr, ev_fits64, ea_nil, ea_cons, env_zero, env_succ, env_cons, env_nil, List.map_cons, List.map_nil, v_int, v_bool, v_str, v_ls, bool_ite, pres_nil, orT, orF, nnE, decide_eq_true_eq, decide_eq_false_iff_not, forall_const, Int.not_lt, ofBytes_length, ofBytes_getD, i4, i0, atD, w8i, mod4 _ (show b.length < 9223372036854775807 by omega), List.drop_zero, ofBytes_take, bytesOf_ofBytes]
  have hs : ([82, 69, 77, 66] : List UInt8) = rembB := rfl
  rw [hs]
  refine ⟨fun h1 => ?_, fun h1 => ⟨fun h2 => ?_, fun h2 => ⟨by omega, fun h3 => ?_, fun h3 => ⟨by omega, by omega, ?_⟩⟩⟩⟩
  · have e : rmE b = 4 := by unfold rmE; rw [if_pos (by omega)]
    rw [rm_bad e (by decide), e]
  · have e : rmE b = 2 := by unfold rmE; rw [if_neg (by omega), if_pos (by omega)]
    rw [rm_bad e (by decide), e]
  · have e : rmE b = 6 := by unfold rmE; rw [if_neg (by omega), if_neg (by omega), if_pos h3]
    rw [rm_bad e (by decide), e]
  · rw [quo4 _ (by omega) (by omega)]
    have h3 : b.take 4 = rembB := by simpa using h3
    refine ⟨fun h4 => ?_, fun h4 => ⟨fun h5 => ?_, fun h5 => ?_⟩⟩
    · have e : rmE b = 2 := by unfold rmE; rw [if_neg (by omega), if_neg (by omega), if_neg (by simp [h3]), if_pos (by omega)]
      rw [rm_bad e (by decide), e]
    · have e : rmE b = 4 := by unfold rmE; rw [if_neg (by omega), if_neg (by omega), if_neg (by simp [h3]), if_neg (by omega), if_pos (by omega)]
      rw [rm_bad e (by decide), e]
    · have hl : b.length = 8 + 4 * at_ b 4 := by omega
      have e : rmE b = 0 := by rw [rmE_zero]; exact ⟨by omega, by omega, h3, hl⟩
      have hn : num b 5 3 < 16777216 := num_lt b 5 3
      have g := num_get b 5 3 (by omega) (by omega)
      obtain ⟨q1, q2⟩ := n18 _ hn
      refine ⟨_, _, pc_octet_Get b 5 3 (by omega), ?_⟩
      rw [show getV b 5 3 = num b 5 3 from g, v_int, q1, q2]
      refine ⟨_, pl_remb_least _ _ (by omega) (by omega), ?_⟩
      refine VC.go_loop (fun i : Nat => [.int i, Ns ((List.range i).map fun j => num b (8 + 4 * j) 4)]) (fun i => i ≤ at_ b 4) (fun i => at_ b 4 - i) 0 rfl (Nat.zero_le _) fun i hi => ?_
      simp only [VC.H_asrt, VC.H_cond, VC.H_ret, VC.H_back, VC.H_call2, ev_var, ev_int, ev_nil, ev_cons, ev_hd, ev_tl, ev_add, ev_mul, ev_lss, ev_leq, ev_conv, ev_len, ev_idx, ev_app, ev_fits64, ea_nil, ea_cons, env_zero, env_succ, env_cons, env_nil, List.map_cons, List.map_nil, v_int, v_bool, v_ls, v_hd, v_tl, pres_nil, decide_eq_true_eq, decide_eq_false_iff_not, forall_const, Int.not_lt, ofBytes_getD, i4, atD, w8i, List.length_map, List.length_range]
      refine ⟨fun hc => ?_, fun hc => ?_⟩
      · have ei : (8 : Int) + 4 * (i : Int) = ((8 + 4 * i : Nat) : Int) := by omega
        have g4 := num_get b (8 + 4 * i) 4 (by omega) (by omega)
        have hl4 : num b (8 + 4 * i) 4 < 4294967296 := num_lt b _ 4
        rw [ei]
        refine ⟨by omega, by omega, _, _, pc_octet_Get b ((8 + 4 * i : Nat) : Int) 4 (by omega), ?_⟩
        rw [show getV b ((8 + 4 * i : Nat) : Int) 4 = num b (8 + 4 * i) 4 from g4, v_int, wrapu32]
        have e6 : ((num b (8 + 4 * i) 4 : Nat) : Int) % 4294967296 = ((num b (8 + 4 * i) 4 : Nat) : Int) := by omega
        rw [e6]
        refine ⟨by simp; omega, by omega, i + 1, ?_, by omega, by omega⟩
        rw [srcs_snoc]
        rfl
      · have hi2 : i = at_ b 4 := by omega
        subst hi2
        rw [rmR, if_pos e, e]
        rfl
theorem pc_remb_Canon (b : List UInt8) (hb : b.length ≤ 140737488355328) : PC Try.prog f_remb_Canon [(Byt, B b)] [(.bool, .bool (decide (rmE b = 0 ∧ (Rm.of b).bytes = b)))] := by
  apply pcv_remb_Canon rfl
  simp only [vc_remb_Canon, VC.H_cond, VC.H_ret, VC.H_call1, VC.H_call2, ev_var, ev_int, ev_bool, ev_nil, ev_cons, ev_hd, ev_tl, ev_eql, ev_neq, ev_ite, ea_nil, ea_cons, env_zero, env_succ, env_cons, env_nil, List.map_cons, List.map_nil, v_int, v_bool, v_ls, pres_nil, pres_cons, nnE, decide_eq_true_eq, decide_eq_false_iff_not, forall_const, and_true]
  obtain ⟨hr, ho, _⟩ := Rm.of_right b
  refine ⟨_, _, pc_remb_Read b hb, fun h => ?_, fun h => ?_⟩
  · have h : ¬ rmE b = 0 := by simpa using h
    simp [h]
  · have h : rmE b = 0 := by simpa using h
    have e1 : rmR b = Rm.of b := if_pos h
    have e2 : rmwB (Rm.of b) = (Rm.of b).bytes := if_pos hr
    have e3 : rmwE (Rm.of b) = 0 := if_pos hr
    rw [e1]
    refine ⟨_, _, pc_remb_Write _ ho, ?_⟩
    rw [e2, e3]
    refine ⟨_, fun _ => pc_bytes_Equal _ _, ?_⟩
    simp [h]
theorem pc_remb_Of (v : Nat) (h : v < 18446744073709551616) : PC Try.prog f_remb_Of [(U64, .int v)] [(RmSh, RmC (rmOf v))] := by
  apply pcv_remb_Of rfl
  simp only [vc_remb_Of, VC.H_asrt, VC.H_ret, VC.H_call1, ev_var, ev_int, ev_nil, ev_nilS, ev_cons, ev_bin, ev_sub', ev_geq, ev_conv, ev_maxI, ev_fits64, ea_nil, ea_cons, env_zero, env_succ, env_cons, env_nil, List.map_cons, List.map_nil, v_int, v_bool, v_ls, pres_nil, decide_eq_true_eq, forall_const]
  have hb : bl v ≤ 64 := bl_le.2 h
  refine ⟨_, pc_math_bits_Len64 v h, ?_⟩
  simp only [v_int]
  have e1 : max 0 (((bl v : Nat) : Int) - 18) = ((bl v - 18 : Nat) : Int) := by omega
  have hm := (rmOf_mant v).1
  rw [e1, shrN .u64 v (bl v - 18) (by simp only [IntKind.bits]; omega), wrapu32]
  refine ⟨by omega, by omega, ?_⟩
  have e2 : ((v / 2 ^ (bl v - 18) : Nat) : Int) % 4294967296 = ((v / 2 ^ (bl v - 18) : Nat) : Int) := by
    generalize v / 2 ^ (bl v - 18) = m at hm
    omega
  rw [e2]
  rfl
theorem pc_remb_Value (r : Rm) : PC Try.prog f_remb_Value [(RmSh, RmC r)] [(U64, .int (rmV r : Nat))] := by
  apply pcv_remb_Value rfl
  simp only [vc_remb_Value, VC.H_asrt, VC.H_cond, VC.H_ret, VC.H_call1, ev_var, ev_int, ev_nil, ev_cons, ev_hd, ev_tl, ev_bin, ev_add, ev_gtr, ev_geq, ev_not, ev_conv, ev_fits64, ea_nil, ea_cons, env_zero, env_succ, env_cons, env_nil, List.map_cons, List.map_nil, v_int, v_bool, v_ls, v_hd, v_tl, pres_nil, notT, notF, decide_eq_true_eq, decide_eq_false_iff_not, forall_const, Int.not_lt]
  refine ⟨_, pc_remb_Right r, fun h => ?_, fun h => ?_⟩
  · have h : ¬ r.right := by simpa using h
    rw [rmV, if_neg h]
    rfl
  · have h : r.right := by simpa using h
    rw [rmV, if_pos h]
    obtain ⟨h1, h2, h3, h4⟩ := h
    have hb : bl r.mant ≤ 18 := bl_le.2 (show _ < 2 ^ 18 from h2)
    refine ⟨_, pc_math_bits_Len32 r.mant (by omega), ?_⟩
    simp only [v_int]
    refine ⟨by omega, fun hc => ?_, fun hc => ⟨by omega, ?_⟩⟩
    · rw [if_pos (by omega)]
      rfl
    · rw [if_neg (by omega), u64_of _ (by omega)]
      obtain ⟨e, he⟩ : ∃ e : Nat, r.exp = e := ⟨r.exp.toNat, by omega⟩
      rw [he, Int.toNat_natCast]
      have h0 : r.mant * 2 ^ e < 18446744073709551616 := by
        by_cases hz : r.mant = 0
        · rw [hz]; simp
        · exact (bl_le (n := r.mant * 2 ^ e) (k := 64)).1 (by rw [bl_mul hz]; omega)
      have e3 : min e (IntKind.bits .u64) = e := by simp only [IntKind.bits]; omega
      rw [arith_shl, Int.toNat_natCast, e3, wrapu64]
      have e4 : ((r.mant : Nat) : Int) * 2 ^ e = ((r.mant * 2 ^ e : Nat) : Int) := by simp
      rw [e4]
      congr 3
      omega
end Go.Vc
