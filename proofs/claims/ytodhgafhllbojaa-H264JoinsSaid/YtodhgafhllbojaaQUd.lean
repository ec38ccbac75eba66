/-
  The contracts of h264's readers.
-/
import Derived.Test.YtodhgafhllbojaaQUc
set_option maxRecDepth 100000
namespace Go.Vc
open Go Go.Proofs Go.Plain
theorem pc_bytes_Clone (b : List UInt8) (hb : b.length ≤ 140737488355328) : PC Try.prog f_bytes_Clone [(Byt, B b)] [(Byt, B b)] := by
  apply pcv_bytes_Clone rfl
  simp only [vc_bytes_Clone, VC.H_asrt, VC.H_amb, VC.H_ret, ev_var, ev_int, ev_nil, ev_nilS, ev_add, ev_mul, ev_leq, ev_len, ev_app, ea_nil, ea_cons, env_zero, env_nil, List.map_cons, List.map_nil, v_int, v_bool, v_ls, pres_nil, decide_eq_true_eq, forall_const, and_true, ofBytes_length]
  refine ⟨fun h => ?_, by omega⟩
  show [(_, C.ls [])] = [(_, C.ls (ofBytes b))]
  rw [h]
theorem pc_bytes_Equal (a b : List UInt8) : PC Try.prog f_bytes_Equal [(Byt, B a), (Byt, B b)] [(.bool, .bool (decide (a = b)))] := by
  apply pcv_bytes_Equal rfl
  simp only [vc_bytes_Equal, VC.H_ret, ev_var, ev_seql, ev_toStr, ea_nil, ea_cons, env_zero, env_succ, List.map_cons, List.map_nil, v_str, v_ls, bytesOf_ofBytes]
theorem b8 : ∀ x : Nat, x < 256 → arith .and .u8 x 128 = ((x / 128 * 128 : Nat) : Int) ∧ arith .and .u8 x 64 = ((x / 64 % 2 * 64 : Nat) : Int) ∧ arith .and .u8 x 31 = ((x % 32 : Nat) : Int) ∧ arith .and .i64 (IntKind.i64.wrap (arith .shr .u8 x 5)) 3 = ((x / 32 % 4 : Nat) : Int) ∧
    arith .quo .u8 x 32 = ((x / 32 : Nat) : Int) ∧ arith .rem .u8 x 32 = ((x % 32 : Nat) : Int) ∧ arith .rem .u8 (arith .quo .u8 x 64) 2 = ((x / 64 % 2 : Nat) : Int) := by decide +kernel
section
variable (b : List UInt8) (i : Nat)
theorem a128 : arith .and .u8 (at_ b i : Nat) 128 = ((at_ b i / 128 * 128 : Nat) : Int) := (b8 _ (at_lt b i)).1
theorem a64 : arith .and .u8 (at_ b i : Nat) 64 = ((at_ b i / 64 % 2 * 64 : Nat) : Int) := (b8 _ (at_lt b i)).2.1
theorem a31 : arith .and .u8 (at_ b i : Nat) 31 = ((at_ b i % 32 : Nat) : Int) := (b8 _ (at_lt b i)).2.2.1
theorem a3 : arith .and .i64 (IntKind.i64.wrap (arith .shr .u8 (at_ b i : Nat) 5)) 3 = ((at_ b i / 32 % 4 : Nat) : Int) := (b8 _ (at_lt b i)).2.2.2.1
theorem q32 : arith .quo .u8 (at_ b i : Nat) 32 = ((at_ b i / 32 : Nat) : Int) := (b8 _ (at_lt b i)).2.2.2.2.1
theorem r32 : arith .rem .u8 (at_ b i : Nat) 32 = ((at_ b i % 32 : Nat) : Int) := (b8 _ (at_lt b i)).2.2.2.2.2.1
theorem q64 : arith .rem .u8 (arith .quo .u8 (at_ b i : Nat) 64) 2 = ((at_ b i / 64 % 2 : Nat) : Int) := (b8 _ (at_lt b i)).2.2.2.2.2.2
theorem w8 : IntKind.i64.wrap (at_ b i : Nat) = ((at_ b i : Nat) : Int) := by have := at_lt b i; exact wrapi64_in (by omega)
end
theorem w8m (b : List UInt8) (i k : Nat) : IntKind.i64.wrap ((at_ b i % k : Nat) : Int) = ((at_ b i % k : Nat) : Int) := by
  have h := Nat.lt_of_le_of_lt (Nat.mod_le (at_ b i) k) (at_lt b i)
  exact wrapi64_in (by omega)
theorem w8d (b : List UInt8) (i k : Nat) : IntKind.i64.wrap ((at_ b i / k : Nat) : Int) = ((at_ b i / k : Nat) : Int) := by
  have h := Nat.lt_of_le_of_lt (Nat.div_le_self (at_ b i) k) (at_lt b i)
  generalize at_ b i / k = n at h
  exact wrapi64_in (by omega)
theorem atD (b : List UInt8) (i : Nat) : (((b.getD i 0).toNat : Nat) : Int) = (at_ b i : Int) := rfl
theorem pc_h264_unit (b : List UInt8) (h0 : b.length ≠ 0) (hb : b.length ≤ 100000000) : PC Try.prog f_h264_unit [(Byt, B b)] [(UnSh, UnC (unU b)), (I64, .int (unE b))] := by
  apply pcv_h264_unit rfl
  have i0 : Int.toNat 0 = 0 := rfl
  have i1 : Int.toNat 1 = 1 := rfl
  have l0 := at_lt b 0
  simp only [vc_h264_unit, VC.H_asrt, VC.H_cond, VC.H_ret, VC.H_call1, ev_var, ev_int, ev_bool, ev_nil, ev_nilS, ev_cons, ev_bin, ev_neq, ev_lss, ev_leq, ev_not, ev_ite, ev_conv, ev_len, ev_idx, ev_sub, ea_nil, ea_cons, env_zero, env_succ, env_cons, env_nil, List.map_cons, List.map_nil, v_int, v_bool, v_ls, bool_ite, pres_nil, pres_cons, orT, orF, notT, notF, nnE, decide_eq_true_eq, decide_eq_false_iff_not, forall_const, and_true, ofBytes_length, ofBytes_getD, i0, i1, atD, a128, a31, a3, w8m, ofBytes_take, ofBytes_drop, Int.toNat_natCast, List.take_length]
  refine ⟨by omega, by omega, by omega, _, fun _ => pc_h264_rightUnit ⟨((at_ b 0 / 32 % 4 : Nat) : Int), ((at_ b 0 % 32 : Nat) : Int), []⟩, fun h => ?_, fun h => ⟨by omega, by omega, _, pc_bytes_Clone (b.drop 1) (by rw [List.length_drop]; omega), ?_⟩⟩
  · have e : unE b = 6 := by
      unfold unE
      rw [if_neg]
      simp only [v_bool, decide_eq_false_iff_not] at h
      unfold Un.right at h
      simp only at h
      omega
    rw [unU, if_neg (by rw [e]; decide), e]
    rfl
  · simp only [v_bool, decide_eq_true_eq] at h
    unfold Un.right at h
    simp only at h
    have e : unE b = 0 := by
      unfold unE
      rw [if_pos (by omega)]
    have e4 : at_ b 0 / 32 % 4 = at_ b 0 / 32 := by omega
    rw [unU, if_pos e, e, e4]
theorem pc_h264_together (b : List UInt8) (h0 : b.length ≠ 0) (h24 : at_ b 0 < 128 ∧ at_ b 0 % 32 = 24) (hb : b.length ≤ 10000000) : PC Try.prog f_h264_together [(Byt, B b)] [(PiSh, PiC (h2P b)), (I64, .int (h2E b))] := by
  apply pcv_h264_together rfl
  have i0 : Int.toNat 0 = 0 := rfl
  have i1 : Int.toNat 1 = 1 := rfl
  have i2 : Int.toNat 2 = 2 := rfl
  have hE : b.length ≠ 1 → h2E b = tgE (b.drop 1) := fun h => by
    unfold h2E
    rw [if_neg h0, if_neg (by omega), if_pos h24.2, if_neg h]
  have bad : ∀ e : Int, h2E b = e → e ≠ 0 → [(PiSh, C.ls [.int 0, .int 0, .ls [], .bool false, .bool false, .ls [.int 0, .int 0, .ls []]]), (I64, C.int e)] = [(PiSh, PiC (h2P b)), (I64, .int (h2E b))] := fun e h1 h2 => by
    rw [h2P, if_pos (by rw [h1]; exact h2), h1]
    rfl
  simp only [vc_h264_together, VC.H_asrt, VC.H_cond, VC.H_ret, ev_var, ev_int, ev_bool, ev_nil, ev_nilS, ev_cons, ev_eql, ev_lss, ev_leq, ev_len, ev_sub, ea_nil, ea_cons, env_zero, List.map_cons, List.map_nil, v_int, v_bool, v_ls, pres_nil, decide_eq_true_eq, decide_eq_false_iff_not, forall_const, ofBytes_length, i1, ofBytes_take, ofBytes_drop, Int.toNat_natCast, List.take_length]
  refine ⟨by omega, by omega, by omega, fun h => ?_, fun h => ?_⟩
  · rw [List.length_drop] at h
    exact bad 2 (by unfold h2E; rw [if_neg h0, if_neg (by omega), if_pos h24.2, if_pos (by omega)]) (by decide)
  · rw [List.length_drop] at h
    have hE := hE (by omega)
    refine VC.go_loop (fun s : List UInt8 × List Un => [.int 0, B s.1, .int 0, .int 0, .ls [], .bool false, .bool false, .int 0, .int 0, .ls [], .ls (s.2.map UnC)])
      (fun s => s.1.length + s.2.length ≤ b.length ∧ tgE s.1 = tgE (b.drop 1) ∧ (tgE s.1 = 0 → s.2 ++ tgU s.1 = tgU (b.drop 1))) (fun s => s.1.length) (b.drop 1, []) ?_ ?_ fun s hs => ?_
    · simp only [ev_var, ev_int, ev_bool, ev_nil, ev_nilS, ev_len, ev_sub, env_zero, List.map_cons, List.map_nil, v_int, v_ls, ofBytes_length, i1, ofBytes_take, ofBytes_drop, Int.toNat_natCast, List.take_length]
    · refine ⟨by simp, rfl, fun _ => rfl⟩
    · obtain ⟨x, l⟩ := s
      obtain ⟨s1, s2, s3⟩ := hs
      simp only at s1 s2 s3
      simp only [VC.H_asrt, VC.H_cond, VC.H_ret, VC.H_back, VC.H_call2, ev_var, ev_int, ev_bool, ev_nil, ev_nilS, ev_cons, ev_hd, ev_tl, ev_bin, ev_add, ev_mul, ev_eql, ev_neq, ev_lss, ev_leq, ev_gtr, ev_geq, ev_ite, ev_conv, ev_len, ev_idx, ev_sub, ev_app, ea_nil, ea_cons, env_zero, env_succ, env_cons, env_nil, List.map_cons, List.map_nil, v_int, v_bool, v_ls, bool_ite, pres_nil, orT, orF, nnE, decide_eq_true_eq, decide_eq_false_iff_not, forall_const, Int.not_lt, ofBytes_length, ofBytes_getD, i0, i2, atD, a3, ofBytes_take, ofBytes_drop, Int.toNat_natCast, List.take_length, List.length_map]
      refine ⟨fun h1 => ⟨fun h2 => ?_, fun h2 => ?_⟩, fun h1 => ?_⟩
      · exact bad 4 (by rw [hE, ← s2, tg_bad (by omega) (by omega)]) (by decide)
      · refine ⟨_, _, pc_octet_Get x 0 2 (by omega), by omega, by omega, ?_⟩
        have ge : getE x.length 0 2 = 0 := by rw [getE_zero]; omega
        have gv : getV x 0 2 = num x 0 2 := by rw [getV, if_pos ge]; rfl
        have hn : num x 0 2 < 65536 := num_lt x 0 2
        have gw : IntKind.i64.wrap ((num x 0 2 : Nat) : Int) = ((num x 0 2 : Nat) : Int) := wrapi64_in (by omega)
        simp only [v_int, gv, gw, List.length_drop, Int.toNat_natCast]
        refine ⟨fun h3 => ?_, fun h3 => ?_⟩
        · exact bad 4 (by rw [hE, ← s2, tg_bad (by omega) (by omega)]) (by decide)
        · have ht : (List.take (num x 0 2) (List.drop 2 x)).length = num x 0 2 := by rw [List.length_take, List.length_drop]; omega
          refine ⟨by omega, by omega, _, _, pc_h264_unit (List.take (num x 0 2) (List.drop 2 x)) (by omega) (by omega), ?_⟩
          obtain ⟨t1, t2, t3⟩ := tg_step (b := x) (by omega) (by omega) (by omega) (by omega)
          simp only [v_int, v_hd, v_tl]
          refine ⟨fun h4 => ?_, fun h4 => ?_⟩
          · exact bad _ (by rw [hE, ← s2, t1 h4]) h4
          · have t2 := t2 h4
            refine ⟨by simp; omega, by omega, by omega, by omega, (x.drop (2 + num x 0 2), l ++ [unU (List.take (num x 0 2) (List.drop 2 x))]), ?_, ⟨?_, ?_, ?_⟩, ?_⟩
            · rw [List.drop_drop, List.map_append]
              rfl
            · simp only [List.length_drop, List.length_append, List.length_cons, List.length_nil]
              omega
            · exact t2.symm.trans s2
            · intro h5
              have := s3 (t2.trans h5)
              rw [t3] at this
              simpa using this
            · simp only [List.length_drop]
              omega
      · have hx : x = [] := List.eq_nil_of_length_eq_zero (by omega)
        subst hx
        rw [tgE_nil] at s2 s3
        have s3 := s3 rfl
        rw [tgU_nil, List.append_nil] at s3
        have hz : h2E b = 0 := by rw [hE, ← s2]
        rw [h2P, if_neg (fun hc => hc hz), if_pos h24.2, hz, ← s3]
        have e4 : at_ b 0 / 32 % 4 = at_ b 0 / 32 := by omega
        rw [e4]
        rfl
theorem pc_h264_fragment (b : List UInt8) (h28 : at_ b 0 < 128 ∧ at_ b 0 % 32 = 28) (hb : b.length ≤ 10000000) : PC Try.prog f_h264_fragment [(Byt, B b)] [(PiSh, PiC (h2P b)), (I64, .int (h2E b))] := by
  apply pcv_h264_fragment rfl
  have i0 : Int.toNat 0 = 0 := rfl
  have i1 : Int.toNat 1 = 1 := rfl
  have i2 : Int.toNat 2 = 2 := rfl
  have hl1 := at_lt b 1
  have bad : ∀ e : Int, h2E b = e → e ≠ 0 → [(PiSh, C.ls [.int 0, .int 0, .ls [], .bool false, .bool false, .ls [.int 0, .int 0, .ls []]]), (I64, C.int e)] = [(PiSh, PiC (h2P b)), (I64, .int (h2E b))] := fun e h1 h2 => by
    rw [h2P, if_pos (by rw [h1]; exact h2), h1]
    rfl
  have h0 : b.length ≠ 0 := by
    intro h
    rw [List.eq_nil_of_length_eq_zero h] at h28
    simp [at_] at h28
  simp only [vc_h264_fragment, VC.H_asrt, VC.H_cond, VC.H_ret, VC.H_call1, ev_var, ev_int, ev_bool, ev_nil, ev_nilS, ev_cons, ev_bin, ev_neq, ev_lss, ev_leq, ev_not, ev_conv, ev_len, ev_idx, ev_sub, ea_nil, ea_cons, env_zero, env_succ, env_cons, env_nil, List.map_cons, List.map_nil, v_int, v_bool, v_ls, pres_nil, notT, notF, decide_eq_true_eq, decide_eq_false_iff_not, forall_const, Int.not_le, ofBytes_length, ofBytes_getD, i0, i1, i2, atD, a3, a31, a64, a128, w8m, ofBytes_take, ofBytes_drop, Int.toNat_natCast, List.take_length]
  refine ⟨fun h => ?_, fun h => ⟨by omega, by omega, by omega, by omega, by omega, by omega, _, pc_bytes_Clone (b.drop 2) (by rw [List.length_drop]; omega), ?_⟩⟩
  · exact bad 2 (by unfold h2E; rw [if_neg h0, if_neg (by omega), if_neg (by omega), if_pos h28.2, if_pos (by omega)]) (by decide)
  · have eP : C.ls [C.int 3, C.int 0, C.ls [], C.bool (decide (((at_ b 1 / 128 * 128 : Nat) : Int) ≠ 0)), C.bool (decide (((at_ b 1 / 64 % 2 * 64 : Nat) : Int) ≠ 0)), C.ls [C.int ((at_ b 0 / 32 % 4 : Nat) : Int), C.int ((at_ b 1 % 32 : Nat) : Int), B (b.drop 2)]] = PiC (frP b) := by
      have e4 : at_ b 0 / 32 % 4 = at_ b 0 / 32 := by omega
      have e5 : decide (((at_ b 1 / 128 * 128 : Nat) : Int) ≠ 0) = decide (128 ≤ at_ b 1) := by
        rw [decide_eq_decide]
        omega
      have e6 : decide (((at_ b 1 / 64 % 2 * 64 : Nat) : Int) ≠ 0) = decide (at_ b 1 / 64 % 2 = 1) := by
        rw [decide_eq_decide]
        omega
      rw [e4, e5, e6]
      rfl
    rw [eP]
    refine ⟨_, pc_h264_Right (frP b) ⟨Nat.zero_le _, ?_, fun u hu => by cases hu⟩, fun h2 => ?_, fun h2 => ?_⟩
    · show (b.drop 2).length ≤ _
      rw [List.length_drop]
      omega
    · have h2 : ¬ (frP b).right := by simpa using h2
      exact bad 6 (by unfold h2E; rw [if_neg h0, if_neg (by omega), if_neg (by omega), if_pos h28.2, if_neg (by omega), if_neg h2]) (by decide)
    · have h2 : (frP b).right := by simpa using h2
      have hz : h2E b = 0 := by unfold h2E; rw [if_neg h0, if_neg (by omega), if_neg (by omega), if_pos h28.2, if_neg (by omega), if_pos h2]
      rw [h2P, if_neg (fun hc => hc hz), if_neg (by omega), if_pos h28.2, hz]
theorem pc_h264_Read (b : List UInt8) (hb : b.length ≤ 10000000) : PC Try.prog f_h264_Read [(Byt, B b)] [(PiSh, PiC (h2P b)), (I64, .int (h2E b))] := by
  apply pcv_h264_Read rfl
  have i0 : Int.toNat 0 = 0 := rfl
  have bad : ∀ e : Int, h2E b = e → e ≠ 0 → [(PiSh, C.ls [.int 0, .int 0, .ls [], .bool false, .bool false, .ls [.int 0, .int 0, .ls []]]), (I64, C.int e)] = [(PiSh, PiC (h2P b)), (I64, .int (h2E b))] := fun e h1 h2 => by
    rw [h2P, if_pos (by rw [h1]; exact h2), h1]
    rfl
  simp only [vc_h264_Read, VC.H_asrt, VC.H_cond, VC.H_ret, VC.H_call2, ev_var, ev_int, ev_bool, ev_nil, ev_nilS, ev_cons, ev_hd, ev_tl, ev_bin, ev_eql, ev_neq, ev_lss, ev_len, ev_idx, ea_nil, ea_cons, env_zero, env_succ, env_cons, env_nil, List.map_cons, List.map_nil, v_int, v_bool, v_ls, pres_nil, nnE, decide_eq_true_eq, decide_eq_false_iff_not, forall_const, ofBytes_length, ofBytes_getD, i0, atD, a31, a128]
  refine ⟨fun h => ?_, fun h => ⟨by omega, fun h2 => ?_, fun h2 => ⟨by omega, fun h3 => ⟨_, _, pc_h264_together b (by omega) (by omega) hb, rfl⟩, fun h3 => ⟨fun h4 => ⟨_, _, pc_h264_fragment b (by omega) hb, rfl⟩, fun h4 => ⟨_, _, pc_h264_unit b (by omega) (by omega), fun h5 => ?_, fun h5 => ?_⟩⟩⟩⟩⟩
  · exact bad 2 (by unfold h2E; rw [if_pos (by omega)]) (by decide)
  · exact bad 6 (by unfold h2E; rw [if_neg (by omega), if_pos (by omega)]) (by decide)
  · exact bad _ (by unfold h2E; rw [if_neg (by omega), if_neg (by omega), if_neg (by omega), if_neg (by omega)]) h5
  · have h5 : unE b = 0 := h5
    have hz : h2E b = 0 := by unfold h2E; rw [if_neg (by omega), if_neg (by omega), if_neg (by omega), if_neg (by omega), h5]
    rw [h2P, if_neg (fun hc => hc hz), if_neg (by omega), if_neg (by omega), hz]
    rfl
def h2C (b : List UInt8) : Prop := h2E b = 0 ∧ (h2P b).bytes = b
instance (b : List UInt8) : Decidable (h2C b) := by unfold h2C; exact inferInstance
theorem longs_mem : ∀ {l : List Un} {u : Un}, u ∈ l → u.long.length ≤ (longs l).length
  | v :: l, u, h => by
    have e : longs (v :: l) = v.long ++ longs l := by simp [longs]
    rw [e, List.length_append]
    rcases List.mem_cons.1 h with rfl | h
    · omega
    · have := longs_mem h
      omega
theorem longs_count : ∀ (l : List Un), l.length ≤ (longs l).length
  | [] => Nat.zero_le _
  | v :: l => by
    have e : longs (v :: l) = v.long ++ longs l := by simp [longs]
    have := longs_count l
    rw [e, List.length_append, long_length, List.length_cons]
    omega
/-- What has not too many bytes is not too long. -/
theorem ok_of_bytes {p : Pi} (h : p.right) (hb : p.bytes.length ≤ 10000000) : Pi.ok p := by
  rcases h with h | h | h
  · obtain ⟨h1, _, _, _, h5, h6, _⟩ := h
    rw [Pi.bytes, if_pos h1] at hb
    match hu : p.units, h6 with
    | [u], _ =>
      rw [hu] at hb
      have hb : u.b.length ≤ 10000000 := hb
      have : u.b.length = u.bytes.length + 1 := rfl
      refine ⟨by rw [hu]; simp, by rw [h5]; exact Nat.zero_le _, fun v hv => ?_⟩
      rw [hu] at hv
      simp only [List.mem_singleton] at hv
      subst hv
      omega
  · obtain ⟨h1, _, _, _, h5, h6, _⟩ := h
    rw [Pi.bytes, if_neg (by omega), if_pos h1, List.length_cons] at hb
    have := longs_count p.units
    refine ⟨by omega, by rw [h5]; exact Nat.zero_le _, fun v hv => ?_⟩
    have := longs_mem hv
    rw [long_length] at this
    omega
  · obtain ⟨h1, _, h3, _⟩ := h
    rw [Pi.bytes, if_neg (by omega), if_neg (by omega), List.length_cons, List.length_cons] at hb
    refine ⟨by rw [h3]; exact Nat.zero_le _, by omega, fun v hv => ?_⟩
    rw [h3] at hv
    cases hv
theorem pc_h264_Canon (b : List UInt8) (hb : b.length ≤ 10000000) : PC Try.prog f_h264_Canon [(Byt, B b)] [(.bool, .bool (decide (h2C b)))] := by
  apply pcv_h264_Canon rfl
  simp only [vc_h264_Canon, VC.H_cond, VC.H_ret, VC.H_call1, VC.H_call2, ev_var, ev_int, ev_bool, ev_nil, ev_cons, ev_hd, ev_tl, ev_eql, ev_neq, ev_ite, ea_nil, ea_cons, env_zero, env_succ, env_cons, env_nil, List.map_cons, List.map_nil, v_int, v_bool, v_ls, pres_nil, pres_cons, nnE, decide_eq_true_eq, decide_eq_false_iff_not, forall_const, and_true]
  refine ⟨_, _, pc_h264_Read b (by omega), fun h => ?_, fun h => ?_⟩
  · have h : ¬ h2E b = 0 := h
    rw [show (false : Bool) = decide (h2C b) by symm; rw [decide_eq_false_iff_not]; exact fun hc => h hc.1]
  · have h : h2E b = 0 := h
    obtain ⟨s1, s2⟩ := h2_same b h
    have hw : h2wE (h2P b) = 0 := by rw [h2wE, if_pos s1]
    have hw2 : h2wB (h2P b) = (h2P b).bytes := by rw [h2wB, if_pos s1]
    refine ⟨_, _, pc_h264_Write (h2P b) (ok_of_bytes s1 (by omega)), _, fun _ => pc_bytes_Equal _ _, ?_⟩
    rw [toBool_ite']
    apply boolR
    simp only [v_int, hw, hw2, if_true, decide_eq_true_eq, h2C]
    simp [h]
end Go.Vc
