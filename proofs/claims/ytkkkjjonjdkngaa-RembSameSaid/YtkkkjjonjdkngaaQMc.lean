/-
  The contracts of the functions of remb and of its reference, each out of its condition.
-/
import Derived.Test.YtkkkjjonjdkngaaQVm
import Derived.Test.YtkkkjjonjdkngaaQCm
set_option maxRecDepth 100000
namespace Go.Vc
open Go Go.Proofs Go.Plain
abbrev RmSh : Sh := .pair I64 (.pair U32 (.pair (.sl U32) .unit))
abbrev RmC (r : Rm) : C := .ls [.int r.exp, .int r.mant, Ns r.srcs]
theorem Ns_length (l : List Nat) : (Ns l).toList.length = l.length := by simp [Ns]
theorem boolR {p : Prop} [Decidable p] {x : Bool} (h : x = true ↔ p) : [(Sh.bool, C.bool x)] = [(Sh.bool, C.bool (decide p))] := by
  have : x = decide p := by rw [Bool.eq_iff_iff, decide_eq_true_eq]; exact h
  rw [this]
theorem pc_remb_Right (r : Rm) : PC Try.prog f_remb_Right [(RmSh, RmC r)] [(.bool, .bool (decide r.right))] := by
  apply pcv_remb_Right rfl
  simp only [vc_remb_Right, VC.H_cond, VC.H_ret, ev_var, ev_int, ev_bool, ev_hd, ev_tl, ev_lss, ev_leq, ev_gtr, ev_geq, ev_ite, ev_len, ea_nil, ea_cons, env_zero, List.map_cons, List.map_nil, v_int, v_bool, v_ls, v_hd, v_tl, bool_ite, orT, orF, andT, andF, decide_eq_true_eq, decide_eq_false_iff_not, Int.not_lt, Int.not_le, List.length_map]
  refine ⟨fun h => ?_, fun h => ⟨fun h2 => ?_, fun h2 => ?_⟩⟩
  all_goals
    apply boolR
    unfold Rm.right
    (try simp only [decide_eq_true_eq, Bool.false_eq_true, false_iff])
    omega
theorem pc_crossbarref17_Right (r : Rm) : PC Try.prog f_crossbarref17_Right [(RmSh, RmC r)] [(.bool, .bool (decide r.right))] := by
  apply pcv_crossbarref17_Right rfl
  simp only [vc_crossbarref17_Right, VC.H_cond, VC.H_ret, ev_var, ev_int, ev_bool, ev_hd, ev_tl, ev_eql, ev_lss, ev_gtr, ev_geq, ev_ite, ev_len, ea_nil, ea_cons, env_zero, List.map_cons, List.map_nil, v_int, v_bool, v_ls, v_hd, v_tl, bool_ite, orT, orF, decide_eq_true_eq, decide_eq_false_iff_not, Int.not_lt, List.length_map]
  refine ⟨fun h => ?_, fun h => ?_⟩
  all_goals
    apply boolR
    unfold Rm.right
    (try simp only [decide_eq_true_eq, Bool.false_eq_true, false_iff, orT, decide_eq_true_eq])
    omega
theorem pl_remb_least (e m : Nat) (he : e ≤ 63) (hm : m < 262144) : PC Try.prog l_remb_least [(I64, .int e), (U32, .int m)] [(RmSh, RmC (rmL e m []))] := by
  apply pcl_remb_least rfl
  simp only [vl_remb_least, VC.H_asrt, VC.H_cond, VC.H_ret, VC.H_call1, ev_var, ev_int, ev_nil, ev_nilS, ev_cons, ev_bin, ev_sub', ev_eql, ev_geq, ev_minI, ev_fits64, ea_nil, ea_cons, env_zero, env_succ, env_cons, env_nil, List.map_cons, List.map_nil, v_int, v_bool, v_ls, pres_nil, decide_eq_true_eq, decide_eq_false_iff_not, forall_const]
  refine ⟨fun h => ?_, fun h => ?_⟩
  · have h0 : m = 0 := by omega
    subst h0
    simp [rmL, rmUp]
  · have h0 : m ≠ 0 := by omega
    have hb : bl m ≤ 18 := bl_le.2 hm
    refine ⟨_, pc_math_bits_Len32 m (by omega), ?_⟩
    simp only [v_int]
    have e1 : min ((e : Nat) : Int) (18 - ((bl m : Nat) : Int)) = ((rmUp e m : Nat) : Int) := by unfold rmUp; rw [if_neg h0]; omega
    have hu : rmUp e m ≤ e ∧ rmUp e m ≤ 18 - bl m := by unfold rmUp; rw [if_neg h0]; omega
    have h3 : m * 2 ^ rmUp e m < 262144 := (bl_le (n := m * 2 ^ rmUp e m) (k := 18)).1 (by rw [bl_mul h0]; omega)
    have e2 : arith .shl .u32 ((m : Nat) : Int) ((rmUp e m : Nat) : Int) = ((m * 2 ^ rmUp e m : Nat) : Int) := by
      have e3 : min (rmUp e m) (IntKind.bits .u32) = rmUp e m := by simp only [IntKind.bits]; omega
      rw [arith_shl, Int.toNat_natCast, e3, wrapu32]
      have e4 : ((m : Nat) : Int) * 2 ^ rmUp e m = ((m * 2 ^ rmUp e m : Nat) : Int) := by simp
      rw [e4]
      omega
    rw [e1, e2]
    have e5 : ((e : Nat) : Int) - ((rmUp e m : Nat) : Int) = ((e - rmUp e m : Nat) : Int) := by omega
    refine ⟨by omega, by omega, by omega, ?_⟩
    rw [e5]
    rfl
theorem shl18 (e m : Nat) (he : e ≤ 63) (hm : m < 262144) : arith .or .u64 (arith .shl .u64 (IntKind.u64.wrap ((e : Nat) : Int)) 18) (IntKind.u64.wrap ((m : Nat) : Int)) = ((e * 262144 + m : Nat) : Int) := by
  have e1 : IntKind.u64.wrap ((e : Nat) : Int) = ((e : Nat) : Int) := by rw [wrapu64]; omega
  have e2 : IntKind.u64.wrap ((m : Nat) : Int) = ((m : Nat) : Int) := by rw [wrapu64]; omega
  have e3 : arith .shl .u64 ((e : Nat) : Int) 18 = ((e * 262144 : Nat) : Int) := by
    rw [arith_shl, wrapu64]
    simp [IntKind.bits]
    omega
  rw [e1, e2, e3, arith_orU rfl (by show _ < 2 ^ 64; omega) (by show _ < 2 ^ 64; omega)]
  have := or_add e 18 m (by omega)
  rw [show (262144 : Nat) = 2 ^ 18 by rfl, this]
def rmwB (r : Rm) : List UInt8 := if r.right then r.bytes else []
def rmwE (r : Rm) : Int := if r.right then 0 else 1
theorem Ns_getD (l : List Nat) (i : Nat) (h : i < l.length) : ((l.map fun n : Nat => C.int (n : Int))).getD i default = C.int ((l.getD i 0 : Nat) : Int) := by
  simp [List.getD, h]
theorem pc_remb_Write (r : Rm) (ho : r.ok) : PC Try.prog f_remb_Write [(RmSh, RmC r)] [(Byt, B (rmwB r)), (I64, .int (rmwE r))] := by
  apply pcv_remb_Write rfl
  simp only [vc_remb_Write, VC.H_asrt, VC.H_cond, VC.H_ret, VC.H_call1, VC.H_call2, ev_var, ev_int, ev_str, ev_nil, ev_nilS, ev_cons, ev_hd, ev_tl, ev_bin, ev_add, ev_mul, ev_leq, ev_not, ev_conv, ev_len, ev_ofStr, ev_fits64, ea_nil, ea_cons, env_zero, env_succ, env_cons, env_nil, List.map_cons, List.map_nil, v_int, v_bool, v_str, v_ls, v_hd, v_tl, pres_nil, notT, notF, decide_eq_true_eq, forall_const, List.length_map]
  refine ⟨_, pc_remb_Right r, fun h => ?_, fun h => ?_⟩
  · have h : ¬ r.right := by simpa using h
    rw [rmwB, rmwE, if_neg h, if_neg h]
    rfl
  · have h : r.right := by simpa using h
    rw [rmwB, rmwE, if_pos h, if_pos h]
    have hn := r.num_lt h
    obtain ⟨h1, h2, h3, h4⟩ := h
    obtain ⟨exp, mant, srcs⟩ := r
    simp only at h1 h2 h3 h4
    obtain ⟨e, rfl⟩ : ∃ e : Nat, exp = e := ⟨exp.toNat, by omega⟩
    have e1 := shl18 e mant (by omega) h2
    have pe : putE (e * 262144 + mant) 3 = 0 := by rw [putE_zero]; refine ⟨by omega, by omega, ?_⟩; show _ < 16777216; omega
    have pb : putB (e * 262144 + mant) 3 = toBE 3 (e * 262144 + mant) := by rw [putB, if_pos pe]; rfl
    have hstr : ofBytes [82, 69, 77, 66] = ofBytes rembB := rfl
    have hone : [C.int (IntKind.u8.wrap ((srcs.length : Nat) : Int))] = ofBytes [UInt8.ofNat srcs.length] := by
      simp only [ofBytes, List.map_cons, List.map_nil, UInt8.toNat_ofNat', wrapu8]
      rfl
    rw [e1]
    simp only [hstr, hone, ofBytes_length]
    have l4 : rembB.length = 4 := rfl
    refine ⟨by omega, by omega, by omega, by omega, by simp; omega, by simp; omega, _, _, pc_octet_Put (e * 262144 + mant) 3 (by omega), ?_⟩
    rw [pb]
    simp only [v_ls, ofBytes_length, toBE_length]
    refine ⟨by simp; omega, ?_⟩
    refine VC.go_loop (fun i : Nat => [B (rembB ++ (UInt8.ofNat srcs.length :: (toBE 3 (e * 262144 + mant) ++ words (srcs.take i)))), .int i]) (fun i => i ≤ srcs.length) (fun i => srcs.length - i) 0 ?_ (Nat.zero_le _) fun i hi => ?_
    · simp only [ev_var, ev_int, ev_str, ev_nil, ev_cons, ev_hd, ev_tl, ev_conv, ev_len, ev_app, ev_rep, ev_ofStr, env_zero, env_succ, List.map_cons, List.map_nil, v_int, v_str, v_ls, v_hd, v_tl]
      simp [words, ofBytes, rembB]
    · simp only [VC.H_asrt, VC.H_cond, VC.H_ret, VC.H_back, VC.H_call2, ev_var, ev_int, ev_hd, ev_tl, ev_add, ev_mul, ev_lss, ev_leq, ev_geq, ev_conv, ev_len, ev_idx, ev_app, ev_fits64, ea_nil, ea_cons, env_zero, env_succ, env_cons, env_nil, List.map_cons, List.map_nil, v_int, v_bool, v_ls, v_hd, v_tl, pres_nil, decide_eq_true_eq, decide_eq_false_iff_not, forall_const, Int.not_lt, List.length_map, ofBytes_length]
      refine ⟨fun hc => ?_, fun hc => ?_⟩
      · have hmem := ho.2 _ (mem_getD (l := srcs) (i := i) (by omega))
        rw [Int.toNat_natCast, Ns_getD _ _ (by omega), v_int, u64_of _ hmem]
        have pe : putE (srcs.getD i 0) 4 = 0 := by rw [putE_zero]; refine ⟨by omega, by omega, ?_⟩; show _ < 4294967296; omega
        have pb : putB (srcs.getD i 0) 4 = toBE 4 (srcs.getD i 0) := by rw [putB, if_pos pe]; rfl
        refine ⟨by omega, by omega, _, _, pc_octet_Put (srcs.getD i 0) 4 (by omega), ?_⟩
        rw [pb]
        have hwl := words_length (srcs.take i)
        rw [List.length_take] at hwl
        refine ⟨by simp [l4, hwl]; omega, by omega, i + 1, ?_, by omega, by omega⟩
        rw [words_snoc _ _ (by omega)]
        simp [ofBytes]
      · have : i = srcs.length := by omega
        subst this
        rw [List.take_length]
        simp [Rm.bytes, Rm.num]
end Go.Vc
