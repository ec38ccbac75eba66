/-
  The contract of the law's own comparison of lists of texts.
-/
import Derived.Test.YtodhgafhllbojaaDoorQTi
set_option maxRecDepth 100000
namespace Go.Vc
open Go Go.Proofs Go.Plain
theorem strs_getD (a : List (List UInt8)) (i : Nat) (h : i < a.length) : (a.map C.str).getD i default = .str (a.getD i []) := by simp [List.getD, h]
theorem pc_same (a b : List (List UInt8)) (ha : a.length ≤ 1000000) : PC Tryd.prog f_crossbarlaw04_same [(.sl .str, .ls (a.map .str)), (.sl .str, .ls (b.map .str))] [(.bool, .bool (decide (a = b)))] := by
  apply pcv_crossbarlaw04_same rfl
  simp only [vc_crossbarlaw04_same, VC.H_cond, VC.H_ret, ev_var, ev_bool, ev_neq, ev_len, ea_nil, ea_cons, env_zero, env_succ, List.map_cons, List.map_nil, v_int, v_bool, v_ls, nnE, decide_eq_true_eq, decide_eq_false_iff_not, List.length_map]
  refine ⟨fun hl => ?_, fun hl => ?_⟩
  · have : a ≠ b := fun e => hl (by rw [e])
    simp [this]
  · have hl : a.length = b.length := by omega
    refine VC.go_loop (fun i : Nat => [.bool false, .int i]) (fun i => i ≤ a.length ∧ a.take i = b.take i) (fun i => a.length - i) 0 rfl ⟨Nat.zero_le _, rfl⟩ fun i hi => ?_
    simp only [VC.H_asrt, VC.H_cond, VC.H_ret, VC.H_back, ev_var, ev_int, ev_bool, ev_add, ev_lss, ev_geq, ev_sneq, ev_len, ev_idx, ev_fits64, ea_nil, ea_cons, env_zero, env_succ, env_cons, env_nil, List.map_cons, List.map_nil, v_int, v_bool, v_ls, pres_nil, nnE, decide_eq_true_eq, decide_eq_false_iff_not, forall_const, Int.not_lt, List.length_map]
    refine ⟨fun hc => ⟨by omega, by omega, by omega, by omega, ?_⟩, fun hc => ?_⟩
    · rw [Int.toNat_natCast, strs_getD _ _ (by omega), strs_getD _ _ (by omega), v_str, v_str]
      refine ⟨fun hn => ?_, fun hn => ⟨by omega, i + 1, by simp, ⟨by omega, ?_⟩, by omega⟩⟩
      · have : a ≠ b := fun e => hn (by rw [e])
        simp [this]
      · rw [List.take_succ_eq_append_getElem (by omega), List.take_succ_eq_append_getElem (by omega), hi.2]
        simp [List.getD, show i < a.length by omega, show i < b.length by omega] at hn
        rw [hn]
    · have h2 := hi.2
      rw [List.take_of_length_le (by omega), List.take_of_length_le (by omega)] at h2
      simp [h2]
end Go.Vc
