/-
  The fixed answers of h264.
-/
import Derived.Test.YtodhgafhllbojaaQUh
set_option maxRecDepth 100000
namespace Go.Vc
open Go Go.Proofs Go.Plain
def awU : Un := ⟨3, 5, [1, 2, 3]⟩
def awL : List Pi := [⟨3, 0, [], true, false, ⟨3, 5, [1]⟩⟩, ⟨3, 0, [], false, false, ⟨3, 5, [2]⟩⟩, ⟨3, 0, [], false, true, ⟨3, 5, [3]⟩⟩]
theorem aw_split : spL awU 3 = awL ∧ spE awU 3 = 0 := by
  refine ⟨?_, by decide +kernel⟩
  rw [spL, if_neg (by decide +kernel), if_neg (by decide +kernel), parts_cons _ _ _ _ (by decide), parts_cons _ _ _ _ (by decide), parts_cons _ _ _ _ (by decide)]
  show _ :: _ :: _ :: parts 0 awU false [] = awL
  rw [parts_nil]
  rfl
theorem aw_ok : ∀ p ∈ awL, Pi.ok p := by
  intro p hp
  simp only [awL, List.mem_cons, List.not_mem_nil, or_false] at hp
  rcases hp with rfl | rfl | rfl <;> exact ⟨by decide, by decide, fun u hu => by cases hu⟩
theorem pc_crossbarlaw25_awake : PC Try.prog f_crossbarlaw25_awake [] [(.bool, .bool true)] := by
  apply pcv_crossbarlaw25_awake rfl
  simp only [vc_crossbarlaw25_awake, VC.H_asrt, VC.H_cond, VC.H_ret, VC.H_call1, VC.H_call2, ev_var, ev_int, ev_bool, ev_str, ev_nil, ev_nilS, ev_cons, ev_hd, ev_tl, ev_eql, ev_neq, ev_lss, ev_leq, ev_seql, ev_not, ev_ite, ev_len, ev_idx, ev_sub, ev_toStr, ea_nil, ea_cons, env_zero, env_succ, env_cons, env_nil, List.map_nil, v_int, v_bool, v_str, v_ls, toBool_ite, bool_ite, pres_nil, pres_cons, andT, notT, nnE, decide_eq_true_eq, decide_eq_false_iff_not, forall_const, and_true]
  have p1 := pc_h264_Split awU 3 (by decide) (by decide)
  rw [aw_split.1, aw_split.2] at p1
  have p2 := pc_h264_Write ⟨3, 0, [], false, true, ⟨3, 5, [3]⟩⟩ (aw_ok _ (by simp [awL]))
  rw [show h2wB ⟨3, 0, [], false, true, ⟨3, 5, [3]⟩⟩ = [124, 69, 3] by decide +kernel, show h2wE ⟨3, 0, [], false, true, ⟨3, 5, [3]⟩⟩ = 0 by decide +kernel] at p2
  have p3 := pc_h264_Read [124, 69, 3] (by decide)
  rw [show h2P [124, 69, 3] = ⟨3, 0, [], false, true, ⟨3, 5, [3]⟩⟩ by decide +kernel, show h2E [124, 69, 3] = 0 by decide +kernel] at p3
  have p4 := pc_h264_Join awL (by decide) aw_ok
  rw [show jnU awL = awU by decide +kernel, show jnE awL = 0 by decide +kernel] at p4
  have p5 := pc_h264_Join (awL.take 2) (by decide) fun p hp => aw_ok p (List.mem_of_mem_take hp)
  rw [show jnE (awL.take 2) = 6 by decide +kernel] at p5
  have p6 := pc_h264_Write ⟨2, 1, [awU], false, false, Un.zero⟩ ⟨by decide, by decide, by simp [awU]⟩
  rw [show h2wB ⟨2, 1, [awU], false, false, Un.zero⟩ = [56, 0, 4, 101, 1, 2, 3] by decide +kernel, show h2wE ⟨2, 1, [awU], false, false, Un.zero⟩ = 0 by decide +kernel] at p6
  have p7 := pc_crossbarref25_SameUnit awU awU
  rw [show decide (awU = awU) = true by decide +kernel] at p7
  have p8 := pc_h264_Canon [124, 69, 3] (by decide)
  rw [show decide (h2C [124, 69, 3]) = true by decide +kernel] at p8
  have p9 := pc_h264_Canon [124, 101, 3] (by decide)
  rw [show decide (h2C [124, 101, 3]) = false by decide +kernel] at p9
  have p10 := pc_h264_Right ⟨3, 0, [], false, true, ⟨3, 5, [3]⟩⟩ (aw_ok _ (by simp [awL]))
  rw [show decide (Pi.right ⟨3, 0, [], false, true, ⟨3, 5, [3]⟩⟩) = true by decide +kernel] at p10
  refine ⟨_, _, p1, fun h => absurd rfl h, fun h => ⟨by decide, _, _, p2, _, _, p3, _, _, p4, by decide, _, _, p5, _, _, p6, _, fun _ => p7, _, fun _ => p8, _, fun _ => p9, _, fun _ => p10, ?_⟩⟩
  rfl
end Go.Vc
