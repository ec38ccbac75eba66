/-
  The laws of sign: each function returns true, whatever it is handed.
-/
import Derived.Test.YthfljfcpeoofiaaQVsl
import Derived.Test.YthfljfcpeoofiaaQSc
import Derived.Test.YthfljfcpeoofiaaQBase3
set_option maxRecDepth 100000
namespace Go.Vc
open Go Go.Proofs Go.Plain
theorem ty_sg {c : C} (h : Ty SgSh c) : ∃ s : Sg, c = SgC s ∧ s.num < 4294967296 ∧ s.text.length ≤ maxLen := by
  obtain ⟨_, _, rfl, h1, _, _, e2, h2, _, _, e3, h3, _, _, e4, h4, _, _, e5, h5, _, _, e6, h6, e7⟩ := h
  obtain ⟨k, rfl, _⟩ := ty_int h1
  obtain ⟨t, rfl, ht⟩ := h2
  obtain ⟨n, rfl, hn⟩ := ty_nat rfl h3
  obtain ⟨a, rfl⟩ := h4
  obtain ⟨b, rfl⟩ := h5
  obtain ⟨u, rfl, _⟩ := ty_int h6
  simp only [Ty, C.ls.injEq] at e2 e3 e4 e5 e6 e7
  subst e7 e6 e5 e4 e3 e2
  exact ⟨⟨k, t, n, a, b, u⟩, rfl, hn, ht⟩
theorem deq_self (s : Sg) : dataEq SgSh (SgC s) (SgC s) = true := by unfold SgC; rw [deq_sg]; simp
theorem law_SignRight (cs : List C) (h : TyAll [SgSh, I64, Byt] cs) : PC Try.prog f_crossbarlaw09_SignRight ([SgSh, I64, Byt].zip cs) [(.bool, .bool true)] := by
  obtain ⟨_, _, rfl, h1, _, _, rfl, h2, _, _, rfl, h3, rfl⟩ := h
  obtain ⟨s, rfl, hn, hl⟩ := ty_sg h1
  obtain ⟨k, rfl, _⟩ := ty_int h2
  obtain ⟨b, rfl⟩ := ty_bytes h3
  apply pcv_crossbarlaw09_SignRight rfl
  simp only [vc_crossbarlaw09_SignRight, SgC, VC.H_cond, VC.H_ret, VC.H_call1, VC.H_call2, ev_var, ev_int, ev_bool, ev_nil, ev_cons, ev_hd, ev_tl, ev_eql, ev_neq, ev_gtr, ev_sneq, ev_beq, ev_not, ev_ite, ev_len, ev_slen, ev_toStr, ev_deq, ea_nil, ea_cons, env_zero, env_succ, env_cons, env_nil, List.map_cons, List.map_nil, List.zip_cons_cons, List.zip_nil_right, v_int, v_bool, v_str, v_ls, v_hd, v_tl, bool_ite, pres_nil, pres_cons, orT, orF, andT, notT, notF, nnE, decide_eq_true_eq, decide_eq_false_iff_not, forall_const, and_true, Int.not_lt, ofBytes_length]
  refine ⟨_, pc_law09_awake, fun h => by simp at h, fun _ => ⟨fun _ => trivial, fun hs => ?_⟩⟩
  have hs1 : s.text.length ≤ 1000000 := by omega
  have hs2 : b.length ≤ 1000000 := by omega
  refine ⟨_, pc_ref09_Right s hs1, _, _, pc_sign_Write s hs1 hn, fun hr => ?_, fun hr => ?_⟩
  · have hr : s.right := by simpa using hr
    rw [if_pos hr, if_pos hr]
    refine ⟨_, fun _ => pc_ref09_Write s hr hs1, fun hc => ?_, fun _ => ?_⟩
    · exfalso
      simp at hc
    · refine ⟨_, _, pc_sign_Read k b hs2, _, _, pc_ref09_Read k b hs2, _, pc_sign_Right s hs1 hn, _, fun _ => pc_sign_Canon k b hs2, _, fun _ => pc_ref09_Canon k b hs2, ?_⟩
      simp [SgC, deq_sg]
  · have hr : ¬ s.right := by simpa using hr
    rw [if_neg hr, if_neg hr]
    refine ⟨fun hc => ?_, fun _ => ?_⟩
    · exfalso
      simp at hc
    · refine ⟨_, _, pc_sign_Read k b hs2, _, _, pc_ref09_Read k b hs2, _, pc_sign_Right s hs1 hn, _, fun _ => pc_sign_Canon k b hs2, _, fun _ => pc_ref09_Canon k b hs2, ?_⟩
      simp [SgC, deq_sg]
end Go.Vc
