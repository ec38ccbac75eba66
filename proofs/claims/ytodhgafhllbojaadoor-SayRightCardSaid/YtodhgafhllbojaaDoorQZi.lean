/-
  The law SayRight: its function returns true, whatever it is handed.
-/
import Derived.Test.YtodhgafhllbojaaDoorQZf
import Derived.Test.YtodhgafhllbojaaDoorQVcs1
set_option maxRecDepth 100000
namespace Go.Vc
open Go Go.Proofs Go.Plain
theorem law_SayRight (cs : List C) (h : TyAll [PlSh, .str] cs) : PC Tryd.prog f_crossbarlaw30_SayRight ([PlSh, .str].zip cs) [(.bool, .bool true)] := by
  obtain ⟨_, _, rfl, h1, _, _, rfl, ⟨s, rfl, hs⟩, rfl⟩ := h
  obtain ⟨p, rfl, hn, o1, o2⟩ := ty_pl h1
  apply pcv_crossbarlaw30_SayRight rfl
  simp only [vc_crossbarlaw30_SayRight, VC.H_cond, VC.H_ret, VC.H_call1, VC.H_call2, ev_var, ev_int, ev_bool, ev_str, ev_nil, ev_cons, ev_hd, ev_tl, ev_eql, ev_neq, ev_gtr, ev_sneq, ev_not, ev_ite, ev_slen, ea_nil, ea_cons, env_zero, env_succ, env_cons, env_nil, List.map_cons, List.map_nil, List.zip_cons_cons, List.zip_nil_right, v_int, v_bool, v_str, v_ls, v_hd, v_tl, bool_ite, pres_nil, pres_cons, orT, orF, andT, notT, notF, nnE, decide_eq_true_eq, decide_eq_false_iff_not, forall_const, and_true, Int.not_lt]
  refine ⟨_, pc_law30_awake, fun h => by simp at h, fun _ => ⟨_, pc_ref29_Short p o1 o2, fun _ => trivial, fun hsh => ?_⟩⟩
  obtain ⟨hsh, hs3⟩ : plShort p ∧ s.length ≤ 3000 := by
    by_cases hh : plShort p
    · simp [hh] at hsh; exact ⟨hh, by omega⟩
    · simp [hh] at hsh
  have hf := fewS hsh
  refine ⟨_, _, pc_say_Print p hf hn, _, pc_ref29_Right p hf, fun hr => ?_, fun hr => ?_⟩
  · have hr : plRight p := by simpa using hr
    simp only [if_pos hr]
    refine ⟨_, fun _ => pc_ref30_Print p hf hr hn, fun hc => ?_, fun _ => ?_⟩
    · exfalso; simp at hc
    · refine ⟨_, _, pc_say_Parse s (by omega), _, _, pc_ref30_Parse s (by omega), _, pc_ref30_Same _ _ (parse_few2 (by omega)), ?_⟩
      rw [parse_ref_eq]
      cases parseBy grpS s <;> simp
  · have hr : ¬ plRight p := by simpa using hr
    simp only [if_neg hr]
    refine ⟨fun hc => ?_, fun _ => ?_⟩
    · exfalso; simp at hc
    · refine ⟨_, _, pc_say_Parse s (by omega), _, _, pc_ref30_Parse s (by omega), _, pc_ref30_Same _ _ (parse_few2 (by omega)), ?_⟩
      rw [parse_ref_eq]
      cases parseBy grpS s <;> simp
end Go.Vc
