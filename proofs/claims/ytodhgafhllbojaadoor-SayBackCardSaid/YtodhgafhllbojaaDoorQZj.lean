/-
  The law SayBack: its function returns true, whatever it is handed.
-/
import Derived.Test.YtodhgafhllbojaaDoorQZf
import Derived.Test.YtodhgafhllbojaaDoorQVcs1
set_option maxRecDepth 100000
namespace Go.Vc
open Go Go.Proofs Go.Plain
theorem law_SayBack (cs : List C) (h : TyAll [PlSh, PlSh, .str] cs) : PC Tryd.prog f_crossbarlaw30_SayBack ([PlSh, PlSh, .str].zip cs) [(.bool, .bool true)] := by
  obtain ⟨_, _, rfl, h1, _, _, rfl, h2, _, _, rfl, ⟨s, rfl, hs⟩, rfl⟩ := h
  obtain ⟨p, rfl, hn, o1, o2⟩ := ty_pl h1
  obtain ⟨q, rfl, hm, o3, o4⟩ := ty_pl h2
  apply pcv_crossbarlaw30_SayBack rfl
  simp only [vc_crossbarlaw30_SayBack, VC.H_asrt, VC.H_cond, VC.H_ret, VC.H_call1, VC.H_call2, ev_var, ev_int, ev_bool, ev_str, ev_nil, ev_nilS, ev_cons, ev_hd, ev_tl, ev_add, ev_eql, ev_neq, ev_gtr, ev_seql, ev_beq, ev_not, ev_ite, ev_slen, ev_cat, ev_fits64, ea_nil, ea_cons, env_zero, env_succ, env_cons, env_nil, List.map_cons, List.map_nil, List.zip_cons_cons, List.zip_nil_right, v_int, v_bool, v_str, v_ls, v_hd, v_tl, toBool_ite, bool_ite, pres_nil, pres_cons, orT, orF, andT, andF, notT, notF, nnE, decide_eq_true_eq, decide_eq_false_iff_not, forall_const, and_true, Int.not_lt]
  refine ⟨_, pc_law30_awake, fun h => by simp at h, fun _ => ⟨_, pc_ref29_Short p o1 o2, _, fun _ => pc_ref29_Short q o3 o4, fun _ => trivial, fun hsh => ?_⟩⟩
  obtain ⟨hsh, hsh2, hs3⟩ : plShort p ∧ plShort q ∧ s.length ≤ 3000 := by
    by_cases hh : plShort p
    · by_cases hh2 : plShort q
      · simp [hh, hh2] at hsh; exact ⟨hh, hh2, by omega⟩
      · simp [hh, hh2] at hsh
    · simp [hh] at hsh
  have hf := fewS hsh
  have hf2 := fewS hsh2
  refine ⟨_, _, pc_say_Print p hf hn, _, _, pc_say_Print q hf2 hm, fun he => ?_, fun he => ?_⟩
  · have hr : plRight p := by
      by_cases hr : plRight p
      · exact hr
      · simp [hr] at he
    simp only [if_pos hr]
    have hl := print_short hsh hr hn
    have pp := parse_back hr hn
    refine ⟨_, _, pc_say_Parse (printL p) (by omega), _, fun _ => pc_ref30_Same p _ hf, _, fun _ => pc_ref30_Same p q hf, fun hc => ?_, fun _ => ?_⟩
    · exfalso
      rw [pp] at hc
      by_cases hr2 : plRight q
      · have := print_inj hr hn hr2 hm
        simp [hr2, this] at hc
      · simp [hr2] at hc
    · refine ⟨?_, _, _, pc_say_Parse (printL p ++ [32]) ?_, ?_, _, _, pc_say_Parse (printL p ++ [32, 112, 97, 100]) ?_, fun hc => ?_, fun _ => ?_⟩
      · simp only [v_str, List.length_singleton]; omega
      · simp only [List.length_append, List.length_singleton]; omega
      · simp only [v_str, List.length_cons, List.length_nil]; omega
      · simp only [List.length_append, List.length_cons, List.length_nil]; omega
      · exfalso
        rw [parse_sp hr hn, parse_pad hr hn] at hc
        simp at hc
      · refine ⟨_, _, pc_say_Parse s (by omega), fun hc => ?_, fun hc => ?_⟩
        · cases hv : parseBy grpS s with
          | none => exact ⟨_, pc_ref30_Same Pl.zero Pl.zero few_zero, by simp⟩
          | some r => rw [hv] at hc; simp at hc
        · cases hv : parseBy grpS s with
          | none => rw [hv] at hc; simp at hc
          | some r =>
            obtain ⟨r1, r2, r3⟩ := (parse_g _ _).1 hv
            have hf3 := parse_few (by omega) hv
            refine ⟨_, _, pc_say_Print r hf3 r2, _, fun _ => pc_plan_Right r hf3, ?_⟩
            simp [r1, r3]
  · have hr : ¬ plRight p := by
      intro hr
      simp [hr] at he
    refine ⟨_, pc_plan_Right p hf, fun hc => ?_, fun _ => ?_⟩
    · exfalso
      simp [hr] at hc
    · refine ⟨_, _, pc_say_Parse s (by omega), fun hc => ?_, fun hc => ?_⟩
      · cases hv : parseBy grpS s with
        | none => exact ⟨_, pc_ref30_Same Pl.zero Pl.zero few_zero, by simp⟩
        | some r => rw [hv] at hc; simp at hc
      · cases hv : parseBy grpS s with
        | none => rw [hv] at hc; simp at hc
        | some r =>
          obtain ⟨r1, r2, r3⟩ := (parse_g _ _).1 hv
          have hf3 := parse_few (by omega) hv
          refine ⟨_, _, pc_say_Print r hf3 r2, _, fun _ => pc_plan_Right r hf3, ?_⟩
          simp [r1, r3]
end Go.Vc
