/-
  The law FreshAnew: the function returns true, whatever it is handed.
-/
import Derived.Test.YtkkkjjonjdkngaaQVfm
import Derived.Test.YtkkkjjonjdkngaaQFl
set_option maxRecDepth 100000
namespace Go.Vc
open Go Go.Proofs Go.Plain
/-- Those of one Ssrc. -/
def ofS (s : Nat) (l : List En) : List En := l.filter fun e => e.ssrc == s
theorem ofS_take (s : Nat) (l : List En) (i : Nat) (h : i < l.length) : ofS s (l.take (i + 1)) = ofS s (l.take i) ++ if (l.getD i En.zero).ssrc = s then [l.getD i En.zero] else [] := by
  rw [en_take l i h, ofS, List.filter_append]
  congr 1
  by_cases hs : (l.getD i En.zero).ssrc = s
  · rw [if_pos hs, List.filter_cons_of_pos (by simpa using hs)]; rfl
  · rw [if_neg hs, List.filter_cons_of_neg (by simpa using hs)]; rfl
theorem ofS_len (s : Nat) (l : List En) (i : Nat) : (ofS s (l.take i)).length ≤ l.length := by
  refine Nat.le_trans (List.length_filter_le _ _) ?_
  rw [List.length_take]
  omega
theorem law_FreshAnew (cs : List C) (h : TyAll [.sl EnSh, .sl EnSh, .sl EnSh, U32] cs) : PC Try.prog f_crossbarlaw16_FreshAnew ([.sl EnSh, .sl EnSh, .sl EnSh, U32].zip cs) [(.bool, .bool true)] := by
  obtain ⟨_, _, rfl, h1, _, _, rfl, h2, _, _, rfl, h3, _, _, rfl, h4, rfl⟩ := h
  obtain ⟨was, rfl, hl, hwo⟩ := ty_ens h1
  obtain ⟨l, rfl, hs, ho⟩ := ty_ens h2
  obtain ⟨m, rfl, hm, hmo⟩ := ty_ens h3
  obtain ⟨s, rfl, hss⟩ := ty_u32 h4
  apply pcv_crossbarlaw16_FreshAnew rfl
  simp only [vc_crossbarlaw16_FreshAnew, VC.H_asrt, VC.H_cond, VC.H_ret, VC.H_call1, ev_var, ev_int, ev_bool, ev_nil, ev_add, ev_mul, ev_leq, ev_gtr, ev_not, ev_ite, ev_len, ev_app, ea_nil, ea_cons, env_zero, env_succ, env_cons, env_nil, List.map_cons, List.map_nil, List.zip_cons_cons, List.zip_nil_right, v_int, v_bool, v_ls, bool_ite, pres_nil, orT, orF, notT, notF, decide_eq_true_eq, decide_eq_false_iff_not, forall_const, Int.not_lt, List.length_map]
  refine ⟨_, pc_crossbarlaw16_awake, fun h => by simp at h, fun _ => ⟨fun _ => trivial, fun hb => ?_⟩⟩
  have e1 : List.map EnC was ++ List.map EnC l = List.map EnC (was ++ l) := by simp
  have e2 : List.map EnC l ++ List.map EnC m = List.map EnC (l ++ m) := by simp
  rw [e1, e2]
  have a1 := anew_length was l
  have a2 := anew_length (was ++ l) m
  have a3 := anew_length was (l ++ m)
  rw [List.length_append] at a3
  refine ⟨_, pc_fresh_Anew was l (by omega) (by omega), by omega, by omega, _, pc_fresh_Anew (was ++ l) m (by simp; omega) (by omega), by omega, by omega, _, pc_fresh_Anew was (l ++ m) (by omega) (by simp; omega), ?_⟩
  simp only [v_ls, List.length_map]
  have e3 : List.map EnC (anew was l) ++ List.map EnC (anew (was ++ l) m) = List.map EnC (anew was (l ++ m)) := by rw [anew_append, List.map_append]
  rw [e3]
  refine ⟨by omega, by omega, _, pc_crossbarref16_Same _ _ (by omega), fun hx => by simp at hx, fun _ => ?_⟩
  refine VC.go_loop (fun i : Nat => [Ens (ofS s (was.take i)), .int i]) (fun i => i ≤ was.length) (fun i => was.length - i) 0 rfl (Nat.zero_le _) fun i hi => ?_
  simp only [VC.H_asrt, VC.H_cond, VC.H_back, ev_var, ev_int, ev_nil, ev_cons, ev_hd, ev_add, ev_mul, ev_eql, ev_lss, ev_leq, ev_geq, ev_len, ev_idx, ev_app, ev_fits64, env_zero, env_succ, env_cons, env_nil, List.map_cons, List.map_nil, v_int, v_bool, v_ls, pres_nil, decide_eq_true_eq, decide_eq_false_iff_not, forall_const, Int.not_lt, List.length_map, List.length_cons, List.length_nil, Int.toNat_natCast]
  have b1 := ofS_len s was i
  refine ⟨fun hc => ?_, fun hc => ?_⟩
  · have hg := en_getD was i (by omega)
    have ht := ofS_take s was i (by omega)
    generalize was.getD i En.zero = e at hg ht
    simp only [hg, v_hd, v_int]
    refine ⟨by omega, by omega, fun hy => ⟨by omega, by omega, by omega, by omega, i + 1, ?_, by omega, by omega⟩, fun hn => ⟨by omega, i + 1, ?_, by omega, by omega⟩⟩
    · rw [ht, if_pos (by omega)]
      simp
    · rw [ht, if_neg (by omega)]
      simp
  · have hi2 : i = was.length := by omega
    subst hi2
    rw [List.take_length]
    refine VC.go_loop (fun j : Nat => [Ens (ofS s (l.take j)), .int j]) (fun j => j ≤ l.length) (fun j => l.length - j) 0 rfl (Nat.zero_le _) fun j hj => ?_
    simp only [VC.H_asrt, VC.H_cond, VC.H_back, ev_var, ev_int, ev_nil, ev_cons, ev_hd, ev_add, ev_mul, ev_eql, ev_lss, ev_leq, ev_geq, ev_len, ev_idx, ev_app, ev_fits64, env_zero, env_succ, env_cons, env_nil, List.map_cons, List.map_nil, v_int, v_bool, v_ls, pres_nil, decide_eq_true_eq, decide_eq_false_iff_not, forall_const, Int.not_lt, List.length_map, List.length_cons, List.length_nil, Int.toNat_natCast]
    have b2 := ofS_len s l j
    refine ⟨fun hc => ?_, fun hc => ?_⟩
    · have hg := en_getD l j (by omega)
      have ht := ofS_take s l j (by omega)
      generalize l.getD j En.zero = e at hg ht
      simp only [hg, v_hd, v_int]
      refine ⟨by omega, by omega, fun hy => ⟨by omega, by omega, by omega, by omega, j + 1, ?_, by omega, by omega⟩, fun hn => ⟨by omega, j + 1, ?_, by omega, by omega⟩⟩
      · rw [ht, if_pos (by omega)]
        simp
      · rw [ht, if_neg (by omega)]
        simp
    · have hj2 : j = l.length := by omega
      subst hj2
      rw [List.take_length]
      refine VC.go_loop (fun k : Nat => [Ens (ofS s ((anew was l).take k)), .int k]) (fun k => k ≤ (anew was l).length) (fun k => (anew was l).length - k) 0 rfl (Nat.zero_le _) fun k hk => ?_
      simp only [VC.H_asrt, VC.H_cond, VC.H_ret, VC.H_back, VC.H_call1, ev_var, ev_int, ev_nil, ev_cons, ev_hd, ev_add, ev_mul, ev_eql, ev_lss, ev_leq, ev_geq, ev_len, ev_idx, ev_app, ev_fits64, ea_nil, ea_cons, env_zero, env_succ, env_cons, env_nil, List.map_cons, List.map_nil, v_int, v_bool, v_ls, pres_nil, decide_eq_true_eq, decide_eq_false_iff_not, forall_const, Int.not_lt, List.length_map, List.length_cons, List.length_nil, Int.toNat_natCast]
      have b3 := ofS_len s (anew was l) k
      refine ⟨fun hc => ?_, fun hc => ?_⟩
      · have hg := en_getD (anew was l) k (by omega)
        have ht := ofS_take s (anew was l) k (by omega)
        generalize (anew was l).getD k En.zero = e at hg ht
        simp only [hg, v_hd, v_int]
        refine ⟨by omega, by omega, fun hy => ⟨by omega, by omega, by omega, by omega, k + 1, ?_, by omega, by omega⟩, fun hn => ⟨by omega, k + 1, ?_, by omega, by omega⟩⟩
        · rw [ht, if_pos (by omega)]
          simp
        · rw [ht, if_neg (by omega)]
          simp
      · have hk2 : k = (anew was l).length := by omega
        subst hk2
        rw [List.take_length]
        have c1 : (ofS s was).length ≤ was.length := List.length_filter_le _ _
        have c2 : (ofS s l).length ≤ l.length := List.length_filter_le _ _
        have c3 := anew_length (ofS s was) (ofS s l)
        refine ⟨_, pc_fresh_Anew (ofS s was) (ofS s l) (by omega) (by omega), _, pc_crossbarref16_Same _ _ (by omega), ?_⟩
        have := anew_filter was l s
        simp [ofS, this]
end Go.Vc
