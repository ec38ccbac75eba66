/-
  The laws of nack: each function returns true, whatever it is handed.
-/
import Derived.Test.YtoijaooechdemaaQVkl
import Derived.Test.YtoijaooechdemaaQNc
import Derived.Test.YtoijaooechdemaaQBase3
set_option maxRecDepth 100000
namespace Go.Vc
open Go Go.Proofs Go.Plain
theorem ty_u16 {c : C} (h : Ty U16 c) : ∃ n : Nat, c = .int n ∧ n < 65536 := ty_nat rfl h
theorem ty_u16s {c : C} (h : Ty (.sl U16) c) : ∃ l : List Nat, c = Ns l ∧ l.length ≤ 9223372036854775807 ∧ ∀ x ∈ l, x < 65536 := by
  obtain ⟨l, rfl, hl, hx⟩ := h
  obtain ⟨ns, rfl, ha⟩ := ty_list (e := fun n : Nat => C.int (n : Int)) (P := fun n => n < 65536) fun x hxl => ty_u16 (hx x hxl)
  exact ⟨ns, rfl, by simpa [maxLen] using hl, ha⟩
theorem ty_pr {c : C} (h : Ty PrSh c) : ∃ p : Pr, c = PrC p ∧ p.ok := by
  obtain ⟨_, _, rfl, h1, _, _, e2, h2, e3⟩ := h
  obtain ⟨a, rfl, ha⟩ := ty_u16 h1
  obtain ⟨b, rfl, hb⟩ := ty_u16 h2
  simp only [Ty, C.ls.injEq] at e2 e3
  subst e3 e2
  exact ⟨⟨a, b⟩, rfl, ha, hb⟩
theorem ty_prs {c : C} (h : Ty (.sl PrSh) c) : ∃ l : List Pr, c = Prs l ∧ l.length ≤ 9223372036854775807 ∧ ∀ x ∈ l, x.ok := by
  obtain ⟨l, rfl, hl, hx⟩ := h
  obtain ⟨ns, rfl, ha⟩ := ty_list (e := PrC) (P := fun n => n.ok) fun x hxl => ty_pr (hx x hxl)
  exact ⟨ns, rfl, by simpa [maxLen] using hl, ha⟩
theorem pc_crossbarlaw15_awake : PC Try.prog f_crossbarlaw15_awake [] [(.bool, .bool true)] := by
  apply pcv_crossbarlaw15_awake rfl
  simp only [vc_crossbarlaw15_awake, VC.H_asrt, VC.H_ret, VC.H_call1, VC.H_call2, ev_var, ev_int, ev_bool, ev_nil, ev_nilS, ev_cons, ev_eql, ev_lss, ev_ite, ev_len, ev_idx, ev_deq, ea_nil, ea_cons, env_zero, env_succ, env_cons, env_nil, List.map_nil, v_int, v_bool, v_ls, bool_ite, pres_nil, pres_cons, andT, decide_eq_true_eq, forall_const, and_true]
  have p1 := pc_nack_Pairs [10, 11, 26, 27, 65535, 0] (by decide) (by decide)
  rw [show prs [10, 11, 26, 27, 65535, 0] = [⟨10, 32769⟩, ⟨27, 0⟩, ⟨65535, 1⟩] by decide +kernel] at p1
  have ho : ∀ p ∈ [(⟨10, 32769⟩ : Pr), ⟨27, 0⟩, ⟨65535, 1⟩], p.ok := by
    intro p hp
    simp only [List.mem_cons, List.not_mem_nil, or_false] at hp
    rcases hp with rfl | rfl | rfl <;> exact ⟨by decide, by decide⟩
  have p2 := pc_nack_Write [⟨10, 32769⟩, ⟨27, 0⟩, ⟨65535, 1⟩] ho (by decide)
  rw [show nkwB [⟨10, 32769⟩, ⟨27, 0⟩, ⟨65535, 1⟩] = [0, 10, 128, 1, 0, 27, 0, 0, 255, 255, 0, 1] by decide +kernel, show nkwE [⟨10, 32769⟩, ⟨27, 0⟩, ⟨65535, 1⟩] = 0 by decide +kernel] at p2
  have p3 := pc_nack_Read [0, 10, 128, 1, 0, 27, 0, 0, 255, 255, 0, 1] (by decide)
  rw [show nkR [0, 10, 128, 1, 0, 27, 0, 0, 255, 255, 0, 1] = [⟨10, 32769⟩, ⟨27, 0⟩, ⟨65535, 1⟩] by decide +kernel, show nkE [0, 10, 128, 1, 0, 27, 0, 0, 255, 255, 0, 1] = 0 by decide +kernel] at p3
  have p4 := pc_nack_Read [] (by decide)
  rw [show nkR [] = [] by decide +kernel, show nkE [] = 2 by decide +kernel] at p4
  have p5 := pc_nack_Seqs [⟨10, 32769⟩, ⟨27, 0⟩, ⟨65535, 1⟩] (by decide) ho
  rw [show seqs [⟨10, 32769⟩, ⟨27, 0⟩, ⟨65535, 1⟩] = [10, 11, 26, 27, 65535, 0] by decide +kernel] at p5
  refine ⟨_, p1, _, _, p2, _, _, p3, _, _, p4, _, p5, by decide, by decide, by decide, by decide, ?_⟩
  rfl
theorem law_NackRight (cs : List C) (h : TyAll [.sl PrSh, .sl U16, Byt] cs) : PC Try.prog f_crossbarlaw15_NackRight ([.sl PrSh, .sl U16, Byt].zip cs) [(.bool, .bool true)] := by
  obtain ⟨_, _, rfl, h1, _, _, rfl, h2, _, _, rfl, h3, rfl⟩ := h
  obtain ⟨l, rfl, hl, ho⟩ := ty_prs h1
  obtain ⟨s, rfl, hs, hso⟩ := ty_u16s h2
  obtain ⟨b, rfl⟩ := ty_bytes h3
  apply pcv_crossbarlaw15_NackRight rfl
  simp only [vc_crossbarlaw15_NackRight, VC.H_cond, VC.H_ret, VC.H_call1, VC.H_call2, ev_var, ev_int, ev_bool, ev_eql, ev_neq, ev_gtr, ev_sneq, ev_not, ev_ite, ev_len, ev_toStr, ea_nil, ea_cons, env_zero, env_succ, env_cons, env_nil, List.map_cons, List.map_nil, List.zip_cons_cons, List.zip_nil_right, v_int, v_bool, v_str, v_ls, bool_ite, pres_nil, pres_cons, orT, orF, notT, notF, nnE, decide_eq_true_eq, decide_eq_false_iff_not, forall_const, and_true, Int.not_lt, ofBytes_length, List.length_map]
  refine ⟨_, pc_crossbarlaw15_awake, fun h => by simp at h, fun _ => ⟨fun _ => trivial, fun hb => ?_⟩⟩
  have hsl := seqs_length l
  have hpl := prs_len s
  refine ⟨_, pc_nack_Seqs l (by omega) ho, _, pc_crossbarref15_Seqs l (by omega) ho, _, pc_crossbarref15_Numbers _ _ (by omega), _, fun _ => pc_nack_Pairs s (by omega) hso, _, fun _ => pc_crossbarref15_Pairs s (by omega) hso, _, fun _ => pc_crossbarref15_Same _ _ (by unfold prs; omega), fun hc => ?_, fun _ => ?_⟩
  · simp at hc
  · have hrd := prOf_length b
    have hrl : (nkR b).length ≤ 70000 := by
      unfold nkR
      split
      · omega
      · simp
    refine ⟨_, _, pc_nack_Write l ho (by omega), fun hp => ⟨_, fun _ => pc_crossbarref15_Write l ho (by omega), fun hc => ?_, fun _ => ⟨_, _, pc_nack_Read b (by omega), _, _, pc_crossbarref15_Read b (by omega), _, fun _ => pc_crossbarref15_Same _ _ (by omega), ?_⟩⟩, fun hp => ⟨fun hc => ?_, fun _ => ⟨_, _, pc_nack_Read b (by omega), _, _, pc_crossbarref15_Read b (by omega), _, fun _ => pc_crossbarref15_Same _ _ (by omega), ?_⟩⟩⟩
    · exfalso
      have e1 : nkwB l = prB l := if_neg (by omega)
      have e2 : nkwE l = 0 := if_neg (by omega)
      simp [e1, e2] at hc
    · simp
    · exfalso
      have e1 : nkwB l = [] := if_pos (by omega)
      have e2 : nkwE l = 1 := if_pos (by omega)
      simp [e1, e2] at hc
    · simp
theorem nk_tail (b : List UInt8) (hb : b.length ≤ 70000) : (nkE b ≠ 0 → nkR b = []) ∧ (nkE b = 0 → nkwE (nkR b) = 0 ∧ nkwB (nkR b) = b) ∧ (nkR b).length ≤ 70000 ∧ ∀ p ∈ nkR b, p.ok := by
  refine ⟨fun h => if_neg h, fun h => ?_, ?_, ?_⟩
  · have h2 := nkE_zero.1 h
    have e : nkR b = prOf b := if_pos h
    have hl := prOf_length b
    rw [e]
    exact ⟨if_neg (by omega), by rw [nkwB, if_neg (by omega), prB_prOf b h2.2.1]⟩
  · unfold nkR
    have := prOf_length b
    split
    · omega
    · simp
  · unfold nkR
    split
    · exact prOf_ok b
    · intro p hp; cases hp
theorem law_NackBack (cs : List C) (h : TyAll [.sl PrSh, .sl U16, Byt] cs) : PC Try.prog f_crossbarlaw15_NackBack ([.sl PrSh, .sl U16, Byt].zip cs) [(.bool, .bool true)] := by
  obtain ⟨_, _, rfl, h1, _, _, rfl, h2, _, _, rfl, h3, rfl⟩ := h
  obtain ⟨l, rfl, hl, ho⟩ := ty_prs h1
  obtain ⟨s, rfl, hs, hso⟩ := ty_u16s h2
  obtain ⟨b, rfl⟩ := ty_bytes h3
  apply pcv_crossbarlaw15_NackBack rfl
  simp only [vc_crossbarlaw15_NackBack, VC.H_asrt, VC.H_cond, VC.H_ret, VC.H_call1, VC.H_call2, ev_var, ev_int, ev_bool, ev_mul, ev_eql, ev_neq, ev_lss, ev_gtr, ev_seql, ev_not, ev_ite, ev_len, ev_toStr, ev_fits64, ea_nil, ea_cons, env_zero, env_succ, env_cons, env_nil, List.map_cons, List.map_nil, List.zip_cons_cons, List.zip_nil_right, v_int, v_bool, v_str, v_ls, bool_ite, pres_nil, pres_cons, orT, orF, notT, notF, nnE, decide_eq_true_eq, decide_eq_false_iff_not, forall_const, and_true, Int.not_lt, ofBytes_length, List.length_map]
  refine ⟨_, pc_crossbarlaw15_awake, fun h => by simp at h, fun _ => ⟨fun _ => trivial, fun hb => ?_⟩⟩
  have hsl := seqs_length l
  have hpl : (prs s).length ≤ s.length := prs_len s
  have hlt := seqs_lt ho
  have hpt : (prs (seqs l)).length ≤ (seqs l).length := prs_len _
  have hfew := prs_few l ho
  obtain ⟨n1, n2, n3, n4⟩ := nk_tail b (by omega)
  refine ⟨_, pc_nack_Pairs s (by omega) hso, _, pc_nack_Seqs (prs s) (by omega) (prs_ok s hso), ?_⟩
  rw [seqs_prs s hso]
  refine ⟨_, pc_crossbarref15_Numbers _ _ (by omega), fun hc => by simp at hc, fun _ => ?_⟩
  refine ⟨_, pc_nack_Seqs l (by omega) ho, _, pc_nack_Pairs (seqs l) (by omega) hlt, _, fun _ => pc_nack_Seqs (prs (seqs l)) (by omega) (prs_ok _ hlt), ?_⟩
  rw [seqs_prs _ hlt]
  refine ⟨_, fun _ => pc_crossbarref15_Numbers _ _ (by omega), fun _ => by omega, fun hc => ?_, fun _ => ?_⟩
  · exfalso
    simp at hc
    omega
  · refine ⟨_, _, pc_nack_Write l ho (by omega), fun hw => ?_, fun hw => ?_⟩
    · have hw2 : ¬ (l.length = 0 ∨ 16380 < l.length) := fun hx => by
        rw [v_int, nkwE, if_pos hx] at hw
        exact absurd hw (by decide)
      have e1 : nkwB l = prB l := if_neg hw2
      have e2 : nkE (prB l) = 0 := by rw [nkE_zero, prB_length]; omega
      have e3 : nkR (prB l) = l := by rw [nkR, if_pos e2, prOf_back l ho]
      rw [e1]
      refine ⟨_, _, pc_nack_Read (prB l) (by rw [prB_length]; omega), ?_⟩
      rw [e2, e3]
      refine ⟨_, fun _ => pc_crossbarref15_Same _ _ (by omega), fun hc => by simp at hc, fun _ => ⟨_, _, pc_nack_Read b (by omega), fun hx => ?_, fun hx => ⟨_, _, pc_nack_Write _ n4 (by omega), ?_⟩⟩⟩
      · rw [n1 (by simpa using hx)]
        simp
      · obtain ⟨m1, m2⟩ := n2 (by simpa using hx)
        rw [m1, m2]
        simp
    · refine ⟨_, _, pc_nack_Read b (by omega), fun hx => ?_, fun hx => ⟨_, _, pc_nack_Write _ n4 (by omega), ?_⟩⟩
      · rw [n1 (by simpa using hx)]
        simp
      · obtain ⟨m1, m2⟩ := n2 (by simpa using hx)
        rw [m1, m2]
        simp
theorem law_NackJoins (cs : List C) (h : TyAll [.sl PrSh, .sl PrSh, U16, U16] cs) : PC Try.prog f_crossbarlaw15_NackJoins ([.sl PrSh, .sl PrSh, U16, U16].zip cs) [(.bool, .bool true)] := by
  obtain ⟨_, _, rfl, h1, _, _, rfl, h2, _, _, rfl, h3, _, _, rfl, h4, rfl⟩ := h
  obtain ⟨l, rfl, hl, ho⟩ := ty_prs h1
  obtain ⟨m, rfl, hm, hmo⟩ := ty_prs h2
  obtain ⟨a, rfl, ha⟩ := ty_u16 h3
  obtain ⟨b, rfl, hb⟩ := ty_u16 h4
  apply pcv_crossbarlaw15_NackJoins rfl
  simp only [vc_crossbarlaw15_NackJoins, VC.H_asrt, VC.H_cond, VC.H_ret, VC.H_call1, ev_var, ev_int, ev_bool, ev_nil, ev_cons, ev_bin, ev_add, ev_mul, ev_eql, ev_lss, ev_leq, ev_gtr, ev_geq, ev_beq, ev_not, ev_ite, ev_len, ev_idx, ev_app, ev_deq, ea_nil, ea_cons, env_zero, env_succ, env_cons, env_nil, List.map_cons, List.map_nil, List.zip_cons_cons, List.zip_nil_right, v_int, v_bool, v_ls, bool_ite, pres_nil, pres_cons, orT, orF, andT, notT, notF, decide_eq_true_eq, decide_eq_false_iff_not, forall_const, and_true, Int.not_lt, List.length_map]
  refine ⟨_, pc_crossbarlaw15_awake, fun h => by simp at h, fun _ => ⟨fun _ => trivial, fun hc => ?_⟩⟩
  have hsl := seqs_length l
  have hsm := seqs_length m
  have e1 : List.map PrC l ++ List.map PrC m = List.map PrC (l ++ m) := by simp
  rw [e1]
  refine ⟨by omega, by omega, _, pc_nack_Seqs (l ++ m) (by simp; omega) (fun p hp => (List.mem_append.1 hp).elim (ho p) (hmo p)), _, pc_nack_Seqs l (by omega) ho, ?_⟩
  simp only [v_ls, List.length_map]
  refine ⟨by omega, _, pc_nack_Seqs m (by omega) hmo, ?_⟩
  simp only [v_ls, List.length_map]
  have e2 : C.ls (List.map (fun n : Nat => C.int (n : Int)) (seqs l) ++ List.map (fun n : Nat => C.int (n : Int)) (seqs m)) = Ns (seqs l ++ seqs m) := by simp [Ns]
  rw [e2, seqs_append]
  refine ⟨by omega, _, pc_crossbarref15_Numbers _ _ (by simp; omega), fun hx => by simp at hx, fun _ => ?_⟩
  have p := pc_nack_Pairs [a, b] (by simp) (by simp [ha, hb])
  have e3 : arith .sub .u16 ((b : Nat) : Int) ((a : Nat) : Int) = (((b + 65536 - a) % 65536 : Nat) : Int) := gap16 b a hb ha
  rw [e3]
  refine ⟨_, p, ?_⟩
  obtain ⟨t1, t2⟩ := prs_two a b ha hb
  by_cases hf : 1 ≤ (b + 65536 - a) % 65536 ∧ (b + 65536 - a) % 65536 ≤ 16
  · have hone := t1 hf
    have f1 : (1 : Int) ≤ (((b + 65536 - a) % 65536 : Nat) : Int) ∧ (((b + 65536 - a) % 65536 : Nat) : Int) ≤ 16 := by omega
    generalize (b + 65536 - a) % 65536 = g at f1
    simp [hone, f1.1, f1.2]
  · have htwo := t2 hf
    rw [htwo]
    have f1 : ¬ ((1 : Int) ≤ (((b + 65536 - a) % 65536 : Nat) : Int) ∧ (((b + 65536 - a) % 65536 : Nat) : Int) ≤ 16) := by omega
    generalize (b + 65536 - a) % 65536 = g at f1
    have f2 : ((1 : Int) ≤ g) → ¬ ((g : Int) ≤ 16) := fun x y => f1 ⟨x, y⟩
    have d1 := pr_deq ⟨a, 0⟩ ⟨a, 0⟩
    have d2 := pr_deq ⟨b, 0⟩ ⟨b, 0⟩
    simp only [decide_true] at d1 d2
    by_cases hg : (1 : Int) ≤ g
    · have := f2 hg
      simp [hg, this]
      exact ⟨d1, d2⟩
    · simp [hg]
      exact ⟨d1, d2⟩
end Go.Vc
