/-
  The law NackMany: the function returns true, whatever it is handed.
-/
import Derived.Test.YtoijaooechdemaaQVkm
import Derived.Test.YtoijaooechdemaaQNl
set_option maxRecDepth 100000
namespace Go.Vc
open Go Go.Proofs Go.Plain
theorem pn_nack_Read (b : List UInt8) (hb : b.length ≤ 140737488355328) : PC Try.prog 2000036 [(Byt, B b)] [(.sl PrSh, Prs (nkR b)), (I64, .int (nkE b))] := by
  refine PC.ofF (f := 36) (by decide) ⟨PrSh, Prs (nkR b), [(I64, .int (nkE b))], rfl, ⟨_, Try.func36, rfl, by kernel_rfl⟩, fun w N vs hvs => ?_⟩
  obtain ⟨v, r, rfl, hv, rfl⟩ := hvs
  refine (callsIn_wide.1 (nk_read w N v b hv hb)).mono ?_
  rintro e W' ⟨v, rfl, hown, hbel⟩
  refine ⟨v, [.int .i64 (nkE b)], 62, _, rfl, hbel, ?_, nk_row _ _ _, ⟨_, _, rfl, ⟨_, rfl, rfl⟩, rfl⟩⟩
  rw [v_ls, List.length_map]
  exact hown
theorem rep_set_all (p : Pr) (n i : Nat) (h : i < n) : (((List.replicate i p ++ List.replicate (n - i) Pr.zero)).map PrC).set i (PrC p) = (List.replicate (i + 1) p ++ List.replicate (n - (i + 1)) Pr.zero).map PrC := by
  rw [← List.map_set]
  congr 1
  rw [List.set_append_right _ _ (by simp), List.length_replicate, Nat.sub_self]
  obtain ⟨k, hk⟩ : ∃ k, n - i = k + 1 := ⟨n - i - 1, by omega⟩
  rw [hk, List.replicate_succ, List.set_cons_zero, List.replicate_succ', List.append_assoc]
  congr 2
  congr 1
  omega
theorem many_n (less : Nat) (h : less < 65536) : arith .rem .i64 (IntKind.i64.wrap (less : Int)) 16380 = ((less % 16380 : Nat) : Int) := by
  rw [wrapi64_in (by omega), arith_rem _ _ _ (by omega)]
  omega
theorem law_NackMany (cs : List C) (h : TyAll [PrSh, U16] cs) : PC Try.prog f_crossbarlaw15_NackMany ([PrSh, U16].zip cs) [(.bool, .bool true)] := by
  obtain ⟨_, _, rfl, h1, _, _, rfl, h2, rfl⟩ := h
  obtain ⟨p, rfl, hp⟩ := ty_pr h1
  obtain ⟨less, rfl, hl⟩ := ty_u16 h2
  apply pcv_crossbarlaw15_NackMany rfl
  simp only [vc_crossbarlaw15_NackMany, VC.H_asrt, VC.H_cond, VC.H_ret, VC.H_call1, ev_var, ev_int, ev_bool, ev_mul, ev_leq, ev_not, ea_nil, ea_cons, env_zero, env_succ, env_cons, env_nil, List.map_cons, List.map_nil, List.zip_cons_cons, List.zip_nil_right, v_int, v_bool, pres_nil, notT, notF, decide_eq_true_eq, forall_const]
  refine ⟨_, pc_crossbarlaw15_awake, fun h => by simp at h, fun _ => ⟨by omega, ?_⟩⟩
  refine VC.go_loop (fun i : Nat => [.int i, Prs (List.replicate i p ++ List.replicate (16380 - i) Pr.zero)]) (fun i => i ≤ 16380) (fun i => 16380 - i) 0 ?_ (Nat.zero_le _) fun i hi => ?_
  · simp only [ev_int, ev_nil, ev_cons, ev_rep, List.map_cons, List.map_nil, v_int, v_ls]
    show [C.int 0, C.ls (List.replicate 16380 (PrC Pr.zero))] = [C.int 0, C.ls (([] ++ List.replicate 16380 Pr.zero).map PrC)]
    rw [List.nil_append, List.map_replicate]
  · simp only [VC.H_asrt, VC.H_cond, VC.H_ret, VC.H_back, VC.H_call1, VC.H_call2, ev_var, ev_int, ev_bool, ev_nil, ev_cons, ev_hd, ev_tl, ev_bin, ev_add, ev_sub', ev_mul, ev_eql, ev_lss, ev_leq, ev_geq, ev_ite, ev_conv, ev_len, ev_sub, ev_app, ev_set, ev_rep, ev_fits64, ea_nil, ea_cons, env_zero, env_succ, env_cons, env_nil, List.map_cons, List.map_nil, v_int, v_bool, v_ls, v_hd, v_tl, int_ite, bool_ite, pres_nil, pres_cons, andT, decide_eq_true_eq, decide_eq_false_iff_not, forall_const, and_true, Int.not_lt, many_n less hl, List.length_cons, List.length_nil]
    refine ⟨fun hc => ⟨by omega, by omega, by omega, i + 1, ?_, by omega, by omega⟩, fun hc => ⟨by omega, by omega, by omega, ?_⟩⟩
    · rw [Int.toNat_natCast, rep_set_all p 16380 i (by omega)]
      simp
    · have hi2 : i = 16380 := by omega
      subst hi2
      obtain ⟨n, hn⟩ : ∃ n : Nat, n = 16380 - less % 16380 := ⟨_, rfl⟩
      have hn1 : (16380 : Int) - ((less % 16380 : Nat) : Int) = (n : Int) := by omega
      have hz : (16381 : Int) - (n : Int) = ((16381 - n : Nat) : Int) := by omega
      have hb : n ≤ 16380 ∧ 1 ≤ n := by omega
      rw [hn1, hz]
      have hneg : (0 : Int) ≤ 4 * ((16381 - n : Nat) : Int) := by omega
      have e0 : (List.replicate 16380 p ++ List.replicate (16380 - 16380) Pr.zero) = List.replicate 16380 p := by rw [Nat.sub_self, List.replicate_zero, List.append_nil]
      have t1 : (0 + ((n : Int) - 0)).toNat = n := by omega
      have t2 : (4 * ((16381 - n : Nat) : Int)).toNat = 4 * (16381 - n) := by omega
      have e1 : ((List.replicate 16380 p).map PrC).take n = (List.replicate n p).map PrC := by rw [← List.map_take, List.take_replicate, Nat.min_eq_left hb.1]
      have hmem : ∀ m, ∀ q ∈ List.replicate m p, q.ok := fun m q hq => by rw [(List.mem_replicate.1 hq).2]; exact hp
      have w1 := pn_nack_Write (List.replicate n p) (hmem n) (by rw [List.length_replicate]; omega)
      have l1 : (List.replicate n p).length = n := List.length_replicate
      have a1 : nkwB (List.replicate n p) = prB (List.replicate n p) := if_neg (by rw [l1]; omega)
      have a2 : nkwE (List.replicate n p) = 0 := if_neg (by rw [l1]; omega)
      rw [a1, a2] at w1
      have pl : (prB (List.replicate n p)).length = 4 * n := by rw [prB_length, l1]
      have r1 := pn_nack_Read (prB (List.replicate n p)) (by rw [pl]; omega)
      have a3 : nkE (prB (List.replicate n p)) = 0 := by rw [nkE_zero, pl]; omega
      have a4 : nkR (prB (List.replicate n p)) = List.replicate n p := by rw [nkR, if_pos a3, prOf_back _ (hmem n)]
      rw [a3, a4] at r1
      have e2 : (List.replicate 16380 p).map PrC ++ [C.ls [C.int p.pid, C.int p.mask]] = (List.replicate 16381 p).map PrC := by
        rw [show (16381 : Nat) = 16380 + 1 from rfl, List.replicate_succ', List.map_append]
        rfl
      have w2 := pn_nack_Write (List.replicate 16381 p) (hmem _) (by rw [List.length_replicate]; omega)
      have a5 : nkwE (List.replicate 16381 p) = 1 := if_pos (by rw [List.length_replicate]; omega)
      rw [a5] at w2
      have e3 : ofBytes (prB (List.replicate n p)) ++ List.replicate (4 * (16381 - n)) (C.int 0) = ofBytes (prB (List.replicate n p) ++ List.replicate (4 * (16381 - n)) 0) := by rw [ofBytes_rep, ofBytes_append]
      have r2 := pn_nack_Read (prB (List.replicate n p) ++ List.replicate (4 * (16381 - n)) 0) (by rw [List.length_append, pl, List.length_replicate]; omega)
      have a6 : nkE (prB (List.replicate n p) ++ List.replicate (4 * (16381 - n)) 0) = 4 := by
        unfold nkE
        rw [if_pos]
        rw [List.length_append, pl, List.length_replicate]
        omega
      rw [a6] at r2
      rw [e0, t1]
      simp only [Int.toNat_zero, List.drop_zero, e1]
      refine ⟨_, _, w1, _, _, r1, by omega, ?_⟩
      rw [e2]
      refine ⟨_, _, w2, by omega, by omega, ?_⟩
      simp only [hneg, if_true, t2, v_ls, v_int, e3]
      refine ⟨?_, _, _, r2, fun _ => by omega, fun _ => by omega, fun _ => by omega, _, fun _ => pc_crossbarref15_Same _ _ (by rw [List.length_replicate]; omega), ?_⟩
      · rw [List.length_replicate, ofBytes_length, pl]
        omega
      · simp [ofBytes_length, pl]
end Go.Vc
