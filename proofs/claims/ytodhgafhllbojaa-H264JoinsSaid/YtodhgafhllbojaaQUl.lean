/-
  The law of h264's units, parted and joined again.
-/
import Derived.Test.YtodhgafhllbojaaQUk
import Derived.Test.YtodhgafhllbojaaQBase3
set_option maxRecDepth 100000
namespace Go.Vc
open Go Go.Proofs Go.Plain
abbrev U16 : Sh := .int .u16
theorem ty_u16m {c : C} (h : Ty U16 c) : ∃ n : Nat, c = .int n ∧ n < 65536 := ty_nat rfl h
theorem map_set (l : List Pi) (i : Nat) (p : Pi) : (l.map PiC).set i (PiC p) = (l.set i p).map PiC := by simp [List.map_set]
theorem rem_nat (a b : Nat) : arith .rem .i64 ((a : Nat) : Int) ((b : Nat) : Int) = ((a % b : Nat) : Int) := by
  rw [arith_rem _ _ _ (by omega)]
  omega
set_option maxHeartbeats 1000000 in
theorem law_H264Joins (cs : List C) (h : TyAll [UnSh, U16, U16] cs) : PC Try.prog f_crossbarlaw25_H264Joins ([UnSh, U16, U16].zip cs) [(.bool, .bool true)] := by
  obtain ⟨_, _, rfl, h1, _, _, rfl, h2, _, _, rfl, h3, rfl⟩ := h
  obtain ⟨u, rfl, _⟩ := ty_un h1
  obtain ⟨m, rfl, hm⟩ := ty_u16m h2
  obtain ⟨d, rfl, hd⟩ := ty_u16m h3
  apply pcv_crossbarlaw25_H264Joins rfl
  have wm : IntKind.i64.wrap ((m : Nat) : Int) = ((m : Nat) : Int) := wrapi64_in (by omega)
  have wd : IntKind.i64.wrap ((d : Nat) : Int) = ((d : Nat) : Int) := wrapi64_in (by omega)
  have em : arith .rem .i64 ((m : Nat) : Int) 1500 + 3 = ((m % 1500 + 3 : Nat) : Int) := by
    have := rem_nat m 1500
    rw [show ((1500 : Nat) : Int) = 1500 from rfl] at this
    omega
  simp only [vc_crossbarlaw25_H264Joins, VC.H_asrt, VC.H_cond, VC.H_ret, VC.H_call1, VC.H_call2, ev_var, ev_int, ev_bool, ev_nil, ev_cons, ev_hd, ev_tl, ev_bin, ev_add, ev_eql, ev_neq, ev_gtr, ev_not, ev_ite, ev_conv, ev_len, ev_fits64, ea_nil, ea_cons, env_zero, env_succ, env_cons, env_nil, List.map_cons, List.map_nil, List.zip_cons_cons, List.zip_nil_right, v_int, v_bool, v_ls, v_hd, v_tl, bool_ite, pres_nil, pres_cons, orT, orF, notT, notF, nnE, decide_eq_true_eq, decide_eq_false_iff_not, forall_const, and_true, Int.not_lt, ofBytes_length, wm, em]
  obtain ⟨n, hn⟩ : ∃ n, n = m % 1500 + 3 := ⟨_, rfl⟩
  rw [← hn]
  refine ⟨_, pc_crossbarlaw25_awake, fun h => by simp at h, fun _ => ⟨fun _ => trivial, fun hb => ⟨by omega, _, _, pc_h264_Split u n (by omega) (by omega), fun he => ?_, fun he => ?_⟩⟩⟩
  · have he : spE u n ≠ 0 := he
    have hc : ¬ u.right ∨ (n : Int) < 3 := by
      by_cases h : ¬ u.right ∨ (n : Int) < 3
      · exact h
      · rw [spE, if_neg h] at he
        exact absurd rfl he
    rw [spL, if_pos hc]
    rfl
  · have he : spE u n = 0 := he
    have hr : u.right := by
      by_cases h : ¬ u.right ∨ (n : Int) < 3
      · rw [spE, if_pos h] at he
        exact absurd he (by decide)
      · by_cases h' : u.right
        · exact h'
        · exact absurd (.inl h') h
    obtain ⟨f1, f2, f3, f4, f5, f6, f7⟩ := split_said u n hr (by omega)
    obtain ⟨o1, o2⟩ := split_ok u n (by omega)
    generalize spL u n = l at f1 f2 f3 f4 f5 f6 f7 o1 o2
    have p1 := pc_h264_Join l (by omega) o2
    rw [f1, f2] at p1
    refine ⟨_, _, p1, _, fun _ => pc_crossbarref25_SameUnit u u, fun hc => ?_, fun _ => ?_⟩
    · exfalso
      simp at hc
      exact f3 (by simp [hc])
    · have em' : arith .rem .i64 ((m : Nat) : Int) 1500 + 3 = (n : Int) := by rw [em, hn]
      refine VC.go_loop (fun i : Nat => [.bool false, .int i]) (fun i => i ≤ l.length) (fun i => l.length - i) 0 rfl (Nat.zero_le _) fun i hi => ?_
      simp only [VC.H_asrt, VC.H_cond, VC.H_ret, VC.H_back, VC.H_call1, VC.H_call2, ev_var, ev_int, ev_bool, ev_nil, ev_cons, ev_hd, ev_tl, ev_bin, ev_add, ev_sub', ev_mul, ev_eql, ev_neq, ev_lss, ev_leq, ev_gtr, ev_geq, ev_seql, ev_not, ev_ite, ev_conv, ev_len, ev_idx, ev_sub, ev_app, ev_set, ev_toStr, ev_fits64, ea_nil, ea_cons, env_zero, env_succ, env_cons, env_nil, List.map_cons, List.map_nil, v_int, v_bool, v_str, v_ls, v_hd, v_tl, bool_ite, pres_nil, pres_cons, orT, orF, andT, andF, notT, nnE, decide_eq_true_eq, decide_eq_false_iff_not, forall_const, and_true, Int.not_lt, List.length_map, wm, wd, em']
      refine ⟨fun hc => ⟨by omega, by omega, ?_⟩, fun hc => ?_⟩
      · obtain ⟨g1, g2, g3⟩ := f4 i (by omega)
        have ho := o2 _ (getD_in (l := l) (i := i) (by omega))
        rw [Int.toNat_natCast, pi_getD _ _ (by omega)]
        have p2 := pc_h264_Write _ ho
        rw [show h2wB (l.getD i Pi.zero) = (l.getD i Pi.zero).bytes from if_pos g1, show h2wE (l.getD i Pi.zero) = 0 from if_pos g1] at p2
        refine ⟨_, _, p2, fun _ => by omega, fun _ => by omega, _, fun _ => pc_h264_Right _ ho, fun _ => by omega, fun hx => ?_, fun _ => ⟨by omega, i + 1, rfl, by omega, by omega⟩⟩
        exfalso
        simp only [v_int, v_bool, v_ls, ofBytes_length, g1, decide_true] at hx
        simp only [ne_eq, not_true_eq_false, Bool.true_eq_false, or_self, false_or] at hx
        omega
      · have i0 : Int.toNat 0 = 0 := rfl
        obtain ⟨k, hk⟩ : ∃ k, k = d % l.length := ⟨_, rfl⟩
        have hkl : k < l.length := by rw [hk]; exact Nat.mod_lt _ (by omega)
        have ek : arith .rem .i64 ((d : Nat) : Int) ((l.length : Nat) : Int) = ((k : Nat) : Int) := by rw [rem_nat, hk]
        have ek1 : ((k : Int) + 1).toNat = k + 1 := by omega
        have ek2 : arith .rem .i64 ((k : Int) + 1) ((l.length : Nat) : Int) = (((k + 1) % l.length : Nat) : Int) := rem_nat (k + 1) l.length
        have hkm : (k + 1) % l.length < l.length := Nat.mod_lt _ (by omega)
        simp only [ek, ek1, ek2, i0, List.drop_zero, Int.toNat_natCast, ← List.map_take, ← List.map_drop, ← List.map_append, List.take_length, List.length_map, List.length_take, List.length_drop, pi_getD l k hkl, pi_getD l _ hkm, map_set]
        have oL : ∀ p ∈ l.take k ++ l.drop (k + 1), Pi.ok p := fun p hp => by
          rcases List.mem_append.1 hp with hp | hp
          · exact o2 p (List.mem_of_mem_take hp)
          · exact o2 p (List.mem_of_mem_drop hp)
        have lL : (l.take k ++ l.drop (k + 1)).length ≤ 100000 := by
          rw [List.length_append, List.length_take, List.length_drop]
          omega
        have oT : ∀ p ∈ (l.set k (l.getD ((k + 1) % l.length) Pi.zero)).set ((k + 1) % l.length) (l.getD k Pi.zero), Pi.ok p := fun p hp => by
          rcases List.mem_or_eq_of_mem_set hp with hp | hp
          · rcases List.mem_or_eq_of_mem_set hp with hp | hp
            · exact o2 p hp
            · rw [hp]
              exact o2 _ (getD_in hkm)
          · rw [hp]
            exact o2 _ (getD_in hkl)
        have g5 := f5 k hkl
        refine ⟨by omega, by omega, by omega, by omega, by omega, by omega, by omega, by omega, by omega, _, _, pc_h264_Join _ lL oL, _, fun _ => pc_crossbarref25_SameUnit u _, fun _ => by omega, fun hx => ?_, fun _ => ⟨fun h2 => ?_, fun h2 => ⟨by omega, by omega, by omega, by omega, by omega, by omega, by omega, by omega, by omega, by omega, by omega, by omega, by omega, _, _, pc_h264_Join _ (by simp; omega) oT, by omega, by omega, by omega, by omega, by omega, by omega, _, fun _ => pc_crossbarref25_SameUnit u _, ?_⟩⟩⟩
        · exfalso
          obtain ⟨hz, hx⟩ := hx
          obtain ⟨y1, y2, y3⟩ := g5 hz
          rcases hx with (hx | hx) | hx
          · exact y3 (by simpa using Eq.symm (by simpa using hx))
          · omega
          · omega
        · rw [f6 (by omega) k hkl]
          rfl
        · have g7 := f7 (by omega) k hkl
          generalize (l.set k (l.getD ((k + 1) % l.length) Pi.zero)).set ((k + 1) % l.length) (l.getD k Pi.zero) = t at g7
          simp only [v_int, v_bool, v_hd, v_tl, v_ls, bytesOf_ofBytes]
          by_cases hz : jnE t = 0
          · by_cases hu : u = jnU t
            · rw [g7 hz hu.symm]
              simp
            · simp [hu]
          · simp [hz]
end Go.Vc
