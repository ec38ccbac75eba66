/-
  The contracts of chunk's reference, but for its writing.
-/
import Derived.Test.YthfljfcpeoofiaaQCe
set_option maxRecDepth 100000
namespace Go.Vc
open Go Go.Proofs Go.Plain
theorem w16 (c : Nat) (h : c < 65536) : IntKind.i64.wrap (c : Int) = c := wrapi64_in (by omega)
theorem quoN (a b : Nat) (h : a < 65536) : arith .quo .i64 (a : Int) (b : Int) = ((a / b : Nat) : Int) := by
  have h1 : a / b ≤ a := Nat.div_le_self _ _
  rw [arith_quo _ _ _ (by omega), show (a : Int) / (b : Int) = ((a / b : Nat) : Int) by simp]
  generalize a / b = q at h1
  exact wrapi64_in (by omega)
theorem remN (a b : Nat) : arith .rem .i64 (a : Int) (b : Int) = ((a % b : Nat) : Int) := by
  rw [arith_rem _ _ _ (by omega)]
  simp
theorem unit2 : ∀ i, i < 14 → 8192 / 2 ^ i = 2 ^ (13 - i) := by decide
theorem unit4 : ∀ i, i < 7 → 4096 / 4 ^ i = 4 ^ (6 - i) := by decide
theorem half2 (i : Nat) : 8192 / 2 ^ i / 2 = 8192 / 2 ^ (i + 1) := by rw [Nat.div_div_eq_div_mul, Nat.pow_succ]
theorem half4 (i : Nat) : 4096 / 4 ^ i / 4 = 4096 / 4 ^ (i + 1) := by rw [Nat.div_div_eq_div_mul, Nat.pow_succ]
theorem pc_crossbarref18_Told (c m : Nat) (hc : c < 65536) (hm : m ≤ 4000) : PC Try.prog f_crossbarref18_Told [(U16, .int c), (I64, .int m)] [(.sl I64, Ns ((ckT c).take m))] := by
  apply pcv_crossbarref18_Told rfl
  have q1 : arith .quo .i64 (c : Int) 8192 = ((c / 8192 : Nat) : Int) := quoN c 8192 hc
  have q2 : arith .rem .i64 (c : Int) 8192 = ((c % 8192 : Nat) : Int) := remN c 8192
  simp only [vc_crossbarref18_Told, VC.H_cond, ev_var, ev_int, ev_lss, ev_conv, env_zero, List.map_cons, List.map_nil, v_int, v_bool, decide_eq_true_eq, decide_eq_false_iff_not, Int.not_lt, w16 c hc]
  refine ⟨fun h => ?_, fun h => ⟨fun h2 => ?_, fun h2 => ?_⟩⟩
  · rw [ckT, if_pos (by omega), List.take_replicate]
    refine VC.go_loop (fun i : Nat => [Ns (List.replicate i (c / 8192)), .int i]) (fun i => i ≤ min m (c % 8192)) (fun i => 8192 - i) 0 rfl (Nat.zero_le _) fun i hi => ?_
    simp only [VC.H_asrt, VC.H_cond, VC.H_ret, VC.H_back, ev_var, ev_int, ev_bool, ev_nil, ev_cons, ev_bin, ev_add, ev_mul, ev_lss, ev_leq, ev_ite, ev_conv, ev_len, ev_app, ev_fits64, ea_nil, ea_cons, env_zero, env_succ, env_cons, env_nil, List.map_cons, List.map_nil, v_int, v_bool, v_ls, bool_ite, pres_nil, andT, andF, decide_eq_true_eq, decide_eq_false_iff_not, forall_const, Int.not_lt, w16 c hc, q1, q2, List.length_map, List.length_replicate, List.length_cons, List.length_nil]
    refine ⟨fun hc2 => ⟨by omega, by omega, i + 1, ?_, by omega, by omega⟩, fun hc2 => ?_⟩
    · rw [List.replicate_succ']
      simp [Ns]
    · rw [show i = min m (c % 8192) by omega]
  · rw [ckT, if_neg (by omega), if_pos (by omega)]
    refine VC.go_loop (fun i : Nat => [Ns ((List.range i).map fun i => c / 2 ^ (13 - i) % 2), .int ((8192 / 2 ^ i : Nat) : Int), .int i]) (fun i => i ≤ min 14 m) (fun i => 14 - i) 0 rfl (Nat.zero_le _) fun i hi => ?_
    simp only [VC.H_asrt, VC.H_cond, VC.H_ret, VC.H_back, ev_var, ev_int, ev_bool, ev_nil, ev_cons, ev_bin, ev_add, ev_mul, ev_neq, ev_lss, ev_leq, ev_ite, ev_conv, ev_len, ev_app, ev_fits64, ea_nil, ea_cons, env_zero, env_succ, env_cons, env_nil, List.map_cons, List.map_nil, v_int, v_bool, v_ls, bool_ite, pres_nil, andT, andF, decide_eq_true_eq, decide_eq_false_iff_not, forall_const, Int.not_lt, w16 c hc, List.length_map, List.length_range, List.length_cons, List.length_nil]
    refine ⟨fun hc2 => ?_, fun hc2 => ?_⟩
    · have hu := unit2 i (by omega)
      have hpos : 0 < 2 ^ (13 - i) := Nat.two_pow_pos _
      have hq : arith .quo .i64 ((8192 / 2 ^ i : Nat) : Int) 2 = ((8192 / 2 ^ (i + 1) : Nat) : Int) := by
        have := quoN (8192 / 2 ^ i) 2 (by have := Nat.div_le_self 8192 (2 ^ i); omega)
        rw [half2] at this
        exact this
      have hr := remN (c / 2 ^ (13 - i)) 2
      rw [hq, hu, quoN c _ hc, show arith .rem .i64 ((c / 2 ^ (13 - i) : Nat) : Int) 2 = _ from hr]
      refine ⟨by omega, by omega, by omega, i + 1, ?_, by omega, by omega⟩
      rw [List.range_succ, List.map_append]
      simp [Ns]
    · have : i = min 14 m := by omega
      subst this
      congr 3
      rw [← List.map_take, List.take_range, Nat.min_comm]
  · rw [ckT, if_neg (by omega), if_neg (by omega)]
    refine VC.go_loop (fun i : Nat => [Ns ((List.range i).map fun i => c / 4 ^ (6 - i) % 4), .int ((4096 / 4 ^ i : Nat) : Int), .int i]) (fun i => i ≤ min 7 m) (fun i => 7 - i) 0 rfl (Nat.zero_le _) fun i hi => ?_
    simp only [VC.H_asrt, VC.H_cond, VC.H_ret, VC.H_back, ev_var, ev_int, ev_bool, ev_nil, ev_cons, ev_bin, ev_add, ev_mul, ev_neq, ev_lss, ev_leq, ev_ite, ev_conv, ev_len, ev_app, ev_fits64, ea_nil, ea_cons, env_zero, env_succ, env_cons, env_nil, List.map_cons, List.map_nil, v_int, v_bool, v_ls, bool_ite, pres_nil, andT, andF, decide_eq_true_eq, decide_eq_false_iff_not, forall_const, Int.not_lt, w16 c hc, List.length_map, List.length_range, List.length_cons, List.length_nil]
    refine ⟨fun hc2 => ?_, fun hc2 => ?_⟩
    · have hu := unit4 i (by omega)
      have hpos : 0 < 4 ^ (6 - i) := Nat.pow_pos (by decide)
      have hq : arith .quo .i64 ((4096 / 4 ^ i : Nat) : Int) 4 = ((4096 / 4 ^ (i + 1) : Nat) : Int) := by
        have := quoN (4096 / 4 ^ i) 4 (by have := Nat.div_le_self 4096 (4 ^ i); omega)
        rw [half4] at this
        exact this
      have hr := remN (c / 4 ^ (6 - i)) 4
      rw [hq, hu, quoN c _ hc, show arith .rem .i64 ((c / 4 ^ (6 - i) : Nat) : Int) 4 = _ from hr]
      refine ⟨by omega, by omega, by omega, i + 1, ?_, by omega, by omega⟩
      rw [List.range_succ, List.map_append]
      simp [Ns]
    · have : i = min 7 m := by omega
      subst this
      congr 3
      rw [← List.map_take, List.take_range, Nat.min_comm]
theorem pc_crossbarref18_Read (c : List Nat) (count : Int) (hc : okC c) : PC Try.prog f_crossbarref18_Read [(.sl U16, Ns c), (I64, .int count)] [(.sl I64, Ns (rL (ckr c count))), (I64, .int (rN (ckr c count) : Nat)), (I64, .int (rE (ckr c count)))] := by
  apply pcv_crossbarref18_Read rfl
  simp only [vc_crossbarref18_Read, VC.H_cond, VC.H_ret, ev_var, ev_int, ev_bool, ev_nilS, ev_lss, ev_gtr, ev_ite, ea_nil, ea_cons, env_zero, env_succ, List.map_cons, List.map_nil, v_int, v_bool, bool_ite, orT, orF, decide_eq_true_eq, decide_eq_false_iff_not, Int.not_lt]
  refine ⟨fun h => ?_, fun h => ?_⟩
  · rw [ckr, if_pos (by omega)]
    rfl
  · rw [ckr, if_neg (by omega)]
    obtain ⟨n, rfl⟩ : ∃ n : Nat, count = n := ⟨count.toNat, by omega⟩
    rw [Int.toNat_natCast]
    refine VC.go_loop (fun s : List Nat × Nat => [.ls [], .int 0, .int 0, Ns s.1, .int s.2]) (fun s => s.2 ≤ c.length ∧ s.1.length ≤ n ∧ rd c n = join s.1 s.2 (rd (c.drop s.2) (n - s.1.length))) (fun s => c.length - s.2) ([], 0) rfl ⟨Nat.zero_le _, Nat.zero_le _, (join_id _).symm⟩ fun s hs => ?_
    obtain ⟨out, i⟩ := s
    simp only at hs
    obtain ⟨h1, h2, h3⟩ := hs
    simp only [VC.H_asrt, VC.H_cond, VC.H_ret, VC.H_call1, ev_var, ev_int, ev_nilS, ev_sub', ev_lss, ev_geq, ev_len, ev_idx, ev_fits64, ea_nil, ea_cons, env_zero, env_succ, env_cons, env_nil, v_int, v_bool, v_ls, pres_nil, decide_eq_true_eq, decide_eq_false_iff_not, forall_const, Int.not_lt, Int.not_le, List.length_map, Int.toNat_natCast]
    refine ⟨fun hlt => ⟨fun hz => ?_, fun hz => ?_⟩, fun hge => ?_⟩
    · have : i = c.length := by omega
      subst this
      rw [h3, rd_none c n out (by omega)]
      rfl
    · have hx := hc.2 _ (nat_mem (l := c) (i := i) (by omega))
      have ht := rd_step c i n out (by omega) (by omega)
      have hb := rd_bad c i n out (by omega) (by omega)
      have hcl := hc.1
      rw [nat_getD _ _ (by omega)]
      generalize c.getD i 0 = x at hx ht hb
      have e1 : (n : Int) - (out.length : Int) = ((n - out.length : Nat) : Int) := by omega
      have hl := ckT_len x hx
      have hl2 : ((ckT x).take (n - out.length)).length ≤ n - out.length := by rw [List.length_take]; omega
      rw [e1]
      refine ⟨by omega, by omega, by omega, _, pc_crossbarref18_Told x (n - out.length) hx (by omega), ?_⟩
      generalize (ckT x).take (n - out.length) = t at ht hb hl2
      refine VC.go_loop (fun j : Nat => [.ls [], .int 0, .int 0, .int j]) (fun j => j ≤ t.length ∧ ∀ k, k < j → t.getD k 0 ≠ 3) (fun j => t.length - j) 0 rfl ⟨Nat.zero_le _, fun k hk => by omega⟩ fun j hj => ?_
      simp only [VC.H_asrt, VC.H_cond, VC.H_ret, VC.H_back, ev_var, ev_int, ev_nilS, ev_add, ev_mul, ev_eql, ev_lss, ev_leq, ev_geq, ev_len, ev_idx, ev_app, ev_fits64, ea_nil, ea_cons, env_zero, env_succ, env_cons, env_nil, List.map_cons, List.map_nil, v_int, v_bool, v_ls, pres_nil, decide_eq_true_eq, decide_eq_false_iff_not, forall_const, Int.not_lt, List.length_map, Int.toNat_natCast]
      refine ⟨fun hjl => ?_, fun hjl => ?_⟩
      · rw [nat_getD _ _ (by omega), v_int]
        refine ⟨by omega, by omega, fun h3' => ?_, fun h3' => ⟨by omega, j + 1, by simp, ⟨by omega, fun k hk => ?_⟩, by omega⟩⟩
        · have hm3 : 3 ∈ t := by have := nat_mem (l := t) (i := j) (by omega); rwa [show t.getD j 0 = 3 by omega] at this
          rw [h3, hb hm3]
          rfl
        · by_cases hkj : k = j
          · subst hkj; omega
          · exact hj.2 k (by omega)
      · have h3'' : 3 ∉ t := fun hm3 => by
          obtain ⟨k, hk, hk2⟩ := List.getElem_of_mem hm3
          exact hj.2 k (by omega) (by simp [List.getD, hk, hk2])
        refine ⟨by omega, by omega, (out ++ t, i + 1), ?_, ⟨by simp only; omega, by simp only [List.length_append]; omega, ?_⟩, by simp only; omega⟩
        · simp [Ns]
        · rw [h3, ht h3'']
    · have e : n - out.length = 0 := by omega
      rw [h3, e, rd_zero]
      simp [join, rL, rN, rE]
theorem pc_crossbarref18_Same (a b : List Nat) (ha : a.length ≤ 1000000) : PC Try.prog f_crossbarref18_Same [(.sl U16, Ns a), (.sl U16, Ns b)] [(.bool, .bool (decide (a = b)))] := by
  apply pcv_crossbarref18_Same rfl
  simp only [vc_crossbarref18_Same, VC.H_cond, VC.H_ret, ev_var, ev_bool, ev_neq, ev_len, ea_nil, ea_cons, env_zero, env_succ, List.map_cons, List.map_nil, v_int, v_bool, v_ls, nnE, decide_eq_true_eq, decide_eq_false_iff_not, List.length_map]
  refine ⟨fun h => ?_, fun h => ?_⟩
  · have : ¬ a = b := fun e => h (by rw [e])
    simp [this]
  · refine VC.go_loop (fun i : Nat => [.bool false, .int i]) (fun i => i ≤ a.length ∧ a.take i = b.take i) (fun i => a.length - i) 0 rfl ⟨Nat.zero_le _, rfl⟩ fun i hi => ?_
    simp only [VC.H_asrt, VC.H_cond, VC.H_ret, VC.H_back, ev_var, ev_int, ev_bool, ev_add, ev_neq, ev_lss, ev_geq, ev_len, ev_idx, ev_fits64, ea_nil, ea_cons, env_zero, env_succ, env_cons, env_nil, List.map_cons, List.map_nil, v_int, v_bool, v_ls, pres_nil, nnE, decide_eq_true_eq, decide_eq_false_iff_not, forall_const, Int.not_lt, List.length_map, Int.toNat_natCast]
    refine ⟨fun hc => ?_, fun hc => ?_⟩
    · rw [nat_getD _ _ (by omega), nat_getD _ _ (by omega)]
      simp only [v_int]
      refine ⟨by omega, by omega, by omega, by omega, fun hne => ?_, fun heq => ⟨by omega, i + 1, by simp, ⟨by omega, ?_⟩, by omega⟩⟩
      · have : ¬ a = b := fun e => hne (by rw [e])
        simp [this]
      · have heq : a.getD i 0 = b.getD i 0 := by omega
        have ha2 : i < a.length := by omega
        have hb2 : i < b.length := by omega
        rw [List.take_succ_eq_append_getElem ha2, List.take_succ_eq_append_getElem hb2, hi.2]
        have : a[i] = b[i] := by simpa [List.getD, ha2, hb2] using heq
        rw [this]
    · have : a = b := by
        have := hi.2
        rwa [List.take_of_length_le (by omega), List.take_of_length_le (by omega)] at this
      simp [this]
theorem pc_crossbarref18_Ints (a b : List Int) (ha : a.length ≤ 1000000) : PC Try.prog f_crossbarref18_Ints [(.sl I64, Ints a), (.sl I64, Ints b)] [(.bool, .bool (decide (a = b)))] := by
  apply pcv_crossbarref18_Ints rfl
  simp only [vc_crossbarref18_Ints, VC.H_cond, VC.H_ret, ev_var, ev_bool, ev_neq, ev_len, ea_nil, ea_cons, env_zero, env_succ, List.map_cons, List.map_nil, v_int, v_bool, v_ls, nnE, decide_eq_true_eq, decide_eq_false_iff_not, List.length_map]
  refine ⟨fun h => ?_, fun h => ?_⟩
  · have : ¬ a = b := fun e => h (by rw [e])
    simp [this]
  · refine VC.go_loop (fun i : Nat => [.bool false, .int i]) (fun i => i ≤ a.length ∧ a.take i = b.take i) (fun i => a.length - i) 0 rfl ⟨Nat.zero_le _, rfl⟩ fun i hi => ?_
    simp only [VC.H_asrt, VC.H_cond, VC.H_ret, VC.H_back, ev_var, ev_int, ev_bool, ev_add, ev_neq, ev_lss, ev_geq, ev_len, ev_idx, ev_fits64, ea_nil, ea_cons, env_zero, env_succ, env_cons, env_nil, List.map_cons, List.map_nil, v_int, v_bool, v_ls, pres_nil, nnE, decide_eq_true_eq, decide_eq_false_iff_not, forall_const, Int.not_lt, List.length_map, Int.toNat_natCast]
    refine ⟨fun hc => ?_, fun hc => ?_⟩
    · rw [int_getD _ _ (by omega), int_getD _ _ (by omega)]
      simp only [v_int]
      refine ⟨by omega, by omega, by omega, by omega, fun hne => ?_, fun heq => ⟨by omega, i + 1, by simp, ⟨by omega, ?_⟩, by omega⟩⟩
      · have : ¬ a = b := fun e => hne (by rw [e])
        simp [this]
      · have ha2 : i < a.length := by omega
        have hb2 : i < b.length := by omega
        rw [List.take_succ_eq_append_getElem ha2, List.take_succ_eq_append_getElem hb2, hi.2]
        have : a[i] = b[i] := by simpa [List.getD, ha2, hb2] using heq
        rw [this]
    · have : a = b := by
        have := hi.2
        rwa [List.take_of_length_le (by omega), List.take_of_length_le (by omega)] at this
      simp [this]
theorem ints_nats (a b : List Nat) (ha : a.length ≤ 1000000) : PC Try.prog f_crossbarref18_Ints [(.sl I64, Ns a), (.sl I64, Ns b)] [(.bool, .bool (decide (a = b)))] := by
  have h := pc_crossbarref18_Ints (a.map fun n : Nat => (n : Int)) (b.map fun n : Nat => (n : Int)) (by simpa using ha)
  have e : ∀ l : List Nat, Ints (l.map fun n : Nat => (n : Int)) = Ns l := fun l => by simp [Ints, Ns, Function.comp_def]
  rw [e, e] at h
  have e2 : decide ((a.map fun n : Nat => (n : Int)) = b.map fun n : Nat => (n : Int)) = decide (a = b) := by
    rw [Bool.eq_iff_iff, decide_eq_true_eq, decide_eq_true_eq]
    exact ⟨fun h => List.map_inj_right (fun x y hxy => by omega) |>.1 h, fun h => by rw [h]⟩
  rwa [e2] at h
end Go.Vc
