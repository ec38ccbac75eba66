/-
  The contract of the reference's writing of chunks; the fixed answers.
-/
import Derived.Test.YthfljfcpeoofiaaQVcw
import Derived.Test.YthfljfcpeoofiaaQCf
set_option maxRecDepth 100000
namespace Go.Vc
open Go Go.Proofs Go.Plain
theorem tw_stop {p : Nat → Bool} : ∀ {l : List Nat}, (l.takeWhile p).length < l.length → p (l.getD (l.takeWhile p).length 0) = false
  | [], h => by simp at h
  | x :: l, h => by
    by_cases hx : p x = true
    · rw [List.takeWhile_cons_of_pos hx, List.length_cons] at h ⊢
      have := tw_stop (p := p) (l := l) (by simpa using h)
      simpa using this
    · rw [List.takeWhile_cons_of_neg hx]
      simpa using hx
theorem runL_step (l : List Nat) (r : Nat) (h : 1 ≤ r) (hr : r ≤ runL l) : (r < l.length ∧ l.getD r 0 = l.getD 0 0 ∧ r < 8191 → r < runL l) ∧ (¬ (r < l.length ∧ l.getD r 0 = l.getD 0 0 ∧ r < 8191) → runL l = r) := by
  have hp := List.takeWhile_prefix (fun y => y == l.getD 0 0) (l := l.take 8191)
  have hle : runL l ≤ min 8191 l.length := by
    have := hp.length_le
    rw [List.length_take] at this
    exact this
  have hall : ∀ j, j < runL l → l.getD j 0 = l.getD 0 0 := fun j hj => by
    have e := runL_take (l := l)
    have h1 : (l.take (runL l)).getD j 0 = l.getD j 0 := by simp [List.getD, hj]
    rw [← h1, e]
    simp [List.getD, hj]
  have hstop : runL l < l.length → runL l < 8191 → l.getD (runL l) 0 ≠ l.getD 0 0 := fun h1 h2 he => by
    have hlt : runL l < (l.take 8191).length := by rw [List.length_take]; omega
    have := tw_stop (p := fun y => y == l.getD 0 0) (l := l.take 8191) hlt
    rw [show ((l.take 8191).takeWhile fun y => y == l.getD 0 0).length = runL l from rfl] at this
    have h3 : (l.take 8191).getD (runL l) 0 = l.getD (runL l) 0 := by simp [List.getD, h2]
    rw [h3, he] at this
    simp at this
  refine ⟨fun ⟨h1, h2, h3⟩ => ?_, fun hn => ?_⟩
  · by_cases he : r = runL l
    · subst he
      exact absurd h2 (hstop h1 h3)
    · omega
  · by_cases he : r = runL l
    · exact he.symm
    · exact absurd ⟨by omega, hall r (by omega), by omega⟩ hn
theorem drop_min (d : List Nat) (m : Nat) : d.drop (min m d.length) = d.drop m := by
  by_cases h : m ≤ d.length
  · rw [Nat.min_eq_left h]
  · rw [Nat.min_eq_right (by omega), List.drop_length, List.drop_of_length_le (by omega)]
theorem drop_getD (n : List Nat) (a i : Nat) : (n.drop a).getD i 0 = n.getD (a + i) 0 := by simp [List.getD]
theorem oneBit_iff {d : List Nat} (ho : ckOk d) : oneBit d ↔ ∀ i, i < min 14 d.length → d.getD i 0 < 2 := by
  constructor
  · intro h i hi
    exact oneBit_lt ho h i (by omega)
  · intro h x hx
    obtain ⟨i, hi, rfl⟩ := List.mem_take_iff_getElem.1 hx
    have := h i (by omega)
    rw [List.getD, List.getElem?_eq_getElem (by omega)] at this
    simp at this
    omega
theorem nat_getD' (l : List Nat) (i : Nat) : ((l.map fun n : Nat => C.int (n : Int))).getD i (C.int 0) = C.int ((l.getD i 0 : Nat) : Int) := by
  by_cases h : i < l.length
  · simp [List.getD, h]
  · simp [List.getD, Nat.not_lt.1 h]
theorem pc_crossbarref18_Write (n : List Nat) (ho : ckOk n) (hl : n.length ≤ 1000000) : PC Try.prog f_crossbarref18_Write [(.sl I64, Ns n)] [(.sl U16, Ns (ckW n))] := by
  apply pcv_crossbarref18_Write rfl
  simp only [vc_crossbarref18_Write, List.map_cons, List.map_nil]
  refine VC.go_loop (fun s : List Nat × Nat => [Ns s.1, .int s.2]) (fun s => s.2 ≤ n.length + 14 ∧ s.1 ++ ckW (n.drop s.2) = ckW n ∧ s.1.length ≤ s.2) (fun s => n.length - s.2) ([], 0) rfl ⟨by simp, rfl, Nat.le_refl _⟩ fun s hs => ?_
  obtain ⟨out, a⟩ := s
  simp only at hs
  obtain ⟨s1, s2, s3⟩ := hs
  simp only [VC.H_cond, VC.H_ret, ev_var, ev_lss, ev_len, ea_nil, ea_cons, env_zero, env_succ, env_cons, env_nil, v_int, v_bool, v_ls, decide_eq_true_eq, decide_eq_false_iff_not, Int.not_lt, List.length_map]
  refine ⟨fun hc => ?_, fun hc => ?_⟩
  · have hne : n.drop a ≠ [] := by
      intro h
      have := congrArg List.length h
      simp at this
      omega
    have hd := drop_ok ho a
    have hdl : (n.drop a).length = n.length - a := List.length_drop
    have hg : ∀ i, (n.drop a).getD i 0 = n.getD (a + i) 0 := drop_getD n a
    have hrp := runL_pos hne
    have hga := nat_getD n a (by omega)
    have hg0 := hg 0
    rw [Nat.add_zero] at hg0
    have hbound : n.getD a 0 ≤ 2 := by rw [← hg0]; exact getD_le hd 0
    refine VC.go_loop (fun r : Nat => [.int r]) (fun r => 1 ≤ r ∧ r ≤ runL (n.drop a)) (fun r => runL (n.drop a) - r) 1 rfl ⟨Nat.le_refl _, hrp.1⟩ fun r hr => ?_
    obtain ⟨st1, st2⟩ := runL_step (n.drop a) r hr.1 hr.2
    rw [hg0, hg r, hdl] at st1 st2
    have t1 : ((a : Int) + (r : Int)).toNat = a + r := by omega
    simp only [VC.H_asrt, VC.H_cond, VC.H_back, ev_var, ev_int, ev_bool, ev_nil, ev_cons, ev_add, ev_mul, ev_eql, ev_lss, ev_leq, ev_geq, ev_ite, ev_conv, ev_len, ev_idx, ev_app, ev_fits64, env_zero, env_succ, env_cons, env_nil, List.map_cons, List.map_nil, v_int, v_bool, v_ls, bool_ite, pres_nil, pres_cons, orT, orF, andT, andF, decide_eq_true_eq, decide_eq_false_iff_not, forall_const, and_true, Int.not_lt, Int.not_le, List.length_map, List.length_cons, List.length_nil, t1, Int.toNat_natCast, hga]
    refine ⟨by omega, fun _ => by omega, fun _ => by omega, fun h => by omega, fun _ => by omega, fun _ => by omega, fun hy => ?_, fun hn => ?_⟩
    · have hy1 := hy.1.2
      rw [nat_getD _ _ (by omega), v_int] at hy1
      have := st1 ⟨by omega, by omega, by omega⟩
      exact ⟨by omega, r + 1, by simp, ⟨by omega, by omega⟩, by omega⟩
    · have hr2 : runL (n.drop a) = r := st2 fun ⟨q1, q2, q3⟩ => by
        rw [nat_getD _ _ (by omega), v_int] at hn
        omega
      refine ⟨fun _ => by omega, fun hrun => ?_, fun hrun => ?_⟩
      · have hrun' : 14 ≤ runL (n.drop a) ∨ runL (n.drop a) = (n.drop a).length := by omega
        obtain ⟨c1, c2, c3, c4⟩ := ckC_run hd hne hrun'
        have eC : IntKind.u16.wrap (8192 * ((n.getD a 0 : Nat) : Int) + (r : Int)) = ((ckC (n.drop a) : Nat) : Int) := by
          rw [wrapu16]
          omega
        rw [eC]
        refine ⟨by omega, by omega, by omega, by omega, by omega, by omega, (out ++ [ckC (n.drop a)], a + r), ?_, ⟨by simp only; omega, ?_, by simp; omega⟩, by simp only; omega⟩
        · simp
        · rw [ckW_cons hne, List.drop_drop, c4, hr2] at s2
          rw [← s2]
          simp
      · have hrun' : ¬ (14 ≤ runL (n.drop a) ∨ runL (n.drop a) = (n.drop a).length) := by omega
        refine VC.go_loop (fun j : Nat => [.bool (decide (∀ i, i < j → (n.drop a).getD i 0 < 2)), .int ((a + j : Nat) : Int)]) (fun j => j ≤ min 14 (n.drop a).length) (fun j => 14 - j) 0 ?_ (Nat.zero_le _) fun j hj => ?_
        · simp only [ev_var, ev_bool, env_zero, env_succ, List.map_cons, List.map_nil]
          simp
        · have t2 : ((a + j : Nat) : Int).toNat = a + j := by omega
          simp only [VC.H_asrt, VC.H_cond, VC.H_back, ev_var, ev_int, ev_bool, ev_add, ev_lss, ev_geq, ev_ite, ev_len, ev_idx, ev_fits64, env_zero, env_succ, env_cons, env_nil, List.map_cons, List.map_nil, v_int, v_bool, v_ls, bool_ite, pres_nil, pres_cons, andT, andF, decide_eq_true_eq, decide_eq_false_iff_not, forall_const, and_true, Int.not_lt, List.length_map, t2]
          refine ⟨by omega, fun hy => ?_, fun hn2 => ?_⟩
          · rw [nat_getD _ _ (by omega), v_int]
            refine ⟨fun _ => by omega, fun _ => by omega, by omega, j + 1, ?_, by omega, by omega⟩
            congr 1
            · congr 1
              rw [Bool.eq_iff_iff]
              simp only [Bool.if_false_right, Bool.and_eq_true, decide_eq_true_eq]
              constructor
              · rintro ⟨p1, p2⟩ i hi
                by_cases hij : i = j
                · subst hij; rw [hg]; omega
                · exact p1 i (by omega)
              · intro p
                refine ⟨fun i hi => p i (by omega), ?_⟩
                have := p j (by omega)
                rw [hg] at this
                omega
          · have hj2 : j = min 14 (n.drop a).length := by omega
            have hob := oneBit_iff hd
            rw [← hj2] at hob
            by_cases hb : oneBit (n.drop a)
            · obtain ⟨c1, c2, c3, c4⟩ := ckC_one hd hrun' hb
              have hpd : decide (∀ i, i < j → (n.drop a).getD i 0 < 2) = true := decide_eq_true (hob.1 hb)
              rw [hpd]
              have hmin : ∀ k, k < 14 → vecN 2 2 (n.drop a) (k + 1) < 65536 := fun k hk => by
                have h1 := vecN_hi 2 2 (n.drop a) (k + 1) (fun i hi => oneBit_lt hd hb i (by omega))
                have h2 : 2 ^ (k + 1) ≤ 2 ^ 14 := Nat.pow_le_pow_right (by decide) (by omega)
                omega
              refine VC.go_loop (fun k : Nat => [.int (vecN 2 2 (n.drop a) k : Nat), .int ((a + k : Nat) : Int)]) (fun k => k ≤ 14) (fun k => 14 - k) 0 ?_ (Nat.zero_le _) fun k hk => ?_
              · simp only [ev_var, ev_int, ev_ite, env_zero, env_succ, List.map_cons, List.map_nil, v_bool, if_true]
                rfl
              · have t3 : ((a + k : Nat) : Int).toNat = a + k := by omega
                have hv : vecN 2 2 (n.drop a) (k + 1) = 2 * vecN 2 2 (n.drop a) k + (n.drop a).getD k 0 := rfl
                have hm2 := fun hk => hmin k hk
                have hgk := hg k
                have hbk := getD_le hd k
                simp only [VC.H_asrt, VC.H_cond, VC.H_back, ev_var, ev_int, ev_nil, ev_cons, ev_add, ev_mul, ev_lss, ev_leq, ev_geq, ev_ite, ev_conv, ev_len, ev_idx, ev_app, ev_fits64, env_zero, env_succ, env_cons, env_nil, List.map_cons, List.map_nil, v_int, v_bool, v_ls, int_ite, pres_nil, pres_cons, decide_eq_true_eq, decide_eq_false_iff_not, forall_const, and_true, Int.not_lt, List.length_map, t3, List.length_cons, List.length_nil, if_true]
                refine ⟨by omega, fun hy => ?_, fun hn3 => ?_⟩
                · by_cases hin : a + k < n.length
                  · rw [nat_getD _ _ hin, v_int, ← hgk, if_pos (by omega)]
                    have := hm2 (by omega)
                    refine ⟨by omega, fun _ => by omega, fun _ => by omega, fun _ => by omega, by omega, k + 1, ?_, by omega, by omega⟩
                    rw [hv]
                    simp
                    omega
                  · have hz : (n.drop a).getD k 0 = 0 := by rw [hgk]; simp [List.getD, Nat.not_lt.1 hin]
                    have := hm2 (by omega)
                    rw [if_neg (by omega)]
                    refine ⟨by omega, fun h => by omega, fun h => by omega, fun h => by omega, by omega, k + 1, ?_, by omega, by omega⟩
                    rw [hv, hz]
                    simp
                    omega
                · have hk2 : k = 14 := by omega
                  subst hk2
                  have eC : IntKind.u16.wrap ((vecN 2 2 (n.drop a) 14 : Nat) : Int) = ((ckC (n.drop a) : Nat) : Int) := by
                    rw [wrapu16, ← c3]
                    omega
                  rw [eC]
                  refine ⟨by omega, by omega, (out ++ [ckC (n.drop a)], a + 14), ?_, ⟨by simp only; omega, ?_, by simp; omega⟩, by simp only; omega⟩
                  · simp
                  · rw [ckW_cons hne, c4, drop_min, List.drop_drop] at s2
                    rw [← s2]
                    simp
            · obtain ⟨c1, c2, c3, c4⟩ := ckC_two hd hrun' hb
              have hpd : decide (∀ i, i < j → (n.drop a).getD i 0 < 2) = false := decide_eq_false fun h => hb (hob.2 h)
              rw [hpd]
              have hmin : ∀ k, k < 7 → vecN 3 4 (n.drop a) (k + 1) < 65536 := fun k hk => by
                have h1 := vecN_hi 3 4 (n.drop a) (k + 1) (fun i hi => by have := getD_le hd i; omega)
                have h2 : 4 ^ (k + 1) ≤ 4 ^ 7 := Nat.pow_le_pow_right (by decide) (by omega)
                omega
              refine VC.go_loop (fun k : Nat => [.int (vecN 3 4 (n.drop a) k : Nat), .int ((a + k : Nat) : Int)]) (fun k => k ≤ 7) (fun k => 7 - k) 0 ?_ (Nat.zero_le _) fun k hk => ?_
              · simp only [ev_var, ev_int, ev_ite, env_zero, env_succ, List.map_cons, List.map_nil, v_bool, Bool.false_eq_true, if_false]
                rfl
              · have t3 : ((a + k : Nat) : Int).toNat = a + k := by omega
                have hv : vecN 3 4 (n.drop a) (k + 1) = 4 * vecN 3 4 (n.drop a) k + (n.drop a).getD k 0 := rfl
                have hm2 := fun hk => hmin k hk
                have hgk := hg k
                have hbk := getD_le hd k
                simp only [VC.H_asrt, VC.H_cond, VC.H_back, ev_var, ev_int, ev_nil, ev_cons, ev_add, ev_mul, ev_lss, ev_leq, ev_geq, ev_ite, ev_conv, ev_len, ev_idx, ev_app, ev_fits64, env_zero, env_succ, env_cons, env_nil, List.map_cons, List.map_nil, v_int, v_bool, v_ls, int_ite, pres_nil, pres_cons, decide_eq_true_eq, decide_eq_false_iff_not, forall_const, and_true, Int.not_lt, List.length_map, t3, List.length_cons, List.length_nil, Bool.false_eq_true, if_false]
                refine ⟨by omega, fun hy => ?_, fun hn3 => ?_⟩
                · by_cases hin : a + k < n.length
                  · rw [nat_getD _ _ hin, v_int, ← hgk, if_pos (by omega)]
                    have := hm2 (by omega)
                    refine ⟨by omega, fun _ => by omega, fun _ => by omega, fun _ => by omega, by omega, k + 1, ?_, by omega, by omega⟩
                    rw [hv]
                    simp
                    omega
                  · have hz : (n.drop a).getD k 0 = 0 := by rw [hgk]; simp [List.getD, Nat.not_lt.1 hin]
                    have := hm2 (by omega)
                    rw [if_neg (by omega)]
                    refine ⟨by omega, fun h => by omega, fun h => by omega, fun h => by omega, by omega, k + 1, ?_, by omega, by omega⟩
                    rw [hv, hz]
                    simp
                    omega
                · have hk2 : k = 7 := by omega
                  subst hk2
                  have eC : IntKind.u16.wrap ((vecN 3 4 (n.drop a) 7 : Nat) : Int) = ((ckC (n.drop a) : Nat) : Int) := by
                    rw [wrapu16, ← c3]
                    omega
                  rw [eC]
                  refine ⟨by omega, by omega, (out ++ [ckC (n.drop a)], a + 7), ?_, ⟨by simp only; omega, ?_, by simp; omega⟩, by simp only; omega⟩
                  · simp
                  · rw [ckW_cons hne, c4, drop_min, List.drop_drop] at s2
                    rw [← s2]
                    simp
  · have h2 : n.drop a = [] := List.drop_eq_nil_of_le (by omega)
    rw [h2, ckW_nil, List.append_nil] at s2
    rw [s2]
theorem pc_crossbarref18_Canon (c : List Nat) (count : Int) (hc : okC c) : PC Try.prog f_crossbarref18_Canon [(.sl U16, Ns c), (I64, .int count)] [(.bool, .bool (decide (ckCan c count)))] := by
  apply pcv_crossbarref18_Canon rfl
  simp only [vc_crossbarref18_Canon, VC.H_ret, VC.H_call1, VC.H_call3, ev_var, ev_int, ev_bool, ev_eql, ev_ite, ea_nil, ea_cons, env_zero, env_succ, env_cons, env_nil, List.map_cons, List.map_nil, v_int, v_bool, pres_nil, pres_cons, decide_eq_true_eq, forall_const, and_true]
  refine ⟨_, _, _, pc_crossbarref18_Read c count hc, ?_⟩
  by_cases h : rE (ckr c count) = 0
  · obtain ⟨l, k, h1, h2, h3, h4, h5⟩ := ckr_ok hc h
    have := ckW_len l h4
    rw [h1]
    refine ⟨_, fun _ => pc_crossbarref18_Write l h4 (by omega), _, fun _ => pc_crossbarref18_Same _ _ (by omega), ?_⟩
    apply boolK
    unfold ckCan
    rw [h1]
    simp [rL, rE]
  · refine ⟨.ls [], fun h' => absurd (by simpa using h') h, .bool false, fun h' => absurd (by simpa using h') h, ?_⟩
    rw [v_int, if_neg h]
    apply boolK
    simp [ckCan, h]
theorem pc_crossbarlaw18_overlap (x : List Nat) (a b : Nat) (hx : x ≠ []) (hl : 32768 ≤ x.getLastD 0) (hxl : x.length ≤ 1000000) (h1 : a < b + 14) (h2 : b < a + 14) (ha : a ≤ 100000) (hb : b ≤ 100000) :
    PC Try.prog f_crossbarlaw18_overlap [(.sl U16, Ns x), (I64, .int a), (I64, .int b)] [(.bool, .bool true)] := by
  apply pcv_crossbarlaw18_overlap rfl
  have hp := List.length_pos_iff.2 hx
  have t : ((x.length : Int) - 1).toNat = x.length - 1 := by omega
  have hg : x.getD (x.length - 1) 0 = x.getLastD 0 := by
    rcases List.eq_nil_or_concat x with rfl | ⟨m, y, rfl⟩
    · exact absurd rfl hx
    · simp [List.getD]
  simp only [vc_crossbarlaw18_overlap, VC.H_asrt, VC.H_ret, ev_var, ev_int, ev_bool, ev_sub', ev_lss, ev_gtr, ev_geq, ev_ite, ev_len, ev_idx, ev_fits64, ea_nil, ea_cons, env_zero, env_succ, List.map_cons, List.map_nil, v_int, v_bool, v_ls, bool_ite, pres_nil, pres_cons, andT, decide_eq_true_eq, and_true, List.length_map, t]
  rw [nat_getD _ _ (by omega), hg, v_int]
  refine ⟨fun _ => by omega, fun _ => by omega, fun _ => by omega, fun _ => by omega, fun _ => by omega, ?_⟩
  have e1 : (0 : Int) < x.length := by omega
  have e2 : (32768 : Int) ≤ ((x.getLastD 0 : Nat) : Int) := by omega
  have e3 : (a : Int) - b < 14 := by omega
  have e4 : (b : Int) - a < 14 := by omega
  simp only [e1, e2, e3, e4, and_self, if_true, decide_true]
theorem ckW_one (l : List Nat) (h : ckM l = l.length) (hne : l ≠ []) : ckW l = [ckC l] := by
  rw [ckW_cons hne, h, List.drop_length, ckW_nil]
theorem pc_crossbarlaw18_awake : PC Try.prog f_crossbarlaw18_awake [] [(.bool, .bool true)] := by
  apply pcv_crossbarlaw18_awake rfl
  have w1 : ckW [1, 0, 2] = [53760] := by rw [ckW_one _ (by decide +kernel) (by simp)]; decide +kernel
  have w2 : ckW [1, 1, 1, 0] = [47104] := by rw [ckW_one _ (by decide +kernel) (by simp)]; decide +kernel
  have w3 : ckW [1, 0] = [40960] := by rw [ckW_one _ (by decide +kernel) (by simp)]; decide +kernel
  have p1 := write_nats [1, 0, 2] (by unfold ckOk; decide) (by decide)
  have p2 := write_nats [1, 1, 1, 0] (by unfold ckOk; decide) (by decide)
  rw [w1] at p1
  rw [w2] at p2
  have p3 := pc_chunk_Read [8195, 53760, 9] 5 ⟨by decide, by decide⟩
  rw [show ckr [8195, 53760, 9] 5 = .ok ([1, 1, 1, 1, 0], 2) by rfl] at p3
  have p4 := pc_chunk_Read [24577] 1 ⟨by decide, by decide⟩
  rw [show ckr [24577] 1 = .error 6 by rfl] at p4
  have p5 := ints_nats [1, 1, 1, 1, 0] [1, 1, 1, 1, 0] (by decide)
  rw [decide_eq_true rfl] at p5
  have p6 := pc_chunk_Canon [53760] 3 ⟨by decide, by decide⟩
  rw [decide_eq_true (show ckCan [53760] 3 by
    unfold ckCan
    rw [show ckr [53760] 3 = .ok ([1, 0, 2], 1) by rfl]
    exact ⟨rfl, w1⟩)] at p6
  have p7 := pc_chunk_Canon [53760] 2 ⟨by decide, by decide⟩
  rw [decide_eq_false (show ¬ ckCan [53760] 2 by
    unfold ckCan
    rw [show ckr [53760] 2 = .ok ([1, 0], 1) by rfl]
    intro h
    have := h.2
    simp only [rL] at this
    rw [w3] at this
    exact absurd this (by decide))] at p7
  simp only [vc_crossbarlaw18_awake, VC.H_asrt, VC.H_ret, VC.H_call1, VC.H_call2, VC.H_call3, ev_var, ev_int, ev_bool, ev_nil, ev_cons, ev_eql, ev_lss, ev_not, ev_ite, ev_len, ev_idx, ea_nil, ea_cons, env_zero, env_succ, env_cons, env_nil, List.map_nil, v_int, v_bool, v_ls, toBool_ite, bool_ite, pres_nil, pres_cons, andT, decide_eq_true_eq, forall_const, and_true]
  refine ⟨_, _, p1, _, _, p2, _, _, _, p3, _, _, _, p4, fun _ => by decide, fun _ => by decide, _, fun _ => p5, _, fun _ => p6, _, fun _ => p7, ?_⟩
  rfl
end Go.Vc
