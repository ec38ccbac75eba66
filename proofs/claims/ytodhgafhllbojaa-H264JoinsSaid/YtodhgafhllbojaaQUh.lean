/-
  The contracts of Join, of h264 and of its reference.
-/
import Derived.Test.YtodhgafhllbojaaQUg
set_option maxRecDepth 100000
namespace Go.Vc
open Go Go.Proofs Go.Plain
theorem jn_bad {l : List Pi} {e : Int} (h : jnE l = e) (he : e ≠ 0) : [(UnSh, C.ls [.int 0, .int 0, .ls []]), (I64, C.int e)] = [(UnSh, UnC (jnU l)), (I64, .int (jnE l))] := by
  rw [jnU, if_pos (by rw [h]; exact he), h]
  rfl
theorem jn_one {l : List Pi} (h0 : l.length ≠ 0) (h : ¬ ∀ p ∈ l, p.right) : jnE l = 1 := by rw [jnE, if_neg h0, if_pos h]
theorem jn_six {l : List Pi} (h0 : l.length ≠ 0) (h : ∀ p ∈ l, p.right) (h1 : ¬ alone l) {i : Nat} (hi : i < l.length) (hg : ¬ goes l i) : jnE l = 6 := by
  rw [jnE, if_neg h0, if_neg (fun hc => hc h), if_neg h1, if_neg (fun hc => hg (hc i hi))]
theorem flat_snoc (l : List Pi) (i : Nat) (h : i < l.length) : ((l.take (i + 1)).map fun p => p.part.bytes).flatten = ((l.take i).map fun p => p.part.bytes).flatten ++ (l.getD i Pi.zero).part.bytes := by
  rw [List.take_succ_eq_append_getElem h, show l.getD i Pi.zero = l[i] by simp [List.getD, h], List.map_append, List.flatten_append]
  simp
theorem flat_bound : ∀ (l : List Pi), (∀ p ∈ l, Pi.ok p) → (l.map fun p => p.part.bytes).flatten.length ≤ l.length * 10000000
  | [], _ => Nat.le_refl 0
  | p :: l, h => by
    have ih := flat_bound l fun x hx => h x (by simp [hx])
    have hu := (h p (by simp)).2.1
    simp only [List.map_cons, List.flatten_cons, List.length_append, List.length_cons]
    omega
theorem jn_end {l : List Pi} {i : Nat} (h0 : l.length ≠ 0) (hr : ∀ p ∈ l, p.right) (ha : ¬ alone l) (hi : l.length ≤ i) (hg : ∀ j, j < l.length → goes l j) :
    [(UnSh, C.ls [C.int (l.getD 0 Pi.zero).part.ref, C.int (l.getD 0 Pi.zero).part.typ, B ((l.take i).map fun p => p.part.bytes).flatten]), (I64, C.int 0)] = [(UnSh, UnC (jnU l)), (I64, .int (jnE l))] := by
  have hz : jnE l = 0 := by rw [jnE, if_neg h0, if_neg (fun hc => hc hr), if_neg ha, if_pos hg]
  rw [jnU, if_neg (fun hc => hc hz), if_neg ha, hz, List.take_of_length_le hi]
theorem pc_h264_Join (l : List Pi) (hl : l.length ≤ 100000) (hp : ∀ p ∈ l, Pi.ok p) : PC Try.prog f_h264_Join [(PisSh, PisC l)] [(UnSh, UnC (jnU l)), (I64, .int (jnE l))] := by
  apply pcv_h264_Join rfl
  have i0 : Int.toNat 0 = 0 := rfl
  simp only [vc_h264_Join, VC.H_cond, VC.H_ret, ev_var, ev_int, ev_nil, ev_nilS, ev_cons, ev_eql, ev_len, ea_nil, ea_cons, env_zero, List.map_cons, List.map_nil, v_int, v_bool, v_ls, decide_eq_true_eq, decide_eq_false_iff_not, List.length_map]
  refine ⟨fun h => ?_, fun h => ?_⟩
  · exact jn_bad (by rw [jnE, if_pos (by omega)]) (by decide)
  · refine VC.go_loop (fun i : Nat => [.int 0, .int i, .int 0, .int 0, .ls []]) (fun i => i ≤ l.length ∧ ∀ p ∈ l.take i, p.right) (fun i => l.length - i) 0 rfl ⟨Nat.zero_le _, by simp⟩ fun i hi => ?_
    simp only [VC.H_asrt, VC.H_cond, VC.H_ret, VC.H_back, VC.H_call1, ev_var, ev_int, ev_bool, ev_nil, ev_nilS, ev_cons, ev_hd, ev_tl, ev_add, ev_eql, ev_lss, ev_geq, ev_not, ev_ite, ev_len, ev_idx, ev_fits64, ea_nil, ea_cons, env_zero, env_succ, env_cons, env_nil, List.map_cons, List.map_nil, v_int, v_bool, v_ls, bool_ite, pres_nil, pres_cons, andT, andF, notT, notF, decide_eq_true_eq, decide_eq_false_iff_not, forall_const, and_true, Int.not_lt, List.length_map, i0]
    refine ⟨fun hc => ⟨by omega, by omega, ?_⟩, fun hc => ?_⟩
    · have hmem := pi_mem (l := l) (i := i) (by omega)
      rw [Int.toNat_natCast, pi_getD _ _ (by omega)]
      simp only [v_hd, v_tl]
      refine ⟨_, pc_h264_Right _ (hp _ hmem), fun hb => ?_, fun hg => ⟨by omega, i + 1, rfl, ⟨by omega, pi_take (by omega) hi.2 (by simpa using hg)⟩, by omega⟩⟩
      exact jn_bad (jn_one (by omega) fun hc => by simp at hb; exact hb (hc _ hmem)) (by decide)
    · have hr := hi.2
      rw [List.take_of_length_le (by omega)] at hr
      rw [pi_getD _ _ (by omega)]
      simp only [v_hd, v_tl, v_int, v_ls, List.length_map]
      refine ⟨fun _ => by omega, fun h1 => ⟨by omega, ?_⟩, fun h1 => ⟨by omega, by omega, ?_⟩⟩
      · have ha : alone l := ⟨by omega, h1.2⟩
        have hm0 := pi_mem (l := l) (i := 0) (by omega)
        have hlen := ((right1 h1.2).1 (hr _ hm0)).2.2.2.2.1
        rw [un_getD _ _ (by omega)]
        simp only [v_hd, v_tl]
        have hz : jnE l = 0 := by rw [jnE, if_neg (by omega), if_neg (fun hc => hc hr), if_pos ha]
        refine ⟨by omega, _, pc_bytes_Clone _ (by have := (hp _ hm0).2.2 _ (un_mem (i := 0) (by omega)); omega), ?_⟩
        rw [jnU, if_neg (fun hc => hc hz), if_pos ha, hz]
      · have ha : ¬ alone l := fun hc => by have := hc.1; have := hc.2; omega
        refine VC.go_loop (fun i : Nat => [.int 0, .int i, .int 0, .int 0, .ls [], B ((l.take i).map fun p => p.part.bytes).flatten]) (fun i => i ≤ l.length ∧ ∀ j, j < i → goes l j) (fun i => l.length - i) 0 ?_ ⟨Nat.zero_le _, fun j hj => by omega⟩ fun i hi => ?_
        · simp only [ev_var, ev_int, ev_nil, env_zero, env_succ, List.map_cons, List.map_nil]
          rfl
        · simp only [VC.H_asrt, VC.H_cond, VC.H_ret, VC.H_back, ev_var, ev_int, ev_bool, ev_nil, ev_nilS, ev_cons, ev_hd, ev_tl, ev_add, ev_sub', ev_mul, ev_eql, ev_neq, ev_lss, ev_leq, ev_geq, ev_beq, ev_not, ev_ite, ev_len, ev_idx, ev_app, ev_fits64, ea_nil, ea_cons, env_zero, env_succ, env_cons, env_nil, List.map_cons, List.map_nil, v_int, v_bool, v_ls, bool_ite, pres_nil, pres_cons, orT, orF, notT, notF, nnE, decide_eq_true_eq, decide_eq_false_iff_not, forall_const, and_true, Int.not_lt, List.length_map, i0]
          rw [pi_getD l 0 (by omega)]
          simp only [v_hd, v_tl, v_int]
          refine ⟨fun hc => ⟨by omega, by omega, ?_⟩, fun hc => ?_⟩
          · rw [Int.toNat_natCast, pi_getD _ _ (by omega)]
            simp only [v_hd, v_tl, v_int, v_ls, v_bool, ofBytes_length]
            have d0 : decide (((i : Nat) : Int) = 0) = decide (i = 0) := by rw [decide_eq_decide]; omega
            have d1 : decide (((i : Nat) : Int) = ((l.length : Nat) : Int) - 1) = decide (i + 1 = l.length) := by rw [decide_eq_decide]; omega
            refine ⟨fun h2 => ?_, fun h2 => ⟨fun _ => by omega, fun h3 => ?_, fun h3 => ⟨?_, by omega, i + 1, ?_, ⟨by omega, ?_⟩, by omega⟩⟩⟩
            · exact jn_bad (jn_six (by omega) hr ha (i := i) (by omega) fun hg => by have := hg.1; have := hg.2.1; have := hg.2.2.1; omega) (by decide)
            · rw [d0, d1] at h3
              exact jn_bad (jn_six (by omega) hr ha (i := i) (by omega) fun hg => by
                rcases h3 with h3 | h3
                · exact h3 hg.2.2.2.1
                · exact h3 hg.2.2.2.2) (by decide)
            · have := flat_bound (l.take i) fun p hp' => hp p (List.mem_of_mem_take hp')
              rw [List.length_take] at this
              have := (hp _ (pi_mem (l := l) (i := i) (by omega))).2.1
              omega
            · rw [flat_snoc _ _ (by omega), ofBytes_append]
              rfl
            · intro j hj
              by_cases hji : j = i
              · subst hji
                rw [d0, d1] at h3
                exact ⟨by omega, by omega, h2.2, h3.1, h3.2⟩
              · exact hi.2 j (by omega)
          · exact jn_end (by omega) hr ha (by omega) (fun j hj => hi.2 j (by omega))
theorem jn_lone {l : List Pi} (hr : ∀ p ∈ l, p.right) (h1 : l.length = 1) : ¬ goes l 0 := fun hg => by
  have hm := hr _ (pi_mem (l := l) (i := 0) (by omega))
  obtain ⟨_, _, _, _, h5⟩ := (right3 hg.1).1 hm
  refine h5 ⟨?_, ?_⟩
  · rw [hg.2.2.2.1]
    simp
  · rw [hg.2.2.2.2]
    simp [h1]
theorem pc_crossbarref25_Join (l : List Pi) (hl : l.length ≤ 100000) (hp : ∀ p ∈ l, Pi.ok p) : PC Try.prog f_crossbarref25_Join [(PisSh, PisC l)] [(UnSh, UnC (jnU l)), (I64, .int (jnE l))] := by
  apply pcv_crossbarref25_Join rfl
  have i0 : Int.toNat 0 = 0 := rfl
  simp only [vc_crossbarref25_Join, VC.H_cond, VC.H_ret, ev_var, ev_int, ev_nil, ev_nilS, ev_cons, ev_eql, ev_len, ea_nil, ea_cons, env_zero, List.map_cons, List.map_nil, v_int, v_bool, v_ls, decide_eq_true_eq, decide_eq_false_iff_not, List.length_map]
  refine ⟨fun h => ?_, fun h => ?_⟩
  · exact jn_bad (by rw [jnE, if_pos (by omega)]) (by decide)
  · refine VC.go_loop (fun i : Nat => [.int 0, .int i, .int 0, .int 0, .ls []]) (fun i => i ≤ l.length ∧ ∀ p ∈ l.take i, p.right) (fun i => l.length - i) 0 rfl ⟨Nat.zero_le _, by simp⟩ fun i hi => ?_
    simp only [VC.H_asrt, VC.H_cond, VC.H_ret, VC.H_back, VC.H_call1, ev_var, ev_int, ev_nil, ev_nilS, ev_cons, ev_hd, ev_tl, ev_add, ev_eql, ev_lss, ev_geq, ev_not, ev_len, ev_idx, ev_fits64, ea_nil, ea_cons, env_zero, env_succ, env_cons, env_nil, List.map_cons, List.map_nil, v_int, v_bool, v_ls, pres_nil, notT, notF, decide_eq_true_eq, decide_eq_false_iff_not, forall_const, Int.not_lt, List.length_map, i0]
    refine ⟨fun hc => ⟨by omega, by omega, ?_⟩, fun hc => ?_⟩
    · have hmem := pi_mem (l := l) (i := i) (by omega)
      rw [Int.toNat_natCast, pi_getD _ _ (by omega)]
      refine ⟨_, pc_crossbarref25_Right _ (hp _ hmem), fun hb => ?_, fun hg => ⟨by omega, i + 1, rfl, ⟨by omega, pi_take (by omega) hi.2 (by simpa using hg)⟩, by omega⟩⟩
      exact jn_bad (jn_one (by omega) fun hc => by simp at hb; exact hb (hc _ hmem)) (by decide)
    · have hr := hi.2
      rw [List.take_of_length_le (by omega)] at hr
      rw [pi_getD _ _ (by omega)]
      simp only [v_hd, v_tl, v_int, v_ls, List.length_map]
      refine ⟨fun h1 => ⟨by omega, fun h2 => ⟨by omega, ?_⟩, fun h2 => ?_⟩, fun h1 => ⟨by omega, by omega, ?_⟩⟩
      · have ha : alone l := ⟨by omega, h2⟩
        have hm0 := pi_mem (l := l) (i := 0) (by omega)
        have hlen := ((right1 h2).1 (hr _ hm0)).2.2.2.2.1
        rw [un_getD _ _ (by omega)]
        simp only [v_hd, v_tl]
        have hz : jnE l = 0 := by rw [jnE, if_neg (by omega), if_neg (fun hc => hc hr), if_pos ha]
        refine ⟨by omega, ?_⟩
        rw [jnU, if_neg (fun hc => hc hz), if_pos ha, hz]
      · have ha : ¬ alone l := fun hc => h2 hc.2
        exact jn_bad (jn_six (by omega) hr ha (i := 0) (by omega) (jn_lone hr (by omega))) (by decide)
      · have ha : ¬ alone l := fun hc => by have := hc.1; omega
        refine VC.go_loop (fun i : Nat => [.int 0, .int i, .int 0, .int 0, .ls [], B ((l.take i).map fun p => p.part.bytes).flatten]) (fun i => i ≤ l.length ∧ ∀ j, j < i → goes l j) (fun i => l.length - i) 0 ?_ ⟨Nat.zero_le _, fun j hj => by omega⟩ fun i hi => ?_
        · simp only [ev_var, ev_int, ev_nil, env_zero, env_succ, List.map_cons, List.map_nil]
          rfl
        · simp only [VC.H_asrt, VC.H_cond, VC.H_ret, VC.H_back, ev_var, ev_int, ev_bool, ev_nil, ev_nilS, ev_cons, ev_hd, ev_tl, ev_add, ev_mul, ev_eql, ev_neq, ev_lss, ev_leq, ev_gtr, ev_geq, ev_not, ev_ite, ev_len, ev_idx, ev_app, ev_fits64, ea_nil, ea_cons, env_zero, env_succ, env_cons, env_nil, List.map_cons, List.map_nil, v_int, v_bool, v_ls, bool_ite, pres_nil, pres_cons, orT, orF, andT, andF, notT, decide_eq_true_eq, decide_eq_false_iff_not, forall_const, and_true, Int.not_lt, List.length_map, i0]
          rw [pi_getD l 0 (by omega)]
          simp only [v_hd, v_tl, v_int]
          refine ⟨fun hc => ⟨by omega, by omega, ?_⟩, fun hc => ?_⟩
          · rw [Int.toNat_natCast, pi_getD _ _ (by omega)]
            simp only [v_hd, v_tl, v_int, v_ls, v_bool, ofBytes_length]
            refine ⟨fun _ => by omega, fun _ => by omega, fun h3 => ?_, fun h3 => ⟨?_, by omega, i + 1, ?_, ⟨by omega, ?_⟩, by omega⟩⟩
            · refine jn_bad (jn_six (by omega) hr ha (i := i) (by omega) fun hg => ?_) (by decide)
              have g1 := hg.1
              have g2 := hg.2.1
              have g3 := hg.2.2.1
              rw [hg.2.2.2.1, hg.2.2.2.2] at h3
              simp only [decide_eq_true_eq, decide_eq_false_iff_not] at h3
              omega
            · have := flat_bound (l.take i) fun p hp' => hp p (List.mem_of_mem_take hp')
              rw [List.length_take] at this
              have := (hp _ (pi_mem (l := l) (i := i) (by omega))).2.1
              omega
            · rw [flat_snoc _ _ (by omega), ofBytes_append]
              rfl
            · intro j hj
              by_cases hji : j = i
              · subst hji
                unfold goes
                revert h3
                generalize (l.getD j Pi.zero).start = s
                generalize (l.getD j Pi.zero).fin = f
                cases s <;> cases f <;> simp only [Bool.false_eq_true, Bool.true_eq_false, false_and, true_and, or_false, false_or, not_true_eq_false, not_false_eq_true, true_or, and_true, true_eq_decide_iff, false_eq_decide_iff] <;> omega
              · exact hi.2 j (by omega)
          · exact jn_end (by omega) hr ha (by omega) (fun j hj => hi.2 j (by omega))
end Go.Vc
