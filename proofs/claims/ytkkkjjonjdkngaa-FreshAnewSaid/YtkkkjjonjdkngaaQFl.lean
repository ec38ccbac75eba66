/-
  The laws of fresh: each function returns true, whatever it is handed.
-/
import Derived.Test.YtkkkjjonjdkngaaQVfl
import Derived.Test.YtkkkjjonjdkngaaQFc
import Derived.Test.YtkkkjjonjdkngaaQBase3
set_option maxRecDepth 100000
namespace Go.Vc
open Go Go.Proofs Go.Plain
theorem ty_u8 {c : C} (h : Ty U8 c) : ∃ n : Nat, c = .int n ∧ n < 256 := ty_nat rfl h
theorem ty_u16 {c : C} (h : Ty U16 c) : ∃ n : Nat, c = .int n ∧ n < 65536 := ty_nat rfl h
theorem ty_u32 {c : C} (h : Ty U32 c) : ∃ n : Nat, c = .int n ∧ n < 4294967296 := ty_nat rfl h
theorem ty_en {c : C} (h : Ty EnSh c) : ∃ p : En, c = EnC p ∧ p.ok := by
  obtain ⟨_, _, rfl, h1, _, _, e2, h2, e3⟩ := h
  obtain ⟨a, rfl, ha⟩ := ty_u32 h1
  obtain ⟨b, rfl, hb⟩ := ty_u8 h2
  simp only [Ty, C.ls.injEq] at e2 e3
  subst e3 e2
  exact ⟨⟨a, b⟩, rfl, ha, hb⟩
theorem ty_ens {c : C} (h : Ty (.sl EnSh) c) : ∃ l : List En, c = Ens l ∧ l.length ≤ 9223372036854775807 ∧ ∀ x ∈ l, x.ok := by
  obtain ⟨l, rfl, hl, hx⟩ := h
  obtain ⟨ns, rfl, ha⟩ := ty_list (e := EnC) (P := fun n => n.ok) fun x hxl => ty_en (hx x hxl)
  exact ⟨ns, rfl, by simpa [maxLen] using hl, ha⟩
def frA : List En := [⟨5, 1⟩, ⟨5, 2⟩, ⟨5, 2⟩, ⟨6, 0⟩]
def frAb : List UInt8 := [0, 0, 0, 5, 1, 0, 0, 0, 0, 0, 0, 5, 2, 0, 0, 0, 0, 0, 0, 5, 2, 0, 0, 0, 0, 0, 0, 6, 0, 0, 0, 0]
theorem pc_crossbarlaw16_awake : PC Try.prog f_crossbarlaw16_awake [] [(.bool, .bool true)] := by
  apply pcv_crossbarlaw16_awake rfl
  have ho : ∀ p ∈ frA, p.ok := by
    intro p hp
    simp only [frA, List.mem_cons, List.not_mem_nil, or_false] at hp
    rcases hp with rfl | rfl | rfl | rfl <;> exact ⟨by decide, by decide⟩
  have p1 := pc_fresh_Write frA ho (by decide)
  rw [show frwB frA = frAb by decide +kernel, show frwE frA = 0 by decide +kernel] at p1
  have p2 := pc_fresh_Read frAb (by decide)
  rw [show frR frAb = frA by decide +kernel, show frE frAb = 0 by decide +kernel] at p2
  have p3 := pc_fresh_Anew [⟨5, 1⟩] frA (by decide) (by decide)
  rw [show anew [⟨5, 1⟩] frA = [⟨5, 2⟩, ⟨6, 0⟩] by decide +kernel] at p3
  have p4 := pc_fresh_Read (frAb.set 7 1) (by decide)
  rw [show frE (frAb.set 7 1) = 0 by decide +kernel] at p4
  have p5 := pc_crossbarref16_Same frA frA (by decide)
  rw [show decide (frA = frA) = true by decide +kernel] at p5
  have p6 := pc_fresh_Canon frAb (by decide)
  rw [show decide (frC frAb) = true by decide +kernel] at p6
  have p7 := pc_fresh_Canon (frAb.set 7 1) (by decide)
  rw [show decide (frC (frAb.set 7 1)) = false by decide +kernel] at p7
  simp only [vc_crossbarlaw16_awake, VC.H_asrt, VC.H_cond, VC.H_ret, VC.H_call1, VC.H_call2, ev_var, ev_int, ev_bool, ev_nil, ev_cons, ev_add, ev_mul, ev_eql, ev_neq, ev_lss, ev_leq, ev_not, ev_ite, ev_len, ev_idx, ev_sub, ev_app, ev_set, ev_deq, ea_nil, ea_cons, env_zero, env_succ, env_cons, env_nil, List.map_nil, v_int, v_bool, v_ls, toBool_ite, bool_ite, pres_nil, pres_cons, andT, nnE, decide_eq_true_eq, decide_eq_false_iff_not, forall_const, and_true]
  refine ⟨_, _, p1, _, _, p2, _, p3, fun h => absurd h (by decide), fun _ => ⟨by decide, by decide, _, _, p4, fun _ => by decide, _, fun _ => p5, fun _ => by decide, fun _ => by decide, fun _ => by decide, fun _ => by decide, _, fun _ => p6, _, fun _ => p7, ?_⟩⟩
  rfl
theorem law_FreshRight (cs : List C) (h : TyAll [.sl EnSh, .sl EnSh, Byt] cs) : PC Try.prog f_crossbarlaw16_FreshRight ([.sl EnSh, .sl EnSh, Byt].zip cs) [(.bool, .bool true)] := by
  obtain ⟨_, _, rfl, h1, _, _, rfl, h2, _, _, rfl, h3, rfl⟩ := h
  obtain ⟨was, rfl, hl, hwo⟩ := ty_ens h1
  obtain ⟨l, rfl, hs, ho⟩ := ty_ens h2
  obtain ⟨b, rfl⟩ := ty_bytes h3
  apply pcv_crossbarlaw16_FreshRight rfl
  simp only [vc_crossbarlaw16_FreshRight, VC.H_cond, VC.H_ret, VC.H_call1, VC.H_call2, ev_var, ev_int, ev_bool, ev_eql, ev_neq, ev_gtr, ev_sneq, ev_beq, ev_not, ev_ite, ev_len, ev_toStr, ea_nil, ea_cons, env_zero, env_succ, env_cons, env_nil, List.map_cons, List.map_nil, List.zip_cons_cons, List.zip_nil_right, v_int, v_bool, v_str, v_ls, toBool_ite, bool_ite, pres_nil, pres_cons, orT, orF, andT, notT, notF, nnE, decide_eq_true_eq, decide_eq_false_iff_not, forall_const, and_true, Int.not_lt, ofBytes_length, List.length_map]
  refine ⟨_, pc_crossbarlaw16_awake, fun h => by simp at h, fun _ => ⟨fun _ => trivial, fun hb => ?_⟩⟩
  obtain ⟨f1, f2⟩ := frR_len b
  have hal := anew_length was l
  refine ⟨_, _, pc_fresh_Write l ho (by omega), fun hp => ⟨_, fun _ => pc_crossbarref16_Write l ho (by omega), fun hc => ?_, fun _ => ⟨_, _, pc_fresh_Read b (by omega), _, _, pc_crossbarref16_Read b (by omega), _, fun _ => pc_crossbarref16_Same _ _ (by omega), _, fun _ => pc_fresh_Canon b (by omega), _, fun _ => pc_crossbarref16_Canon b (by omega), _, fun _ => pc_fresh_Anew was l (by omega) (by omega), _, fun _ => pc_crossbarref16_Anew was l (by omega) (by omega), _, fun _ => pc_crossbarref16_Same _ _ (by omega), ?_⟩⟩,
    fun hp => ⟨fun hc => ?_, fun _ => ⟨_, _, pc_fresh_Read b (by omega), _, _, pc_crossbarref16_Read b (by omega), _, fun _ => pc_crossbarref16_Same _ _ (by omega), _, fun _ => pc_fresh_Canon b (by omega), _, fun _ => pc_crossbarref16_Canon b (by omega), _, fun _ => pc_fresh_Anew was l (by omega) (by omega), _, fun _ => pc_crossbarref16_Anew was l (by omega) (by omega), _, fun _ => pc_crossbarref16_Same _ _ (by omega), ?_⟩⟩⟩
  · exfalso
    have e1 : frwB l = enB l := if_neg (by omega)
    have e2 : frwE l = 0 := if_neg (by omega)
    simp [e1, e2] at hc
  · simp
  · exfalso
    have e1 : frwB l = [] := if_pos (by omega)
    have e2 : frwE l = 1 := if_pos (by omega)
    simp [e1, e2] at hc
  · simp
theorem fr_tail (b : List UInt8) : (frE b ≠ 0 → frR b = [] ∧ ¬ frC b) ∧ (frE b = 0 → frwE (frR b) = 0 ∧ (frwB (frR b)).length = b.length ∧ (frC b ↔ frwB (frR b) = b)) := by
  refine ⟨fun h => ⟨if_neg h, fun hc => h hc.1⟩, fun h => ?_⟩
  have h2 := frE_zero.1 h
  have e : frR b = enOf b := if_pos h
  have hl := enOf_length b
  rw [e]
  have e2 : frwB (enOf b) = enB (enOf b) := if_neg (by omega)
  refine ⟨if_neg (by omega), ?_, ?_⟩
  · rw [e2, enB_length]
    omega
  · rw [e2, frC_iff]
    simp [h]
theorem fr_n (more : Nat) (h : more < 65536) : arith .rem .i64 (IntKind.i64.wrap (more : Int)) 100 = ((more % 100 : Nat) : Int) := by
  rw [wrapi64_in (by omega), arith_rem _ _ _ (by omega)]
  omega
theorem fr_rep (n : Nat) : List.replicate n (C.ls [C.int 0, C.int 0]) = (List.replicate n En.zero).map EnC := by
  rw [List.map_replicate]
  rfl
theorem fr_many (more : Nat) (h : more < 65536) : (((8100 : Int) + ((more % 100 : Nat) : Int)).toNat = 8100 + more % 100) := by omega
theorem law_FreshBack (cs : List C) (h : TyAll [.sl EnSh, Byt, U16] cs) : PC Try.prog f_crossbarlaw16_FreshBack ([.sl EnSh, Byt, U16].zip cs) [(.bool, .bool true)] := by
  obtain ⟨_, _, rfl, h1, _, _, rfl, h2, _, _, rfl, h3, rfl⟩ := h
  obtain ⟨l, rfl, hl, ho⟩ := ty_ens h1
  obtain ⟨b, rfl⟩ := ty_bytes h2
  obtain ⟨more, rfl, hm⟩ := ty_u16 h3
  apply pcv_crossbarlaw16_FreshBack rfl
  simp only [vc_crossbarlaw16_FreshBack, VC.H_asrt, VC.H_cond, VC.H_ret, VC.H_call1, VC.H_call2, ev_var, ev_int, ev_bool, ev_nil, ev_cons, ev_bin, ev_add, ev_mul, ev_eql, ev_neq, ev_leq, ev_gtr, ev_geq, ev_seql, ev_beq, ev_not, ev_ite, ev_conv, ev_len, ev_rep, ev_toStr, ev_fits64, ea_nil, ea_cons, env_zero, env_succ, env_cons, env_nil, List.map_cons, List.map_nil, List.zip_cons_cons, List.zip_nil_right, v_int, v_bool, v_str, v_ls, bool_ite, pres_nil, pres_cons, orT, orF, andT, notT, notF, nnE, decide_eq_true_eq, decide_eq_false_iff_not, forall_const, and_true, Int.not_lt, ofBytes_length, List.length_map, fr_n more hm]
  refine ⟨_, pc_crossbarlaw16_awake, fun h => by simp at h, fun _ => ⟨fun _ => trivial, fun hb => ?_⟩⟩
  obtain ⟨f1, f2⟩ := frR_len b
  obtain ⟨g1, g2⟩ := fr_tail b
  have hzo : ∀ p ∈ List.replicate (8100 + more % 100) En.zero, p.ok := fun p hp => by rw [(List.mem_replicate.1 hp).2]; exact ⟨by decide, by decide⟩
  have hW := pc_fresh_Write (List.replicate (8100 + more % 100) En.zero) hzo (by simp; omega)
  have hEw : frwE (List.replicate (8100 + more % 100) En.zero) = 0 ↔ 8100 + more % 100 ≤ 8190 := by
    unfold frwE
    rw [List.length_replicate]
    split
    · simp; omega
    · simp; omega
  rw [fr_many more hm, fr_rep]
  refine ⟨_, _, pc_fresh_Write l ho (by omega), fun hc => ?_, fun _ => ⟨fun hw => ?_, fun hw => ?_⟩⟩
  · exfalso
    by_cases h0 : l.length = 0
    · have e2 : frwE l = 1 := if_pos (by omega)
      simp [e2, h0] at hc
    · have e2 : frwE l = 0 := if_neg (by omega)
      simp [e2] at hc
      rw [hc] at h0
      exact h0 rfl
  · have h0 : ¬ l.length = 0 := fun h0 => by
      have e2 : frwE l = 1 := if_pos (by omega)
      rw [v_int, e2] at hw
      exact absurd hw (by decide)
    have e1 : frwB l = enB l := if_neg (by omega)
    have e2 : frE (enB l) = 0 := by rw [frE_zero, enB_length]; omega
    have e3 : frR (enB l) = l := by rw [frR, if_pos e2, enOf_back l ho]
    have e4 : frC (enB l) := by rw [frC_iff, enOf_back l ho]; exact ⟨e2, rfl⟩
    rw [e1]
    refine ⟨_, _, pc_fresh_Read (enB l) (by rw [enB_length]; omega), ?_⟩
    rw [e2, e3]
    refine ⟨_, fun _ => pc_crossbarref16_Same _ _ (by omega), _, fun _ => pc_fresh_Canon (enB l) (by rw [enB_length]; omega), fun _ => by omega, fun hc => ?_, fun _ => ?_⟩
    · exfalso
      simp [e4, enB_length] at hc
    · refine ⟨by omega, by omega, by omega, by omega, _, _, hW, fun hc => ?_, fun _ => ⟨_, _, pc_fresh_Read b (by omega), fun hx => ⟨_, fun _ => pc_fresh_Canon b (by omega), ?_⟩, fun hx => ⟨_, _, pc_fresh_Write _ f2 (by omega), _, fun _ => pc_fresh_Canon b (by omega), ?_⟩⟩⟩
      · exfalso
        by_cases hn : 8100 + more % 100 ≤ 8190
        · have := hEw.2 hn
          simp only [v_int, this] at hc
          simp at hc
          omega
        · have : ¬ frwE (List.replicate (8100 + more % 100) En.zero) = 0 := fun e => hn (hEw.1 e)
          simp only [v_int] at hc
          simp [this] at hc
          omega
      · obtain ⟨k1, k2⟩ := g1 (by simpa using hx)
        simp [k1, k2]
      · obtain ⟨k1, k2, k3⟩ := g2 (by simpa using hx)
        simp [k1, k2, k3]
  · refine ⟨by omega, by omega, by omega, by omega, _, _, hW, fun hc => ?_, fun _ => ⟨_, _, pc_fresh_Read b (by omega), fun hx => ⟨_, fun _ => pc_fresh_Canon b (by omega), ?_⟩, fun hx => ⟨_, _, pc_fresh_Write _ f2 (by omega), _, fun _ => pc_fresh_Canon b (by omega), ?_⟩⟩⟩
    · exfalso
      by_cases hn : 8100 + more % 100 ≤ 8190
      · have := hEw.2 hn
        simp only [v_int, this] at hc
        simp at hc
        omega
      · have : ¬ frwE (List.replicate (8100 + more % 100) En.zero) = 0 := fun e => hn (hEw.1 e)
        simp only [v_int] at hc
        simp [this] at hc
        omega
    · obtain ⟨k1, k2⟩ := g1 (by simpa using hx)
      simp [k1, k2]
    · obtain ⟨k1, k2, k3⟩ := g2 (by simpa using hx)
      simp [k1, k2, k3]
end Go.Vc
