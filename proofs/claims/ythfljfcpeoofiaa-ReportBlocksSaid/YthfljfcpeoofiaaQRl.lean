/-
  The laws of report: each function returns true, whatever it is handed.
-/
import Derived.Test.YthfljfcpeoofiaaQVrl
import Derived.Test.YthfljfcpeoofiaaQRd
import Derived.Test.YthfljfcpeoofiaaQBase3
set_option maxRecDepth 100000
namespace Go.Vc
open Go Go.Proofs Go.Plain
theorem ty_i64r {c : C} (h : Ty I64 c) : ∃ n : Int, c = .int n ∧ -9223372036854775808 ≤ n ∧ n ≤ 9223372036854775807 := ty_int h
theorem ty_i32 {c : C} (h : Ty (.int .i32) c) : ∃ n : Int, c = .int n ∧ -2147483648 ≤ n ∧ n ≤ 2147483647 := ty_int h
theorem ty_u8 {c : C} (h : Ty U8 c) : ∃ n : Nat, c = .int n ∧ n < 256 := ty_nat rfl h
theorem ty_u32 {c : C} (h : Ty U32 c) : ∃ n : Nat, c = .int n ∧ n < 4294967296 := ty_nat rfl h
theorem ty_u64r {c : C} (h : Ty U64 c) : ∃ n : Nat, c = .int n ∧ n < 18446744073709551616 := ty_nat rfl h
theorem ty_snd {c : C} (h : Ty SndSh c) : ∃ s : Snd, c = SndC s ∧ s.ok := by
  obtain ⟨_, _, rfl, h1, _, _, e2, h2, _, _, e3, h3, _, _, e4, h4, e5⟩ := h
  obtain ⟨a, rfl, ha⟩ := ty_u64r h1
  obtain ⟨b, rfl, hb⟩ := ty_u32 h2
  obtain ⟨c, rfl, hc⟩ := ty_u32 h3
  obtain ⟨d, rfl, hd⟩ := ty_u32 h4
  simp only [Ty, C.ls.injEq] at e2 e3 e4 e5
  subst e5 e4 e3 e2
  exact ⟨⟨a, b, c, d⟩, rfl, ha, hb, hc, hd⟩
theorem ty_bk {c : C} (h : Ty BkSh c) : ∃ s : Bk, c = BkC s ∧ s.ok := by
  obtain ⟨_, _, rfl, h1, _, _, e2, h2, _, _, e3, h3, _, _, e4, h4, _, _, e5, h5, _, _, e6, h6, _, _, e7, h7, e8⟩ := h
  obtain ⟨a, rfl, ha⟩ := ty_u32 h1
  obtain ⟨b, rfl, hb⟩ := ty_u8 h2
  obtain ⟨c, rfl, hc⟩ := ty_i32 h3
  obtain ⟨d, rfl, hd⟩ := ty_u32 h4
  obtain ⟨e, rfl, he⟩ := ty_u32 h5
  obtain ⟨f, rfl, hf⟩ := ty_u32 h6
  obtain ⟨g, rfl, hg⟩ := ty_u32 h7
  simp only [Ty, C.ls.injEq] at e2 e3 e4 e5 e6 e7 e8
  subst e8 e7 e6 e5 e4 e3 e2
  exact ⟨⟨a, b, c, d, e, f, g⟩, rfl, ha, hb, hc, hd, he, hf, hg⟩
theorem ty_rp {c : C} (h : Ty RpSh c) : ∃ r : Rp, c = RpC r ∧ r.ok := by
  obtain ⟨_, _, rfl, h1, _, _, e2, ⟨s, rfl⟩, _, _, e3, h3, _, _, e4, h4, _, _, e5, h5, e6⟩ := h
  obtain ⟨a, rfl, ha⟩ := ty_u32 h1
  obtain ⟨sd, rfl, hsd⟩ := ty_snd h3
  obtain ⟨l, rfl, _, hl⟩ := h4
  obtain ⟨bs, rfl, hbs⟩ := ty_list (e := BkC) (P := Bk.ok) fun x hx => ty_bk (hl x hx)
  obtain ⟨m, rfl⟩ := ty_bytes h5
  simp only [Ty, C.ls.injEq] at e2 e3 e4 e5 e6
  subst e6 e5 e4 e3 e2
  exact ⟨⟨a, s, sd, bs, m⟩, rfl, ha, hsd, hbs⟩
theorem pc_crossbarlaw12_awake : PC Try.prog f_crossbarlaw12_awake [] [(.bool, .bool true)] := by
  let r : Rp := ⟨7, false, Snd.zero, [⟨1, 2, -2, 3, 4, 5, 6⟩], [9, 9, 9, 9]⟩
  have hr : r.right := by decide
  have ho : r.ok := by
    refine ⟨by decide, ⟨by decide, by decide, by decide, by decide⟩, ?_⟩
    intro b hb
    simp only [r, List.mem_singleton] at hb
    subst hb
    unfold Bk.ok
    simp
  have hb := Rp.back r hr ho
  have e1 : rwB r = r.bytes := if_pos hr
  have e2 : rwE r = 0 := if_pos hr
  have e3 : rpE false 1 r.bytes = 0 := hb.1
  have e4 : rpR false 1 r.bytes = r := by rw [rpR, if_pos e3]; exact hb.2
  have e5 : rpE true 1 r.bytes = 2 := by decide +kernel
  apply pcv_crossbarlaw12_awake rfl
  simp only [vc_crossbarlaw12_awake, VC.H_asrt, VC.H_ret, VC.H_call1, VC.H_call2, ev_var, ev_int, ev_bool, ev_str, ev_nil, ev_cons, ev_hd, ev_tl, ev_eql, ev_leq, ev_seql, ev_ite, ev_len, ev_sub, ev_toStr, ea_nil, ea_cons, env_zero, env_succ, env_cons, env_nil, List.map_nil, v_int, v_bool, v_str, v_ls, toBool_ite, bool_ite, pres_nil, pres_cons, andT, decide_eq_true_eq, forall_const, and_true]
  refine ⟨_, _, pc_report_Write r ho (by decide), ?_⟩
  rw [e1, e2]
  refine ⟨_, _, pc_report_Read false 1 r.bytes (by decide +kernel), _, _, pc_report_Read true 1 r.bytes (by decide +kernel), ?_⟩
  rw [e3, e4, e5]
  refine ⟨fun _ => by decide +kernel, _, fun _ => pc_crossbarref12_Same r r (by decide), _, fun _ => pc_report_Right r (by decide), ?_⟩
  kernel_rfl
theorem law_ReportRight (cs : List C) (h : TyAll [RpSh, .bool, I64, Byt] cs) : PC Try.prog f_crossbarlaw12_ReportRight ([RpSh, .bool, I64, Byt].zip cs) [(.bool, .bool true)] := by
  obtain ⟨_, _, rfl, h1, _, _, rfl, ⟨s, rfl⟩, _, _, rfl, h3, _, _, rfl, h4, rfl⟩ := h
  obtain ⟨r, rfl, ho⟩ := ty_rp h1
  obtain ⟨n, rfl, hn⟩ := ty_i64r h3
  obtain ⟨b, rfl⟩ := ty_bytes h4
  apply pcv_crossbarlaw12_ReportRight rfl
  simp only [vc_crossbarlaw12_ReportRight, VC.H_cond, VC.H_ret, VC.H_call1, VC.H_call2, ev_var, ev_int, ev_bool, ev_nil, ev_cons, ev_hd, ev_tl, ev_eql, ev_neq, ev_gtr, ev_sneq, ev_beq, ev_not, ev_ite, ev_len, ev_toStr, ea_nil, ea_cons, env_zero, env_succ, env_cons, env_nil, List.map_cons, List.map_nil, List.zip_cons_cons, List.zip_nil_right, v_int, v_bool, v_str, v_ls, v_hd, v_tl, bool_ite, pres_nil, pres_cons, orT, orF, andT, notT, notF, nnE, decide_eq_true_eq, decide_eq_false_iff_not, forall_const, and_true, Int.not_lt, ofBytes_length]
  refine ⟨_, pc_crossbarlaw12_awake, fun h => by simp at h, fun _ => ?_⟩
  refine ⟨_, pc_crossbarref12_Short r, fun _ => trivial, fun hb => ?_⟩
  have hsh : r.blocks.length ≤ 99 ∧ r.more.length ≤ 70000 := by
    have h1 := hb.1
    simp only [v_bool] at h1
    by_cases h : r.blocks.length ≤ 99 ∧ r.more.length ≤ 70000
    · exact h
    · simp [h] at h1
  have hb := hb.2
  have hl : (rpR s n b).blocks.length ≤ 9223372036854775806 := by
    unfold rpR
    split
    · rename_i e
      have := (Rp.same s n b e).2.2.2
      have := rpE_zero.1 e
      omega
    · decide
  refine ⟨_, pc_crossbarref12_Right r (by omega), _, _, pc_report_Write r ho (by omega), fun hr => ?_, fun hr => ?_⟩
  · simp only [v_bool, decide_eq_true_eq] at hr
    refine ⟨_, fun _ => pc_crossbarref12_Write r hr ho, fun hc => ?_, fun _ => ?_⟩
    · exfalso
      have e1 : rwB r = r.bytes := if_pos hr
      have e2 : rwE r = 0 := if_pos hr
      simp [e1, e2] at hc
    · refine ⟨_, _, pc_report_Read s n b (by omega), _, _, pc_crossbarref12_Read s n b (by omega), _, pc_report_Right r (by omega), _, fun _ => pc_crossbarref12_Same (rpR s n b) (rpR s n b) hl, ?_⟩
      simp [hr]
  · simp only [v_bool, decide_eq_false_iff_not] at hr
    refine ⟨fun hc => ?_, fun _ => ?_⟩
    · exfalso
      have e1 : rwB r = [] := if_neg hr
      have e2 : rwE r = 1 := if_neg hr
      simp [e1, e2] at hc
    · refine ⟨_, _, pc_report_Read s n b (by omega), _, _, pc_crossbarref12_Read s n b (by omega), _, pc_report_Right r (by omega), _, fun _ => pc_crossbarref12_Same (rpR s n b) (rpR s n b) hl, ?_⟩
      simp [hr]
theorem rem31 (c : Nat) (h : c < 256) : arith .rem .i64 (IntKind.i64.wrap (c : Int)) 31 = ((c % 31 : Nat) : Int) := by
  rw [wrapi64_in (by omega), arith_rem _ _ _ (by omega)]
  omega
theorem law_ReportBlocks (cs : List C) (h : TyAll [.bool, U8, Byt] cs) : PC Try.prog f_crossbarlaw12_ReportBlocks ([.bool, U8, Byt].zip cs) [(.bool, .bool true)] := by
  obtain ⟨_, _, rfl, ⟨s, rfl⟩, _, _, rfl, h2, _, _, rfl, h3, rfl⟩ := h
  obtain ⟨c, rfl, hc⟩ := ty_u8 h2
  obtain ⟨b, rfl⟩ := ty_bytes h3
  apply pcv_crossbarlaw12_ReportBlocks rfl
  simp only [vc_crossbarlaw12_ReportBlocks, VC.H_asrt, VC.H_cond, VC.H_ret, VC.H_call1, VC.H_call2, ev_var, ev_int, ev_bool, ev_nil, ev_cons, ev_hd, ev_tl, ev_bin, ev_add, ev_mul, ev_eql, ev_neq, ev_lss, ev_leq, ev_gtr, ev_geq, ev_sneq, ev_not, ev_ite, ev_conv, ev_len, ev_idx, ev_sub, ev_app, ev_toStr, ev_fits64, ea_nil, ea_cons, env_zero, env_succ, env_cons, env_nil, List.map_cons, List.map_nil, List.zip_cons_cons, List.zip_nil_right, v_int, v_bool, v_str, v_ls, bool_ite, pres_nil, pres_cons, orT, orF, notT, notF, nnE, decide_eq_true_eq, decide_eq_false_iff_not, forall_const, and_true, Int.not_lt, ofBytes_length]
  rw [rem31 c hc]
  generalize hn : c % 31 = n
  have hn31 : n < 31 := by omega
  refine ⟨_, pc_crossbarlaw12_awake, fun h => by simp at h, fun _ => ⟨fun _ => trivial, fun hb => ⟨by omega, ?_⟩⟩⟩
  refine ⟨_, _, pc_report_Read s ((n : Int) + 1) b (by omega), _, _, pc_report_Read s n b (by omega), ?_⟩
  obtain ⟨l1, l2⟩ := Rp.less s n b hn31
  refine ⟨fun he => ?_, fun he => ?_⟩
  · simp only [v_int] at he
    have := l1 (by simpa using he)
    congr 3
    rcases this with h | h <;> simp [h]
  · have he : rpE s ((n : Int) + 1) b = 0 := by simpa using he
    obtain ⟨f0, f1, f2, f3, f4, f5⟩ := l2 he
    have hz := rpE_zero.1 he
    have hm : (rpR s ((n : Int) + 1) b).more.length ≤ 70000 := by
      rw [rpR, if_pos he]
      simp only [Rp.of, List.length_drop]
      omega
    have e5 : List.drop (24 : Int).toNat (List.take (((rpR s n b).more.length : Nat) : Int).toNat (ofBytes (rpR s n b).more)) = ofBytes (rpR s ((n : Int) + 1) b).more := by
      rw [Int.toNat_natCast, ofBytes_take, List.take_length, ofBytes_drop, ← f2]
      rfl
    simp only [v_hd, v_tl, v_ls, v_int, List.length_map, ofBytes_length]
    rw [e5]
    simp only [f0, f1, f3, f4]
    have e6 : ((n : Int)).toNat = n := Int.toNat_natCast n
    rw [e6]
    refine ⟨fun _ => by omega, fun _ => by omega, fun _ => by omega, fun _ => by omega, fun hc => ?_, fun hc => ?_⟩
    · exfalso
      simp [bytesOf_ofBytes] at hc
    · refine ⟨by omega, by omega, by omega, by simp; omega, ?_⟩
      rw [bk_getD _ _ (by omega)]
      have hl : (rpR s ((n : Int) + 1) b).blocks.length ≤ 9223372036854775806 := by omega
      have e7 : (rpR s n b).blocks.map BkC ++ [BkC ((rpR s ((n : Int) + 1) b).blocks.getD n ⟨0, 0, 0, 0, 0, 0, 0⟩)] = (rpR s ((n : Int) + 1) b).blocks.map BkC := by
        have := congrArg Rp.blocks f5
        simp only at this
        rw [this]
        simp [List.getD, f3]
      have e8 : (rpR s n b).ssrc = (rpR s ((n : Int) + 1) b).ssrc := (congrArg Rp.ssrc f5).symm
      have e9 : (rpR s n b).sends = (rpR s ((n : Int) + 1) b).sends := (congrArg Rp.sends f5).symm
      have e10 : (rpR s n b).snd = (rpR s ((n : Int) + 1) b).snd := (congrArg Rp.snd f5).symm
      rw [e7, e8, e9, e10]
      exact ⟨_, pc_crossbarref12_Same (rpR s ((n : Int) + 1) b) (rpR s ((n : Int) + 1) b) hl, by simp⟩
theorem law_ReportBack (cs : List C) (h : TyAll [RpSh, RpSh, .bool, I64, Byt] cs) : PC Try.prog f_crossbarlaw12_ReportBack ([RpSh, RpSh, .bool, I64, Byt].zip cs) [(.bool, .bool true)] := by
  obtain ⟨_, _, rfl, h1, _, _, rfl, h2, _, _, rfl, ⟨sd, rfl⟩, _, _, rfl, h3, _, _, rfl, h4, rfl⟩ := h
  obtain ⟨r, rfl, ro⟩ := ty_rp h1
  obtain ⟨s, rfl, so⟩ := ty_rp h2
  obtain ⟨n, rfl, hn⟩ := ty_i64r h3
  obtain ⟨b, rfl⟩ := ty_bytes h4
  apply pcv_crossbarlaw12_ReportBack rfl
  simp only [vc_crossbarlaw12_ReportBack, VC.H_asrt, VC.H_cond, VC.H_ret, VC.H_call1, VC.H_call2, ev_var, ev_int, ev_bool, ev_nil, ev_nilS, ev_cons, ev_hd, ev_tl, ev_bin, ev_sub', ev_eql, ev_neq, ev_lss, ev_leq, ev_gtr, ev_seql, ev_beq, ev_not, ev_ite, ev_len, ev_sub, ev_toStr, ev_fits64, ea_nil, ea_cons, env_zero, env_succ, env_cons, env_nil, List.map_cons, List.map_nil, List.zip_cons_cons, List.zip_nil_right, v_int, v_bool, v_str, v_ls, v_hd, v_tl, toBool_ite, bool_ite, pres_nil, pres_cons, orT, orF, andT, andF, notT, notF, nnE, decide_eq_true_eq, decide_eq_false_iff_not, forall_const, and_true, Int.not_lt, ofBytes_length, List.length_map]
  refine ⟨_, pc_crossbarlaw12_awake, fun h => by simp at h, fun _ => ?_⟩
  refine ⟨_, pc_crossbarref12_Short r, _, fun _ => pc_crossbarref12_Short s, fun _ => trivial, fun hb => ?_⟩
  have hb1 := fun h => hb.1 (.inl h)
  have hb2 := fun h => hb.1 (.inr h)
  have hb := hb.2
  have hsr : r.blocks.length ≤ 99 ∧ r.more.length ≤ 70000 := by
    by_cases h : r.blocks.length ≤ 99 ∧ r.more.length ≤ 70000
    · exact h
    · simp [h] at hb1
  have hss : s.blocks.length ≤ 99 ∧ s.more.length ≤ 70000 := by
    by_cases h : s.blocks.length ≤ 99 ∧ s.more.length ≤ 70000
    · exact h
    · simp [h] at hb2
  refine ⟨_, _, pc_report_Write r ro (by omega), _, _, pc_report_Write s so (by omega), fun he => ?_, fun he => ?_⟩
  · have hr : r.right := by
      by_cases h : r.right
      · exact h
      · simp [rwE, h] at he
    have e1 : rwB r = r.bytes := if_pos hr
    have e2 : rwE r = 0 := if_pos hr
    have hl := r.bytes_length
    have hbk := Rp.back r hr ro
    have hbz := rpE_zero.1 hbk.1
    have e3 : rpR r.sends r.blocks.length r.bytes = r := by rw [rpR, if_pos hbk.1, Int.toNat_natCast]; exact hbk.2
    have hsz : 4 ≤ rpSize r.sends r.blocks.length := by unfold rpSize; omega
    rw [Int.toNat_natCast] at hbz
    rw [e1]
    simp only [v_ls, ofBytes_length]
    have e4 : arith .rem .i64 (r.bytes.length : Int) 4 = 0 := by
      rw [mod4 _ (by omega)]
      omega
    refine ⟨_, _, pc_report_Read r.sends r.blocks.length r.bytes (by omega), ?_⟩
    rw [e3, hbk.1, e4]
    refine ⟨_, fun _ => pc_crossbarref12_Same r r (by omega), fun hc => ?_, fun _ => ?_⟩
    · exfalso
      simp at hc
      omega
    · refine ⟨_, fun _ => pc_crossbarref12_Same r s (by omega), fun hc => ?_, fun _ => ?_⟩
      · exfalso
        obtain ⟨⟨⟨c1, c2⟩, c3⟩, c4⟩ := hc
        have c2 : r.sends = s.sends := by simpa using c2
        have hs : s.right := by
          by_cases h : s.right
          · exact h
          · simp [rwE, h] at c1
        have e5 : rwB s = s.bytes := if_pos hs
        rw [e5, bytesOf_ofBytes, bytesOf_ofBytes] at c4
        by_cases hrs : r = s
        · subst hrs
          simp at c4
        · have hne : r.bytes ≠ s.bytes := fun h => hrs (Rp.inj hr ro hs so c2 (by omega) h)
          simp [hrs, hne] at c4
      · have e6 : List.drop (0 : Int).toNat (List.take ((r.bytes.length : Int) - 4).toNat (ofBytes r.bytes)) = ofBytes (r.bytes.take (r.bytes.length - 4)) := by
          have : ((r.bytes.length : Int) - 4).toNat = r.bytes.length - 4 := by omega
          rw [this, ofBytes_take]
          rfl
        simp only [e6]
        have hct := Rp.cut r hr ro
        have hlt : (r.bytes.take (r.bytes.length - 4)).length ≤ 140737488355328 := by rw [List.length_take]; omega
        refine ⟨by omega, by omega, by omega, _, _, pc_report_Read r.sends r.blocks.length _ hlt, _, fun _ => pc_crossbarref12_Same (rpR r.sends r.blocks.length (r.bytes.take (r.bytes.length - 4))) r ?_, ?_⟩
        · unfold rpR
          split
          · rename_i e
            have := (Rp.same _ _ _ e).2.2.2
            rw [Int.toNat_natCast] at this
            rw [Int.toNat_natCast]
            omega
          · decide
        · refine ⟨fun hc => ?_, fun _ => ?_⟩
          · exfalso
            by_cases hm : 0 < r.more.length
            · obtain ⟨t1, t2⟩ := hct.1 hm
              simp [t1, t2] at hc
              rw [hc] at hm
              exact absurd hm (by simp)
            · have t := hct.2 (by omega)
              simp [t] at hc
              exact hc (List.eq_nil_of_length_eq_zero (by omega))
          · refine ⟨_, _, pc_report_Read sd n b (by omega), fun hz => ?_, fun hz => ?_⟩
            · simp only [v_int] at hz
              have e : rpR sd n b = Rp.zero := by rw [rpR, if_neg (by simpa using hz)]
              rw [e]
              exact ⟨_, pc_crossbarref12_Same Rp.zero Rp.zero (by decide), rfl⟩
            · have hz : rpE sd n b = 0 := by simpa using hz
              obtain ⟨q1, q2, q3, q4⟩ := Rp.same sd n b hz
              have qz := rpE_zero.1 hz
              have e : rpR sd n b = Rp.of sd n.toNat b := by rw [rpR, if_pos hz]
              rw [e]
              have hq1 : (Rp.of sd n.toNat b).more.length ≤ 70000 := by have := q1.2.2.2.2; omega
              have e1 : rwB (Rp.of sd n.toNat b) = b := by rw [rwB, if_pos q1, q3]
              have e2 : rwE (Rp.of sd n.toNat b) = 0 := if_pos q1
              have e3 : (Rp.of sd n.toNat b).sends = sd := rfl
              refine ⟨_, _, pc_report_Write _ q2 (by omega), _, fun _ => pc_report_Right _ (by omega), ?_⟩
              rw [e1, e2]
              simp only [q1, decide_true, v_int, v_bool]
              have e4 : ((n.toNat : Nat) : Int) = n := by omega
              simp [e3, q4, e4]
  · refine ⟨_, _, pc_report_Read sd n b (by omega), fun hz => ?_, fun hz => ?_⟩
    · simp only [v_int] at hz
      have e : rpR sd n b = Rp.zero := by rw [rpR, if_neg (by simpa using hz)]
      rw [e]
      exact ⟨_, pc_crossbarref12_Same Rp.zero Rp.zero (by decide), rfl⟩
    · have hz : rpE sd n b = 0 := by simpa using hz
      obtain ⟨q1, q2, q3, q4⟩ := Rp.same sd n b hz
      have qz := rpE_zero.1 hz
      have e : rpR sd n b = Rp.of sd n.toNat b := by rw [rpR, if_pos hz]
      rw [e]
      have hq1 : (Rp.of sd n.toNat b).more.length ≤ 70000 := by have := q1.2.2.2.2; omega
      have e1 : rwB (Rp.of sd n.toNat b) = b := by rw [rwB, if_pos q1, q3]
      have e2 : rwE (Rp.of sd n.toNat b) = 0 := if_pos q1
      have e3 : (Rp.of sd n.toNat b).sends = sd := rfl
      refine ⟨_, _, pc_report_Write _ q2 (by omega), _, fun _ => pc_report_Right _ (by omega), ?_⟩
      rw [e1, e2]
      simp only [q1, decide_true, v_int, v_bool]
      have e4 : ((n.toNat : Nat) : Int) = n := by omega
      simp [e3, q4, e4]
end Go.Vc
