/-
  The laws of head: each function returns true, whatever it is handed.
-/
import Derived.Test.YtoijaooechdemaaQVhl
import Derived.Test.YtoijaooechdemaaQHc
import Derived.Test.YtoijaooechdemaaQBase3
set_option maxRecDepth 100000
namespace Go.Vc
open Go Go.Proofs Go.Plain
theorem ty_i64' {c : C} (h : Ty I64 c) : ∃ n : Int, c = .int n ∧ -9223372036854775808 ≤ n ∧ n ≤ 9223372036854775807 := ty_int h
theorem ty_u8 {c : C} (h : Ty U8 c) : ∃ n : Nat, c = .int n ∧ n < 256 := ty_nat rfl h
theorem ty_u16 {c : C} (h : Ty U16 c) : ∃ n : Nat, c = .int n ∧ n < 65536 := ty_nat rfl h
theorem ty_u32 {c : C} (h : Ty U32 c) : ∃ n : Nat, c = .int n ∧ n < 4294967296 := ty_nat rfl h
theorem ty_u32s {c : C} (h : Ty (.sl U32) c) : ∃ l : List Nat, c = Ns l ∧ l.length ≤ 9223372036854775807 ∧ ∀ x ∈ l, x < 4294967296 := by
  obtain ⟨l, rfl, hl, hx⟩ := h
  obtain ⟨ns, rfl, ha⟩ := ty_list (e := fun n : Nat => C.int (n : Int)) (P := fun n => n < 4294967296) fun x hxl => ty_u32 (hx x hxl)
  exact ⟨ns, rfl, by simpa [maxLen] using hl, ha⟩
theorem ty_head {c : C} (h : Ty HdSh c) : ∃ h : Hd, c = HdC h ∧ h.ok ∧ h.csrc.length ≤ 9223372036854775807 := by
  obtain ⟨_, _, rfl, ⟨p, rfl⟩, _, _, e2, ⟨x, rfl⟩, _, _, e3, ⟨m, rfl⟩, _, _, e4, h4, _, _, e5, h5, _, _, e6, h6, _, _, e7, h7, _, _, e8, h8, e9⟩ := h
  obtain ⟨t, rfl, _⟩ := ty_i64' h4
  obtain ⟨s, rfl, hs⟩ := ty_u16 h5
  obtain ⟨ti, rfl, hti⟩ := ty_u32 h6
  obtain ⟨ss, rfl, hss⟩ := ty_u32 h7
  obtain ⟨cs, rfl, hcl, hcs⟩ := ty_u32s h8
  simp only [Ty, C.ls.injEq] at e2 e3 e4 e5 e6 e7 e8 e9
  subst e9 e8 e7 e6 e5 e4 e3 e2
  exact ⟨⟨p, x, m, t, s, ti, ss, cs⟩, rfl, ⟨hs, hti, hss, hcs⟩, hcl⟩
theorem hdH_ok (b : List UInt8) : (hdH b).ok ∧ (hdH b).csrc.length ≤ 16 := by
  by_cases e : hdE b = 0
  · have := Hd.same b e
    rw [hdH, if_pos e]
    exact ⟨this.2.1, by omega⟩
  · rw [hdH, if_neg e]
    exact ⟨⟨by decide, by decide, by decide, by intro c hc; cases hc⟩, by decide⟩
theorem law_HeadRight (cs : List C) (h : TyAll [HdSh, Byt] cs) : PC Try.prog f_crossbarlaw05_HeadRight ([HdSh, Byt].zip cs) [(.bool, .bool true)] := by
  obtain ⟨_, _, rfl, h1, _, _, rfl, h2, rfl⟩ := h
  obtain ⟨h, rfl, ho, hcl⟩ := ty_head h1
  obtain ⟨b, rfl⟩ := ty_bytes h2
  apply pcv_crossbarlaw05_HeadRight rfl
  simp only [vc_crossbarlaw05_HeadRight, VC.H_cond, VC.H_ret, VC.H_call1, VC.H_call2, VC.H_call3, ev_var, ev_int, ev_bool, ev_nil, ev_cons, ev_hd, ev_tl, ev_eql, ev_neq, ev_gtr, ev_sneq, ev_beq, ev_not, ev_ite, ev_len, ev_toStr, ea_nil, ea_cons, env_zero, env_succ, env_cons, env_nil, List.map_cons, List.map_nil, List.zip_cons_cons, List.zip_nil_right, v_int, v_bool, v_str, v_ls, v_hd, v_tl, bool_ite, pres_nil, pres_cons, orT, orF, andT, notT, notF, nnE, decide_eq_true_eq, decide_eq_false_iff_not, forall_const, and_true, Int.not_lt, ofBytes_length, List.length_map]
  refine ⟨_, pc_crossbarlaw05_awake, fun h => by simp at h, fun _ => ⟨fun _ => trivial, fun hb => ?_⟩⟩
  refine ⟨_, pc_crossbarref05_Right h, _, _, pc_head_Write h ho, fun hr => ?_, fun hr => ?_⟩
  · simp only [v_bool, decide_eq_true_eq] at hr
    refine ⟨_, fun _ => pc_crossbarref05_Write h hr ho, _, fun _ => pc_head_Size h, fun hc => ?_, fun _ => ?_⟩
    · exfalso
      have e1 : hwB h = h.bytes := if_pos hr
      have e2 : hwE h = 0 := if_pos hr
      simp only [v_int, v_ls, e1, e2, bytesOf_ofBytes, ofBytes_length, Hd.bytes_length, hr, if_true] at hc
      simp at hc
    · refine ⟨_, _, _, pc_head_Read b (by omega), _, _, _, pc_crossbarref05_Read b (by omega), _, pc_head_Right h, _, fun _ => pc_crossbarref05_Same (hdH b) (hdH b) (by have := (hdH_ok b).2; omega), ?_⟩
      simp [hr]
  · simp only [v_bool, decide_eq_false_iff_not] at hr
    refine ⟨_, fun _ => pc_head_Size h, fun hc => ?_, fun _ => ?_⟩
    · exfalso
      have e1 : hwB h = [] := if_neg hr
      have e2 : hwE h = 1 := if_neg hr
      simp [e1, e2, hr] at hc
    · refine ⟨_, _, _, pc_head_Read b (by omega), _, _, _, pc_crossbarref05_Read b (by omega), _, pc_head_Right h, _, fun _ => pc_crossbarref05_Same (hdH b) (hdH b) (by have := (hdH_ok b).2; omega), ?_⟩
      simp [hr]
theorem law_HeadBack (cs : List C) (h : TyAll [HdSh, HdSh, Byt, U8] cs) : PC Try.prog f_crossbarlaw05_HeadBack ([HdSh, HdSh, Byt, U8].zip cs) [(.bool, .bool true)] := by
  obtain ⟨_, _, rfl, h1, _, _, rfl, h2, _, _, rfl, h3, _, _, rfl, h4, rfl⟩ := h
  obtain ⟨h, rfl, ho, hcl⟩ := ty_head h1
  obtain ⟨k, rfl, ko, kcl⟩ := ty_head h2
  obtain ⟨b, rfl⟩ := ty_bytes h3
  obtain ⟨n, rfl, hn⟩ := ty_u8 h4
  apply pcv_crossbarlaw05_HeadBack rfl
  simp only [vc_crossbarlaw05_HeadBack, VC.H_asrt, VC.H_cond, VC.H_ret, VC.H_call1, VC.H_call2, VC.H_call3, ev_var, ev_int, ev_bool, ev_nil, ev_nilS, ev_cons, ev_hd, ev_tl, ev_bin, ev_add, ev_mul, ev_eql, ev_neq, ev_lss, ev_leq, ev_gtr, ev_geq, ev_seql, ev_beq, ev_not, ev_ite, ev_conv, ev_len, ev_sub, ev_app, ev_toStr, ea_nil, ea_cons, env_zero, env_succ, env_cons, env_nil, List.map_cons, List.map_nil, List.zip_cons_cons, List.zip_nil_right, v_int, v_bool, v_str, v_ls, v_hd, v_tl, toBool_ite, bool_ite, pres_nil, pres_cons, orT, orF, andT, andF, notT, notF, nnE, decide_eq_true_eq, decide_eq_false_iff_not, forall_const, and_true, Int.not_lt, ofBytes_length, List.length_map]
  refine ⟨_, pc_crossbarlaw05_awake, fun h => by simp at h, fun _ => ⟨fun _ => trivial, fun hb => ?_⟩⟩
  refine ⟨_, _, pc_head_Write h ho, _, _, pc_head_Write k ko, fun hr => ?_, fun hr => ?_⟩
  · simp only [v_int] at hr
    have hr : h.right := by
      unfold hwE at hr
      split at hr
      · assumption
      · omega
    have e1 : hwB h = h.bytes := if_pos hr
    have e2 : hwE h = 0 := if_pos hr
    have hbk := Hd.back h hr ho b
    have hl := h.bytes_length
    have hr' := hr.2.2
    have e3 : hdH (h.bytes ++ b) = h := by rw [hdH, if_pos hbk.1]; exact hbk.2.1
    have e4 : hdN (h.bytes ++ b) = h.bytes.length := by rw [hdN, if_pos hbk.1, hbk.2.2, hl]
    rw [e1]
    simp only [v_ls, ofBytes_length, ofBytes_append]
    refine ⟨by omega, by omega, _, _, _, pc_head_Read (h.bytes ++ b) (by simp; omega), ?_⟩
    rw [e3, e4, hbk.1]
    simp only [v_int]
    refine ⟨_, fun _ => pc_crossbarref05_Same h h (by omega), _, fun _ => pc_crossbarref05_Same h k (by omega), fun hc => ?_, fun _ => ?_⟩
    · exfalso
      simp only [v_bool, bytesOf_ofBytes, decide_true] at hc
      rcases hc with (((hc | hc) | hc) | hc) | hc
      · exact hc rfl
      · exact hc rfl
      · omega
      · cases hc
      · obtain ⟨hk, hc⟩ := hc
        have kr : k.right := by
          unfold hwE at hk
          split at hk
          · assumption
          · omega
        have e5 : hwB k = k.bytes := if_pos kr
        apply hc
        rw [e5]
        by_cases e : h = k
        · simp [e]
        · have : h.bytes ≠ k.bytes := fun hx => e (Hd.inj hr ho kr ko hx)
          simp [e, this]
    · have e6 : IntKind.i64.wrap (n : Int) = (n : Int) := wrapi64_in (by omega)
      have e7 : arith .rem .i64 (n : Int) (h.bytes.length : Int) = ((n % h.bytes.length : Nat) : Int) := by
        rw [arith_rem _ _ _ (by omega)]
        omega
      have hlt : n % h.bytes.length < h.bytes.length := Nat.mod_lt _ (by omega)
      rw [e6, e7]
      generalize hm : n % h.bytes.length = m at hlt
      have e8 : C.ls (List.drop (Int.toNat 0) (List.take ((m : Nat) : Int).toNat (ofBytes h.bytes))) = B (h.bytes.take m) := by
        rw [Int.toNat_natCast, ofBytes_take]
        rfl
      have ec := Hd.cut h hr ho m hlt
      have e9 : hdH (h.bytes.take m) = Hd.zero := if_neg (by rw [ec]; decide)
      have e10 : hdN (h.bytes.take m) = 0 := if_neg (by rw [ec]; decide)
      rw [e8]
      refine ⟨by omega, by omega, by omega, _, _, _, pc_head_Read (h.bytes.take m) (by simp; omega), ?_⟩
      rw [e9, e10, ec]
      refine ⟨_, fun _ => pc_crossbarref05_Same Hd.zero Hd.zero (by decide), fun hc => ?_, fun _ => ?_⟩
      · exfalso
        simp at hc
      · refine ⟨_, _, _, pc_head_Read b (by omega), fun hg => ?_, fun hg => ?_⟩
        · simp only [v_int] at hg
          have z1 : hdH b = Hd.zero := if_neg hg
          have z2 : hdN b = 0 := if_neg hg
          rw [z1, z2]
          refine ⟨_, fun _ => pc_crossbarref05_Same Hd.zero Hd.zero (by decide), ?_⟩
          simp
        · simp only [v_int] at hg
          have hz := hdE_zero.1 hg
          have hsm := Hd.same b hg
          have z1 : hdH b = Hd.of b := if_pos hg
          have z2 : hdN b = 12 + 4 * (at_ b 0 % 16) := if_pos hg
          rw [z1, z2]
          refine ⟨_, _, pc_head_Write (Hd.of b) hsm.2.1, _, fun _ => pc_head_Right (Hd.of b), fun _ => by simp; omega, fun _ => by simp; omega, ?_⟩
          have w1 : hwB (Hd.of b) = (Hd.of b).bytes := if_pos hsm.1
          have w2 : hwE (Hd.of b) = 0 := if_pos hsm.1
          have w3 : (12 : Int) ≤ ((12 + 4 * (at_ b 0 % 16) : Nat) : Int) := by omega
          have w4 : ((12 + 4 * (at_ b 0 % 16) : Nat) : Int) ≤ (b.length : Int) := by omega
          have w5 : bytesOf (List.drop (Int.toNat 0) (List.take (((12 + 4 * (at_ b 0 % 16) : Nat) : Int)).toNat (ofBytes b))) = b.take (12 + 4 * (at_ b 0 % 16)) := by
            rw [Int.toNat_natCast, ofBytes_take]
            exact bytesOf_ofBytes _
          simp only [v_int, v_bool, v_ls, w1, w2, w5, bytesOf_ofBytes, hsm.2.2.2, hsm.1, decide_true, w3, w4, and_true, if_true]
  · refine ⟨_, _, _, pc_head_Read b (by omega), fun hg => ?_, fun hg => ?_⟩
    · simp only [v_int] at hg
      have z1 : hdH b = Hd.zero := if_neg hg
      have z2 : hdN b = 0 := if_neg hg
      rw [z1, z2]
      refine ⟨_, fun _ => pc_crossbarref05_Same Hd.zero Hd.zero (by decide), ?_⟩
      simp
    · simp only [v_int] at hg
      have hz := hdE_zero.1 hg
      have hsm := Hd.same b hg
      have z1 : hdH b = Hd.of b := if_pos hg
      have z2 : hdN b = 12 + 4 * (at_ b 0 % 16) := if_pos hg
      rw [z1, z2]
      refine ⟨_, _, pc_head_Write (Hd.of b) hsm.2.1, _, fun _ => pc_head_Right (Hd.of b), fun _ => by simp; omega, fun _ => by simp; omega, ?_⟩
      have w1 : hwB (Hd.of b) = (Hd.of b).bytes := if_pos hsm.1
      have w2 : hwE (Hd.of b) = 0 := if_pos hsm.1
      have w3 : (12 : Int) ≤ ((12 + 4 * (at_ b 0 % 16) : Nat) : Int) := by omega
      have w4 : ((12 + 4 * (at_ b 0 % 16) : Nat) : Int) ≤ (b.length : Int) := by omega
      have w5 : bytesOf (List.drop (Int.toNat 0) (List.take (((12 + 4 * (at_ b 0 % 16) : Nat) : Int)).toNat (ofBytes b))) = b.take (12 + 4 * (at_ b 0 % 16)) := by
        rw [Int.toNat_natCast, ofBytes_take]
        exact bytesOf_ofBytes _
      simp only [v_int, v_bool, v_ls, w1, w2, w5, bytesOf_ofBytes, hsm.2.2.2, hsm.1, decide_true, w3, w4, and_true, if_true]
end Go.Vc
