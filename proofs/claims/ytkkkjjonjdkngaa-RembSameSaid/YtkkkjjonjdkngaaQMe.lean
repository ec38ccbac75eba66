/-
  The contracts of remb's reference, each out of its condition; the laws' fixed answers.
-/
import Derived.Test.YtkkkjjonjdkngaaQMd
set_option maxRecDepth 100000
namespace Go.Vc
open Go Go.Proofs Go.Plain
theorem pc_crossbarref17_Write (r : Rm) (h : r.right) (ho : r.ok) : PC Try.prog f_crossbarref17_Write [(RmSh, RmC r)] [(Byt, B r.bytes)] := by
  apply pcv_crossbarref17_Write rfl
  simp only [vc_crossbarref17_Write, VC.H_asrt, VC.H_call1, ev_var, ev_int, ev_hd, ev_tl, ev_bin, ev_add, ev_mul, ev_leq, ev_conv, ev_len, ea_nil, ea_cons, env_zero, env_succ, env_cons, env_nil, List.map_cons, List.map_nil, v_int, v_bool, v_hd, v_tl, pres_nil, decide_eq_true_eq, forall_const]
  have hn := r.num_lt h
  obtain ⟨h1, h2, h3, h4⟩ := h
  obtain ⟨exp, mant, srcs⟩ := r
  simp only at h1 h2 h3 h4
  obtain ⟨e, rfl⟩ : ∃ e : Nat, exp = e := ⟨exp.toNat, by omega⟩
  have e1 : arith .add .u64 (arith .mul .u64 262144 (IntKind.u64.wrap ((e : Nat) : Int))) (IntKind.u64.wrap ((mant : Nat) : Int)) = ((e * 262144 + mant : Nat) : Int) := by
    rw [arith_add, arith_mul, wrapu64, wrapu64, wrapu64, wrapu64]
    omega
  have hone : [C.int 82, C.int 69, C.int 77, C.int 66, C.int (IntKind.u8.wrap ((srcs.length : Nat) : Int))] = ofBytes (rembB ++ [UInt8.ofNat srcs.length]) := by
    simp only [ofBytes, rembB, List.map_cons, List.map_nil, List.map_append, UInt8.toNat_ofNat', wrapu8]
    rfl
  rw [e1]
  refine ⟨_, pn_crossbarref01_Must (e * 262144 + mant) 3 (by show _ < 16777216; omega) (by omega) (by omega), ?_⟩
  simp only [v_ls, ofBytes_length, toBE_length]
  refine ⟨by omega, ?_⟩
  have l4 : rembB.length = 4 := rfl
  refine VC.go_loop (fun i : Nat => [B (rembB ++ (UInt8.ofNat srcs.length :: (toBE 3 (e * 262144 + mant) ++ words (srcs.take i)))), .int i]) (fun i => i ≤ srcs.length) (fun i => srcs.length - i) 0 ?_ (Nat.zero_le _) fun i hi => ?_
  · simp only [ev_var, ev_int, ev_nil, ev_cons, ev_hd, ev_tl, ev_conv, ev_len, ev_app, env_zero, env_succ, env_cons, env_nil, List.map_cons, List.map_nil, v_int, v_ls, v_hd, v_tl, List.length_map]
    have hn1 : C.int (IntKind.u8.wrap ((srcs.length : Nat) : Int)) = C.int ((UInt8.ofNat srcs.length).toNat : Nat) := by
      rw [UInt8.toNat_ofNat', wrapu8]
      rfl
    rw [hn1]
    simp [words, ofBytes, rembB]
  · simp only [VC.H_asrt, VC.H_cond, VC.H_ret, VC.H_back, VC.H_call1, ev_var, ev_int, ev_hd, ev_tl, ev_add, ev_mul, ev_lss, ev_leq, ev_geq, ev_conv, ev_len, ev_idx, ev_app, ev_fits64, ea_nil, ea_cons, env_zero, env_succ, env_cons, env_nil, List.map_cons, List.map_nil, v_int, v_bool, v_ls, v_hd, v_tl, pres_nil, decide_eq_true_eq, decide_eq_false_iff_not, forall_const, Int.not_lt, List.length_map, ofBytes_length]
    refine ⟨fun hc => ?_, fun hc => ?_⟩
    · have hmem := ho.2 _ (mem_getD (l := srcs) (i := i) (by omega))
      rw [Int.toNat_natCast, Ns_getD _ _ (by omega), v_int, u64_of _ hmem]
      refine ⟨by omega, by omega, _, pn_crossbarref01_Must (srcs.getD i 0) 4 (by show _ < 4294967296; omega) (by omega) (by omega), ?_⟩
      have hwl := words_length (srcs.take i)
      rw [List.length_take] at hwl
      refine ⟨by simp [l4, hwl]; omega, by omega, i + 1, ?_, by omega, by omega⟩
      rw [words_snoc _ _ (by omega)]
      simp [ofBytes]
    · have : i = srcs.length := by omega
      subst this
      rw [List.take_length]
      simp [Rm.bytes, Rm.num]
theorem remb_four (b : List UInt8) (h : 8 ≤ b.length) : b.take 4 = rembB ↔ (at_ b 0 = 82 ∧ at_ b 1 = 69 ∧ at_ b 2 = 77 ∧ at_ b 3 = 66) := by
  match b, h with
  | x :: y :: z :: w :: r, _ =>
    show [x, y, z, w] = [82, 69, 77, 66] ↔ (x.toNat = 82 ∧ y.toNat = 69 ∧ z.toNat = 77 ∧ w.toNat = 66)
    simp only [List.cons.injEq, and_true, ← UInt8.toNat_inj]
    exact Iff.rfl
theorem pc_crossbarref17_Read (b : List UInt8) (hb : b.length ≤ 140737488355328) : PC Try.prog f_crossbarref17_Read [(Byt, B b)] [(RmSh, RmC (rmR b)), (I64, .int (rmE b))] := by
  apply pcv_crossbarref17_Read rfl
  have i0 : Int.toNat 0 = 0 := rfl
  have i1 : Int.toNat 1 = 1 := rfl
  have i2 : Int.toNat 2 = 2 := rfl
  have i3 : Int.toNat 3 = 3 := rfl
  have i4 : Int.toNat 4 = 4 := rfl
  have l4 := at_lt b 4
  simp only [vc_crossbarref17_Read, VC.H_asrt, VC.H_cond, VC.H_ret, VC.H_call1, ev_var, ev_int, ev_bool, ev_nil, ev_nilS, ev_cons, ev_bin, ev_sub', ev_neq, ev_lss, ev_gtr, ev_ite, ev_conv, ev_len, ev_idx, ev_fits64, ea_nil, ea_cons, env_zero, env_cons, env_nil, List.map_cons, List.map_nil, v_int, v_bool, v_ls, bool_ite, pres_nil, pres_cons, orT, orF, nnE, decide_eq_true_eq, decide_eq_false_iff_not, forall_const, and_true, Int.not_lt, ofBytes_length, ofBytes_getD, i0, i1, i2, i3, i4, atD, w8i, mod4 _ (show b.length < 9223372036854775807 by omega)]
  refine ⟨fun h1 => ?_, fun h1 => ⟨fun h2 => ?_, fun h2 => ⟨by omega, fun _ => by omega, fun _ => by omega, fun _ => by omega, fun h3 => ?_, fun h3 => ⟨by omega, by omega, ?_⟩⟩⟩⟩
  · have e : rmE b = 4 := by unfold rmE; rw [if_pos (by omega)]
    rw [rm_bad e (by decide), e]
  · have e : rmE b = 2 := by unfold rmE; rw [if_neg (by omega), if_pos (by omega)]
    rw [rm_bad e (by decide), e]
  · have h4 : b.take 4 ≠ rembB := fun hc => by have := (remb_four b (by omega)).1 hc; omega
    have e : rmE b = 6 := by unfold rmE; rw [if_neg (by omega), if_neg (by omega), if_pos h4]
    rw [rm_bad e (by decide), e]
  · rw [quo4 _ (by omega) (by omega)]
    have h3 : b.take 4 = rembB := (remb_four b (by omega)).2 (by omega)
    refine ⟨fun h4 => ?_, fun h4 => ⟨by omega, fun h5 => ?_, fun h5 => ?_⟩⟩
    · have e : rmE b = 2 := by unfold rmE; rw [if_neg (by omega), if_neg (by omega), if_neg (by simp [h3]), if_pos (by omega)]
      rw [rm_bad e (by decide), e]
    · have e : rmE b = 4 := by unfold rmE; rw [if_neg (by omega), if_neg (by omega), if_neg (by simp [h3]), if_neg (by omega), if_pos (by omega)]
      rw [rm_bad e (by decide), e]
    · have hl : b.length = 8 + 4 * at_ b 4 := by omega
      have e : rmE b = 0 := by rw [rmE_zero]; exact ⟨by omega, by omega, h3, hl⟩
      have hn : num b 5 3 < 16777216 := num_lt b 5 3
      refine ⟨_, pc_crossbarref05_Num b 5 3 (by omega) (by omega) (by omega), ?_⟩
      have q1 : IntKind.i64.wrap (arith .quo .u32 ((num b 5 3 : Nat) : Int) 262144) = ((num b 5 3 / 262144 : Nat) : Int) := by
        rw [arith_quo _ _ _ (by omega), wrapu32, wrapi64_in (by omega)]
        omega
      have q2 : arith .rem .u32 ((num b 5 3 : Nat) : Int) 262144 = ((num b 5 3 % 262144 : Nat) : Int) := by
        rw [arith_rem _ _ _ (by omega)]
        omega
      refine VC.go_loop (fun s : Nat × Nat => [.int s.1, .int s.2]) (fun s => s.2 < 262144 ∧ s.1 ≤ 63 ∧ ∀ l, rmL s.1 s.2 l = rmL (num b 5 3 / 262144) (num b 5 3 % 262144) l) (fun s => s.1) (num b 5 3 / 262144, num b 5 3 % 262144) ?_ ⟨by omega, by omega, fun _ => rfl⟩ fun s hs => ?_
      · simp only [ev_var, ev_int, ev_bin, ev_conv, env_zero, env_succ, List.map_cons, List.map_nil, v_int]
        rw [q1, q2]
      · obtain ⟨x, m⟩ := s
        obtain ⟨s1, s2, s3⟩ := hs
        simp only at s1 s2 s3
        simp only [VC.H_asrt, VC.H_cond, VC.H_back, ev_var, ev_int, ev_bool, ev_bin, ev_sub', ev_lss, ev_gtr, ev_ite, ev_fits64, env_zero, env_succ, env_cons, env_nil, List.map_cons, List.map_nil, v_int, v_bool, bool_ite, pres_nil, andT, andF, decide_eq_true_eq, decide_eq_false_iff_not, forall_const, Int.not_lt]
        refine ⟨fun hc => ⟨by omega, (x - 1, 2 * m), ?_, ⟨by simp only; omega, by simp only; omega, fun l => ?_⟩, by simp only; omega⟩, fun hc => ?_⟩
        · have e1 : ((x : Nat) : Int) - 1 = ((x - 1 : Nat) : Int) := by omega
          have e2 : arith .mul .u32 2 ((m : Nat) : Int) = ((2 * m : Nat) : Int) := by
            rw [arith_mul, wrapu32]
            omega
          rw [e1, e2]
        · simp only
          rw [rmL_step x m l (by omega) (by omega)]
          exact s3 l
        · refine VC.go_loop (fun i : Nat => [.int i, Ns ((List.range i).map fun j => num b (8 + 4 * j) 4)]) (fun i => i ≤ at_ b 4) (fun i => at_ b 4 - i) 0 rfl (Nat.zero_le _) fun i hi => ?_
          simp only [VC.H_asrt, VC.H_cond, VC.H_ret, VC.H_back, VC.H_call1, ev_var, ev_int, ev_nil, ev_cons, ev_add, ev_mul, ev_lss, ev_leq, ev_conv, ev_len, ev_idx, ev_app, ev_fits64, ea_nil, ea_cons, env_zero, env_succ, env_cons, env_nil, List.map_cons, List.map_nil, v_int, v_bool, v_ls, pres_nil, decide_eq_true_eq, decide_eq_false_iff_not, forall_const, Int.not_lt, ofBytes_getD, i4, atD, w8i, List.length_map, List.length_range]
          refine ⟨fun hc => ?_, fun hc2 => ?_⟩
          · have ei : (8 : Int) + 4 * (i : Int) = ((8 + 4 * i : Nat) : Int) := by omega
            rw [ei]
            refine ⟨by omega, by omega, _, pc_crossbarref05_Num b (8 + 4 * i) 4 (by omega) (by omega) (by omega), ?_⟩
            refine ⟨by simp; omega, by omega, i + 1, ?_, by omega, by omega⟩
            rw [srcs_snoc]
            rfl
          · have hi2 : i = at_ b 4 := by omega
            subst hi2
            rw [rmR, if_pos e, e]
            have s4 := s3 ((List.range (at_ b 4)).map fun j => num b (8 + 4 * j) 4)
            rw [rmL_done x m _ (by omega) s1] at s4
            unfold Rm.of
            rw [← s4]
theorem pc_crossbarref17_Canon (b : List UInt8) (hb : b.length ≤ 140737488355328) : PC Try.prog f_crossbarref17_Canon [(Byt, B b)] [(.bool, .bool (decide (rmE b = 0 ∧ (Rm.of b).bytes = b)))] := by
  apply pcv_crossbarref17_Canon rfl
  simp only [vc_crossbarref17_Canon, VC.H_ret, VC.H_call1, VC.H_call2, ev_var, ev_int, ev_bool, ev_nil, ev_cons, ev_hd, ev_tl, ev_eql, ev_seql, ev_ite, ev_toStr, ea_nil, ea_cons, env_zero, env_succ, env_cons, env_nil, List.map_cons, List.map_nil, v_int, v_bool, v_str, v_ls, bool_ite, pres_nil, pres_cons, decide_eq_true_eq, forall_const, and_true]
  obtain ⟨hr, ho, _⟩ := Rm.of_right b
  refine ⟨_, _, pc_crossbarref17_Read b hb, ?_⟩
  by_cases h : rmE b = 0
  · have e1 : rmR b = Rm.of b := if_pos h
    rw [e1, h]
    refine ⟨_, fun _ => pc_crossbarref17_Write _ hr ho, ?_⟩
    simp [bytesOf_ofBytes]
  · refine ⟨.ls [], fun hc => absurd (by simpa using hc) h, ?_⟩
    simp [h]
theorem pc_crossbarref17_Of (v : Nat) (h : v < 18446744073709551616) : PC Try.prog f_crossbarref17_Of [(U64, .int v)] [(RmSh, RmC (rmOf v))] := by
  apply pcv_crossbarref17_Of rfl
  simp only [vc_crossbarref17_Of]
  have hb : bl v ≤ 64 := bl_le.2 h
  refine VC.go_loop (fun i : Nat => [.int ((v / 2 ^ i : Nat) : Int), .int i]) (fun i => i ≤ bl v - 18) (fun i => bl v - 18 - i) 0 ?_ (Nat.zero_le _) fun i hi => ?_
  · simp only [ev_var, ev_int, env_zero, List.map_cons, List.map_nil]
    simp
  · simp only [VC.H_asrt, VC.H_cond, VC.H_ret, VC.H_back, ev_var, ev_int, ev_nil, ev_nilS, ev_cons, ev_bin, ev_add, ev_geq, ev_conv, ev_fits64, ea_nil, ea_cons, env_zero, env_succ, env_cons, env_nil, List.map_cons, List.map_nil, v_int, v_bool, v_ls, pres_nil, decide_eq_true_eq, decide_eq_false_iff_not, forall_const, Int.not_le]
    have hbd := bl_div v i
    have hle : v / 2 ^ i ≤ v := Nat.div_le_self _ _
    refine ⟨fun hc => ?_, fun hc => ?_⟩
    · have h1 : ¬ bl (v / 2 ^ i) ≤ 18 := fun hk => by have : v / 2 ^ i < 262144 := bl_le.1 hk; omega
      refine ⟨by omega, i + 1, ?_, by omega, by omega⟩
      have e1 : arith .quo .u64 ((v / 2 ^ i : Nat) : Int) 2 = ((v / 2 ^ (i + 1) : Nat) : Int) := by
        rw [Nat.pow_succ, ← Nat.div_div_eq_div_mul]
        generalize v / 2 ^ i = q at hle
        rw [arith_quo _ _ _ (by omega), wrapu64]
        omega
      rw [e1]
      simp
    · have h1 : bl (v / 2 ^ i) ≤ 18 := bl_le.2 (show _ < 2 ^ 18 by omega)
      have hi2 : i = bl v - 18 := by omega
      subst hi2
      have e2 : IntKind.u32.wrap ((v / 2 ^ (bl v - 18) : Nat) : Int) = ((v / 2 ^ (bl v - 18) : Nat) : Int) := by
        rw [wrapu32]
        generalize v / 2 ^ (bl v - 18) = m at hc
        omega
      rw [e2]
      rfl
theorem pc_crossbarref17_Value (r : Rm) : PC Try.prog f_crossbarref17_Value [(RmSh, RmC r)] [(U64, .int (rmV r : Nat))] := by
  apply pcv_crossbarref17_Value rfl
  simp only [vc_crossbarref17_Value, VC.H_cond, VC.H_ret, VC.H_call1, ev_var, ev_int, ev_nil, ev_cons, ev_hd, ev_tl, ev_not, ea_nil, ea_cons, env_zero, env_succ, env_cons, env_nil, List.map_cons, List.map_nil, v_bool, v_ls, v_hd, v_tl, pres_nil, notT, notF, forall_const]
  refine ⟨_, pc_crossbarref17_Right r, fun h => ?_, fun h => ?_⟩
  · have h : ¬ r.right := by simpa using h
    rw [rmV, if_neg h]
    rfl
  · have h : r.right := by simpa using h
    rw [rmV, if_pos h]
    obtain ⟨h1, h2, h3, h4⟩ := h
    have hb : bl r.mant ≤ 18 := bl_le.2 (show _ < 2 ^ 18 from h2)
    obtain ⟨e, he⟩ : ∃ e : Nat, r.exp = e := ⟨r.exp.toNat, by omega⟩
    rw [he, Int.toNat_natCast]
    refine VC.go_loop (fun i : Nat => [.int 0, .int ((r.mant * 2 ^ i : Nat) : Int), .int i]) (fun i => i ≤ e ∧ (i = 0 ∨ r.mant * 2 ^ (i - 1) < 9223372036854775808)) (fun i => e - i) 0 ?_ ⟨Nat.zero_le _, .inl rfl⟩ fun i hi => ?_
    · simp only [ev_var, ev_int, ev_hd, ev_tl, ev_conv, env_zero, List.map_cons, List.map_nil, v_int, v_hd, v_tl]
      rw [u64_of _ (by omega)]
      simp
    · obtain ⟨i1, i2⟩ := hi
      simp only [VC.H_asrt, VC.H_cond, VC.H_ret, VC.H_back, ev_var, ev_int, ev_hd, ev_bin, ev_add, ev_lss, ev_geq, ev_fits64, ea_nil, ea_cons, env_zero, env_succ, env_cons, env_nil, List.map_cons, List.map_nil, v_int, v_bool, v_hd, pres_nil, decide_eq_true_eq, decide_eq_false_iff_not, forall_const, Int.not_lt, Int.not_le, he]
      have hlt : r.mant * 2 ^ i < 18446744073709551616 := by
        rcases i2 with rfl | i2
        · simp; omega
        · by_cases hi0 : i = 0
          · subst hi0; simp; omega
          · have : i = i - 1 + 1 := by omega
            rw [this, Nat.pow_succ, ← Nat.mul_assoc]
            omega
      refine ⟨fun hc => ⟨fun hc2 => ?_, fun hc2 => ⟨by omega, i + 1, ?_, ⟨by omega, .inr ?_⟩, by omega⟩⟩, fun hc => ?_⟩
      · have h0 : r.mant ≠ 0 := by intro hz; rw [hz] at hc2; simp at hc2
        have hbi := bl_mul h0 i
        have : ¬ bl (r.mant * 2 ^ i) ≤ 63 := fun hk => by have : r.mant * 2 ^ i < 9223372036854775808 := bl_le.1 hk; omega
        rw [if_pos (by omega)]
        rfl
      · have e1 : arith .mul .u64 2 ((r.mant * 2 ^ i : Nat) : Int) = ((r.mant * 2 ^ (i + 1) : Nat) : Int) := by
          rw [arith_mul, wrapu64, Nat.pow_succ, ← Nat.mul_assoc]
          generalize r.mant * 2 ^ i = q at hc2 hlt
          omega
        rw [e1]
        simp
      · have : i + 1 - 1 = i := by omega
        rw [this]
        omega
      · have hie : i = e := by omega
        subst hie
        rw [if_neg]
        by_cases h0 : r.mant = 0
        · rw [h0, bl_zero]; omega
        · have hbi := bl_mul h0 i
          have := (bl_le (n := r.mant * 2 ^ i) (k := 64)).2 hlt
          omega
theorem pc_crossbarref17_Same (a b : Rm) (ha : a.srcs.length ≤ 9223372036854775806) : PC Try.prog f_crossbarref17_Same [(RmSh, RmC a), (RmSh, RmC b)] [(.bool, .bool (decide (a = b)))] := by
  apply pcv_crossbarref17_Same rfl
  simp only [vc_crossbarref17_Same, VC.H_ret, VC.H_call1, ev_var, ev_bool, ev_hd, ev_tl, ev_eql, ev_ite, ea_nil, ea_cons, env_zero, env_succ, env_cons, env_nil, List.map_cons, List.map_nil, v_int, v_bool, v_hd, v_tl, bool_ite, pres_nil, pres_cons, andT, decide_eq_true_eq, and_true]
  refine ⟨_, fun _ => pc_crossbarref05_Numbers a.srcs b.srcs ha, ?_⟩
  obtain ⟨a1, a2, a3⟩ := a
  obtain ⟨b1, b2, b3⟩ := b
  by_cases h : a1 = b1 ∧ ((a2 : Nat) : Int) = ((b2 : Nat) : Int)
  · have h2 : a2 = b2 := by omega
    rw [if_pos h]
    simp [h.1, h2]
  · have hne : Rm.mk a1 a2 a3 ≠ Rm.mk b1 b2 b3 := by
      intro he
      injection he with g1 g2 g3
      exact h ⟨g1, by omega⟩
    rw [if_neg h]
    simp [hne]
theorem pc_crossbarlaw17_awake : PC Try.prog f_crossbarlaw17_awake [] [(.bool, .bool true)] := by
  apply pcv_crossbarlaw17_awake rfl
  let r1 : Rm := ⟨1, 131072, [9]⟩
  have h1 : r1.right := by decide
  have o1 : r1.ok := ⟨by decide, by simp [r1]⟩
  have e0 : rmOf 262145 = ⟨1, 131072, []⟩ := by decide +kernel
  have e1 : rmwB r1 = [82, 69, 77, 66, 1, 6, 0, 0, 0, 0, 0, 9] := by rw [rmwB, if_pos h1]; decide +kernel
  have e2 : rmwE r1 = 0 := if_pos h1
  have e3 : rmR [82, 69, 77, 66, 1, 6, 0, 0, 0, 0, 0, 9] = r1 := by decide +kernel
  have e4 : rmE [82, 69, 77, 66, 1, 6, 0, 0, 0, 0, 0, 9] = 0 := by decide +kernel
  have e5 : rmR [82, 69, 77, 66, 1, 13, 0, 0, 0, 0, 0, 9] = ⟨2, 131072, [9]⟩ := by decide +kernel
  have e6 : rmE [82, 69, 77, 66, 1, 13, 0, 0, 0, 0, 0, 9] = 0 := by decide +kernel
  simp only [vc_crossbarlaw17_awake, VC.H_asrt, VC.H_cond, VC.H_ret, VC.H_call1, VC.H_call2, ev_var, ev_int, ev_bool, ev_str, ev_nil, ev_cons, ev_hd, ev_tl, ev_add, ev_mul, ev_eql, ev_neq, ev_lss, ev_leq, ev_seql, ev_not, ev_ite, ev_len, ev_sub, ev_app, ev_set, ev_toStr, ea_nil, ea_cons, env_zero, env_succ, env_cons, env_nil, List.map_nil, v_int, v_bool, v_str, v_ls, toBool_ite, bool_ite, pres_nil, pres_cons, andT, notT, nnE, decide_eq_true_eq, decide_eq_false_iff_not, forall_const, and_true]
  refine ⟨_, pc_remb_Of 262145 (by decide), ?_⟩
  rw [e0]
  refine ⟨_, _, pc_remb_Write r1 o1, ?_⟩
  rw [e1, e2]
  refine ⟨_, _, pc_remb_Read [82, 69, 77, 66, 1, 6, 0, 0, 0, 0, 0, 9] (by decide), ?_⟩
  rw [e3, e4]
  refine ⟨fun h => by exact absurd h (by decide), fun _ => ⟨by decide, by decide, by decide, by decide, ?_⟩⟩
  refine ⟨_, _, pc_remb_Read [82, 69, 77, 66, 1, 13, 0, 0, 0, 0, 0, 9] (by decide), ?_⟩
  rw [e5, e6]
  refine ⟨fun _ => by decide, fun _ => by decide, _, fun _ => pc_crossbarref17_Same r1 r1 (by decide), _, fun _ => pc_remb_Value r1, _, fun _ => pc_remb_Canon [82, 69, 77, 66, 1, 6, 0, 0, 0, 0, 0, 9] (by decide), _, fun _ => pc_remb_Canon [82, 69, 77, 66, 1, 13, 0, 0, 0, 0, 0, 9] (by decide), _, fun _ => pc_remb_Right ⟨2, 131072, [9]⟩, ?_⟩
  kernel_rfl
end Go.Vc
