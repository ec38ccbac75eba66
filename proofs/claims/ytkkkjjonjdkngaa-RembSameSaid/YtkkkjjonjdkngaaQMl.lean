/-
  The laws of remb: each function returns true, whatever it is handed.
-/
import Derived.Test.YtkkkjjonjdkngaaQVml
import Derived.Test.YtkkkjjonjdkngaaQMe
import Derived.Test.YtkkkjjonjdkngaaQBase3
set_option maxRecDepth 100000
namespace Go.Vc
open Go Go.Proofs Go.Plain
theorem ty_i64m {c : C} (h : Ty I64 c) : ∃ n : Int, c = .int n ∧ -9223372036854775808 ≤ n ∧ n ≤ 9223372036854775807 := ty_int h
theorem ty_u8m {c : C} (h : Ty U8 c) : ∃ n : Nat, c = .int n ∧ n < 256 := ty_nat rfl h
theorem ty_u32m {c : C} (h : Ty U32 c) : ∃ n : Nat, c = .int n ∧ n < 4294967296 := ty_nat rfl h
theorem ty_u64m {c : C} (h : Ty U64 c) : ∃ n : Nat, c = .int n ∧ n < 18446744073709551616 := ty_nat rfl h
theorem ty_rm {c : C} (h : Ty RmSh c) : ∃ r : Rm, c = RmC r ∧ r.ok := by
  obtain ⟨_, _, rfl, h1, _, _, e2, h2, _, _, e3, h3, e4⟩ := h
  obtain ⟨a, rfl, _⟩ := ty_i64m h1
  obtain ⟨m, rfl, hm⟩ := ty_u32m h2
  obtain ⟨l, rfl, _, hl⟩ := h3
  obtain ⟨bs, rfl, hbs⟩ := ty_list (e := fun n : Nat => C.int (n : Int)) (P := fun n => n < 4294967296) fun x hx => ty_u32m (hl x hx)
  simp only [Ty, C.ls.injEq] at e2 e3 e4
  subst e4 e3 e2
  exact ⟨⟨a, m, bs⟩, rfl, hm, hbs⟩
theorem rmR_len (b : List UInt8) : (rmR b).srcs.length ≤ 9223372036854775806 := by
  have := at_lt b 4
  unfold rmR
  split
  · rw [(Rm.of_right b).2.2]
    omega
  · decide
theorem law_RembRight (cs : List C) (h : TyAll [RmSh, Byt, U64] cs) : PC Try.prog f_crossbarlaw17_RembRight ([RmSh, Byt, U64].zip cs) [(.bool, .bool true)] := by
  obtain ⟨_, _, rfl, h1, _, _, rfl, h2, _, _, rfl, h3, rfl⟩ := h
  obtain ⟨r, rfl, ho⟩ := ty_rm h1
  obtain ⟨b, rfl⟩ := ty_bytes h2
  obtain ⟨v, rfl, hv⟩ := ty_u64m h3
  apply pcv_crossbarlaw17_RembRight rfl
  simp only [vc_crossbarlaw17_RembRight, VC.H_cond, VC.H_ret, VC.H_call1, VC.H_call2, ev_var, ev_int, ev_bool, ev_nil, ev_cons, ev_hd, ev_tl, ev_eql, ev_neq, ev_gtr, ev_sneq, ev_beq, ev_not, ev_ite, ev_len, ev_toStr, ea_nil, ea_cons, env_zero, env_succ, env_cons, env_nil, List.map_cons, List.map_nil, List.zip_cons_cons, List.zip_nil_right, v_int, v_bool, v_str, v_ls, v_hd, v_tl, toBool_ite, bool_ite, pres_nil, pres_cons, orT, orF, andT, notT, notF, nnE, decide_eq_true_eq, decide_eq_false_iff_not, forall_const, and_true, Int.not_lt, ofBytes_length, List.length_map]
  refine ⟨_, pc_crossbarlaw17_awake, fun h => by simp at h, fun _ => ⟨fun _ => trivial, fun hb => ?_⟩⟩
  refine ⟨_, pc_crossbarref17_Right r, _, _, pc_remb_Write r ho, fun hr => ?_, fun hr => ?_⟩
  · have hr : r.right := by simpa using hr
    have e1 : rmwB r = r.bytes := if_pos hr
    have e2 : rmwE r = 0 := if_pos hr
    refine ⟨_, fun _ => pc_crossbarref17_Write r hr ho, fun hc => ?_, fun _ => ?_⟩
    · exfalso
      simp [e1, e2] at hc
    · refine ⟨_, _, pc_remb_Read b (by omega), _, _, pc_crossbarref17_Read b (by omega), _, pc_remb_Right r, _, fun _ => pc_crossbarref17_Same (rmR b) (rmR b) (rmR_len b), _, fun _ => pc_remb_Canon b (by omega), _, fun _ => pc_crossbarref17_Canon b (by omega), _, fun _ => pc_remb_Of v hv, _, fun _ => pc_crossbarref17_Of v hv, _, fun _ => pc_crossbarref17_Same (rmOf v) (rmOf v) (by simp [rmOf]), _, fun _ => pc_remb_Value r, _, fun _ => pc_crossbarref17_Value r, ?_⟩
      simp
  · have hr : ¬ r.right := by simpa using hr
    have e1 : rmwB r = [] := if_neg hr
    have e2 : rmwE r = 1 := if_neg hr
    refine ⟨fun hc => ?_, fun _ => ?_⟩
    · exfalso
      simp [e1, e2] at hc
    · refine ⟨_, _, pc_remb_Read b (by omega), _, _, pc_crossbarref17_Read b (by omega), _, pc_remb_Right r, _, fun _ => pc_crossbarref17_Same (rmR b) (rmR b) (rmR_len b), _, fun _ => pc_remb_Canon b (by omega), _, fun _ => pc_crossbarref17_Canon b (by omega), _, fun _ => pc_remb_Of v hv, _, fun _ => pc_crossbarref17_Of v hv, _, fun _ => pc_crossbarref17_Same (rmOf v) (rmOf v) (by simp [rmOf]), _, fun _ => pc_remb_Value r, _, fun _ => pc_crossbarref17_Value r, ?_⟩
      simp
theorem law_RembBack (cs : List C) (h : TyAll [RmSh, RmSh, Byt] cs) : PC Try.prog f_crossbarlaw17_RembBack ([RmSh, RmSh, Byt].zip cs) [(.bool, .bool true)] := by
  obtain ⟨_, _, rfl, h1, _, _, rfl, h2, _, _, rfl, h3, rfl⟩ := h
  obtain ⟨r, rfl, ro⟩ := ty_rm h1
  obtain ⟨s, rfl, so⟩ := ty_rm h2
  obtain ⟨b, rfl⟩ := ty_bytes h3
  apply pcv_crossbarlaw17_RembBack rfl
  simp only [vc_crossbarlaw17_RembBack, VC.H_cond, VC.H_ret, VC.H_call1, VC.H_call2, ev_var, ev_int, ev_bool, ev_nil, ev_nilS, ev_cons, ev_hd, ev_tl, ev_eql, ev_neq, ev_gtr, ev_seql, ev_beq, ev_not, ev_ite, ev_len, ev_toStr, ea_nil, ea_cons, env_zero, env_succ, env_cons, env_nil, List.map_cons, List.map_nil, List.zip_cons_cons, List.zip_nil_right, v_int, v_bool, v_str, v_ls, v_hd, v_tl, toBool_ite, bool_ite, pres_nil, pres_cons, orT, orF, andT, andF, notT, notF, nnE, decide_eq_true_eq, decide_eq_false_iff_not, forall_const, and_true, Int.not_lt, ofBytes_length, List.length_map]
  refine ⟨_, pc_crossbarlaw17_awake, fun h => by simp at h, fun _ => ⟨fun _ => trivial, fun hb => ?_⟩⟩
  refine ⟨_, _, pc_remb_Write r ro, _, _, pc_remb_Write s so, fun he => ?_, fun he => ?_⟩
  · have hr : r.right := by
      by_cases h : r.right
      · exact h
      · simp [rmwE, h] at he
    have e1 : rmwB r = r.bytes := if_pos hr
    have hl := r.bytes_length
    obtain ⟨k1, k2⟩ := Rm.back r hr ro
    have e3 : rmR r.bytes = r := by rw [rmR, if_pos k1]; exact k2
    rw [e1]
    refine ⟨_, _, pc_remb_Read r.bytes (by have := hr.2.2.2; omega), ?_⟩
    rw [e3, k1]
    refine ⟨_, fun _ => pc_crossbarref17_Same r r (by have := hr.2.2.2; omega), _, fun _ => pc_remb_Canon r.bytes (by have := hr.2.2.2; omega), _, fun _ => pc_crossbarref17_Same r s (by have := hr.2.2.2; omega), fun hc => ?_, fun _ => ?_⟩
    · exfalso
      rcases hc with hc | hc
      · simp [k1, k2] at hc
      · obtain ⟨hs, hc⟩ := hc
        have hs : s.right := by
          by_cases h : s.right
          · exact h
          · simp [rmwE, h] at hs
        have e5 : rmwB s = s.bytes := if_pos hs
        rw [e5] at hc
        simp only [v_ls, v_bool, bytesOf_ofBytes] at hc
        by_cases hrs : r = s
        · subst hrs
          simp at hc
        · have hne : r.bytes ≠ s.bytes := fun h => by
            have := (Rm.back s hs so).2
            rw [← h, k2] at this
            exact hrs this
          simp [hrs, hne] at hc
    · refine ⟨_, _, pc_remb_Read b (by omega), fun hz => ?_, fun hz => ?_⟩
      · have hz : ¬ rmE b = 0 := by simpa using hz
        have e1 : rmR b = Rm.zero := if_neg hz
        rw [e1]
        refine ⟨_, pc_crossbarref17_Same Rm.zero Rm.zero (by decide), _, fun _ => pc_remb_Canon b (by omega), ?_⟩
        simp [hz]
      · have hz : rmE b = 0 := by simpa using hz
        obtain ⟨qr, qo, ql⟩ := Rm.of_right b
        have qz := rmE_zero.1 hz
        have e1 : rmR b = Rm.of b := if_pos hz
        have e2 : rmwB (Rm.of b) = (Rm.of b).bytes := if_pos qr
        have e3 : rmwE (Rm.of b) = 0 := if_pos qr
        have e4 := (Rm.of b).bytes_length
        rw [e1]
        refine ⟨_, _, pc_remb_Write _ qo, _, fun _ => pc_remb_Right _, _, fun _ => pc_remb_Canon b (by omega), ?_⟩
        rw [e2, e3]
        have e5 : ((8 + 4 * at_ b 4 : Nat) : Int) = ((b.length : Nat) : Int) := by omega
        simp only [v_ls, ofBytes_length, e4, ql, e5]
        simp [qr, hz, bytesOf_ofBytes]
  · refine ⟨_, _, pc_remb_Read b (by omega), fun hz => ?_, fun hz => ?_⟩
    · have hz : ¬ rmE b = 0 := by simpa using hz
      have e1 : rmR b = Rm.zero := if_neg hz
      rw [e1]
      refine ⟨_, pc_crossbarref17_Same Rm.zero Rm.zero (by decide), _, fun _ => pc_remb_Canon b (by omega), ?_⟩
      simp [hz]
    · have hz : rmE b = 0 := by simpa using hz
      obtain ⟨qr, qo, ql⟩ := Rm.of_right b
      have qz := rmE_zero.1 hz
      have e1 : rmR b = Rm.of b := if_pos hz
      have e2 : rmwB (Rm.of b) = (Rm.of b).bytes := if_pos qr
      have e3 : rmwE (Rm.of b) = 0 := if_pos qr
      have e4 := (Rm.of b).bytes_length
      rw [e1]
      refine ⟨_, _, pc_remb_Write _ qo, _, fun _ => pc_remb_Right _, _, fun _ => pc_remb_Canon b (by omega), ?_⟩
      rw [e2, e3]
      have e5 : ((8 + 4 * at_ b 4 : Nat) : Int) = ((b.length : Nat) : Int) := by omega
      simp only [v_ls, ofBytes_length, e4, ql, e5]
      simp [qr, hz, bytesOf_ofBytes]
theorem law_RembLeast (cs : List C) (h : TyAll [U64, U64, U8, U32] cs) : PC Try.prog f_crossbarlaw17_RembLeast ([U64, U64, U8, U32].zip cs) [(.bool, .bool true)] := by
  obtain ⟨_, _, rfl, h1, _, _, rfl, h2, _, _, rfl, h3, _, _, rfl, h4, rfl⟩ := h
  obtain ⟨v, rfl, hv⟩ := ty_u64m h1
  obtain ⟨w, rfl, hw⟩ := ty_u64m h2
  obtain ⟨e, rfl, he⟩ := ty_u8m h3
  obtain ⟨m, rfl, hm⟩ := ty_u32m h4
  apply pcv_crossbarlaw17_RembLeast rfl
  simp only [vc_crossbarlaw17_RembLeast, VC.H_cond, VC.H_ret, VC.H_call1, ev_var, ev_int, ev_bool, ev_nil, ev_nilS, ev_cons, ev_hd, ev_tl, ev_bin, ev_eql, ev_neq, ev_lss, ev_leq, ev_gtr, ev_geq, ev_not, ev_ite, ev_conv, ev_len, ea_nil, ea_cons, env_zero, env_succ, env_cons, env_nil, List.map_cons, List.map_nil, List.zip_cons_cons, List.zip_nil_right, v_int, v_bool, v_ls, bool_ite, pres_nil, orT, orF, andT, andF, notT, notF, nnE, decide_eq_true_eq, decide_eq_false_iff_not, forall_const, Int.not_lt, Int.not_le]
  obtain ⟨l1, l2, l3⟩ := rm_least v hv
  have hr := rmOf_right v hv
  refine ⟨_, pc_crossbarlaw17_awake, fun h => by simp at h, fun _ => ?_⟩
  refine ⟨_, pc_remb_Of v hv, _, pc_remb_Value (rmOf v), _, pc_remb_Right (rmOf v), fun hc => ?_, fun _ => ?_⟩
  · exfalso
    have e1 : arith .sub .u64 ((v : Nat) : Int) ((rmV (rmOf v) : Nat) : Int) = ((v - rmV (rmOf v) : Nat) : Int) := by
      rw [arith_sub, wrapu64]
      omega
    have e2 : arith .shr .u64 ((v : Nat) : Int) 17 = ((v / 2 ^ 17 : Nat) : Int) := shrN .u64 v 17 (by decide)
    simp only [v_hd, v_tl, v_int, v_bool, v_ls, e1, e2] at hc
    rcases hc with (((hc | hc) | hc) | hc) | hc
    · simp [hr] at hc
    · simp [rmOf] at hc
    · omega
    · have : v / 2 ^ 17 = v / 131072 := rfl
      omega
    · have := l3 (by omega)
      omega
  · refine ⟨_, pc_remb_Of w hw, _, pc_remb_Value (rmOf w), fun hc => ?_, fun _ => ?_⟩
    · exfalso
      simp only [v_int] at hc
      rcases hc with hc | hc
      · have := rm_mono hw (v := v) (by omega)
        omega
      · have := rm_mono hv (v := w) (by omega)
        omega
    · have e1 : arith .rem .i64 (IntKind.i64.wrap ((e : Nat) : Int)) 64 = ((e % 64 : Nat) : Int) := by
        rw [wrapi64_in (by omega), arith_rem _ _ _ (by omega)]
        omega
      have e2 : arith .rem .u32 ((m : Nat) : Int) 262144 = ((m % 262144 : Nat) : Int) := by
        rw [arith_rem _ _ _ (by omega)]
        omega
      rw [e1, e2]
      refine ⟨_, pc_remb_Right ⟨((e % 64 : Nat) : Int), m % 262144, []⟩, fun hs => ?_, fun hs => ?_⟩
      · have hs : ¬ Rm.right ⟨((e % 64 : Nat) : Int), m % 262144, []⟩ := by simpa using hs
        refine ⟨_, pc_remb_Value ⟨((e % 64 : Nat) : Int), m % 262144, []⟩, ?_⟩
        rw [rmV, if_neg hs]
        rfl
      · have hs : Rm.right ⟨((e % 64 : Nat) : Int), m % 262144, []⟩ := by simpa using hs
        refine ⟨_, pc_remb_Value ⟨((e % 64 : Nat) : Int), m % 262144, []⟩, fun h46 => ?_, fun h46 => ?_⟩
        · obtain ⟨k1, k2⟩ := rm_of_value _ hs (by simp only; omega) rfl
          refine ⟨_, pc_remb_Of _ k2, _, pc_crossbarref17_Same _ ⟨((e % 64 : Nat) : Int), m % 262144, []⟩ (by simp [rmOf]), ?_⟩
          rw [k1]
          simp
        · rw [rm_big _ hs (by simp only; omega)]
          rfl
theorem law_RembSame (cs : List C) (h : TyAll [U8, U32] cs) : PC Try.prog f_crossbarlaw17_RembSame ([U8, U32].zip cs) [(.bool, .bool true)] := by
  obtain ⟨_, _, rfl, h3, _, _, rfl, h4, rfl⟩ := h
  obtain ⟨x, rfl, hx⟩ := ty_u8m h3
  obtain ⟨y, rfl, hy⟩ := ty_u32m h4
  apply pcv_crossbarlaw17_RembSame rfl
  simp only [vc_crossbarlaw17_RembSame, VC.H_asrt, VC.H_cond, VC.H_ret, VC.H_call1, VC.H_call2, ev_var, ev_int, ev_bool, ev_nil, ev_cons, ev_hd, ev_tl, ev_bin, ev_eql, ev_leq, ev_geq, ev_not, ev_ite, ev_conv, ea_nil, ea_cons, env_zero, env_succ, env_cons, env_nil, List.map_cons, List.map_nil, List.zip_cons_cons, List.zip_nil_right, v_int, v_bool, v_ls, bool_ite, pres_nil, pres_cons, andT, notT, notF, decide_eq_true_eq, forall_const, and_true]
  refine ⟨_, pc_crossbarlaw17_awake, fun h => by simp at h, fun _ => ?_⟩
  have e1 : arith .rem .i64 (IntKind.i64.wrap ((x : Nat) : Int)) 46 = ((x % 46 : Nat) : Int) := by
    rw [wrapi64_in (by omega), arith_rem _ _ _ (by omega)]
    omega
  have e2 : arith .rem .u32 ((y : Nat) : Int) 262144 = ((y % 262144 : Nat) : Int) := by
    rw [arith_rem _ _ _ (by omega)]
    omega
  rw [e1, e2]
  generalize hE : x % 46 = e
  generalize hM : y % 262144 = m
  have he : e ≤ 45 := by omega
  have hm : m < 262144 := by omega
  have w1 : IntKind.u64.wrap ((e : Nat) : Int) = ((e : Nat) : Int) := by rw [wrapu64]; omega
  have w2 : IntKind.u64.wrap ((m : Nat) : Int) = ((m : Nat) : Int) := by rw [wrapu64]; omega
  have w3 : arith .shl .u64 ((e : Nat) : Int) 18 = ((e * 262144 : Nat) : Int) := by
    rw [arith_shl, wrapu64]
    simp [IntKind.bits]
    omega
  have w4 : arith .add .u64 ((e * 262144 : Nat) : Int) ((m : Nat) : Int) = ((e * 262144 + m : Nat) : Int) := by
    rw [arith_add, wrapu64]
    omega
  have s16 : arith .shr .u64 ((e * 262144 + m : Nat) : Int) 16 = (((e * 262144 + m) / 2 ^ 16 : Nat) : Int) := shrN .u64 _ 16 (by decide)
  have s8 : arith .shr .u64 ((e * 262144 + m : Nat) : Int) 8 = (((e * 262144 + m) / 2 ^ 8 : Nat) : Int) := shrN .u64 _ 8 (by decide)
  rw [w1, w2, w3, w4, s16, s8]
  generalize hn : e * 262144 + m = n
  have hn24 : n < 16777216 := by omega
  have one : ∀ k : Nat, C.int (IntKind.u8.wrap ((k : Nat) : Int)) = C.int ((UInt8.ofNat k).toNat : Nat) := by
    intro k
    rw [UInt8.toNat_ofNat', wrapu8]
    rfl
  have hbytes : C.ls [C.int 82, C.int 69, C.int 77, C.int 66, C.int 0, C.int (IntKind.u8.wrap ((n / 2 ^ 16 : Nat) : Int)), C.int (IntKind.u8.wrap ((n / 2 ^ 8 : Nat) : Int)), C.int (IntKind.u8.wrap ((n : Nat) : Int))] = B (rembB ++ (0 :: toBE 3 n)) := by
    rw [one, one, one]
    have : toBE 3 n = [UInt8.ofNat (n / 2 ^ 16), UInt8.ofNat (n / 2 ^ 8), UInt8.ofNat n] := by
      simp only [toBE, List.nil_append, List.cons_append, Nat.div_div_eq_div_mul]
    rw [this]
    rfl
  rw [hbytes]
  have hl : (rembB ++ (0 :: toBE 3 n)).length = 8 := by simp [rembB]
  have h4 : at_ (rembB ++ (0 :: toBE 3 n)) 4 = 0 := rfl
  have hz : rmE (rembB ++ (0 :: toBE 3 n)) = 0 := by
    rw [rmE_zero, hl, h4]
    exact ⟨by omega, by omega, rfl, rfl⟩
  have hnum : num (rembB ++ (0 :: toBE 3 n)) 5 3 = n := by
    have := num_app (a := rembB ++ [0]) (b := toBE 3 n) (c := []) (n := 3) (toBE_length _ _)
    rw [be_toBE, Nat.mod_eq_of_lt (by omega)] at this
    have e : rembB ++ [0] ++ (toBE 3 n ++ []) = rembB ++ (0 :: toBE 3 n) := by simp
    rw [e] at this
    exact this
  have hR : rmR (rembB ++ (0 :: toBE 3 n)) = rmL e m [] := by
    rw [rmR, if_pos hz]
    unfold Rm.of
    rw [hnum, h4]
    have a1 : n / 262144 = e := by omega
    have a2 : n % 262144 = m := by omega
    rw [a1, a2]
    rfl
  obtain ⟨v1, v2, v3⟩ := rmV_L e m he hm
  have hsh : arith .shl .u64 ((m : Nat) : Int) ((e : Nat) : Int) = ((m * 2 ^ e : Nat) : Int) := by
    have e3 : min e (IntKind.bits .u64) = e := by simp only [IntKind.bits]; omega
    rw [arith_shl, Int.toNat_natCast, e3, wrapu64]
    have e4 : ((m : Nat) : Int) * 2 ^ e = ((m * 2 ^ e : Nat) : Int) := by simp
    have h0 : m * 2 ^ e < 18446744073709551616 := by
      have : m * 2 ^ e ≤ 262144 * 2 ^ 45 := Nat.mul_le_mul (by omega) (Nat.pow_le_pow_right (by decide) he)
      omega
    rw [e4]
    omega
  refine ⟨_, _, pc_remb_Read (rembB ++ (0 :: toBE 3 n)) (by omega), ?_⟩
  rw [hR, hz]
  refine ⟨_, fun _ => pc_remb_Value (rmL e m []), fun _ => by omega, ?_⟩
  rw [v1, hsh]
  simp only [v_hd, v_int]
  simp [v2, v3]
end Go.Vc
