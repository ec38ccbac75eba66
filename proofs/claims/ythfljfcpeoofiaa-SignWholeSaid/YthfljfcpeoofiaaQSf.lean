/-
  The law of sign about which bytes say something.
-/
import Derived.Test.YthfljfcpeoofiaaQSd
set_option maxRecDepth 100000
namespace Go.Vc
open Go Go.Proofs Go.Plain
theorem ty_u8x {c : C} (h : Ty U8 c) : ∃ x : UInt8, c = .int (x.toNat : Nat) := by
  obtain ⟨n, rfl, hn⟩ := ty_nat rfl h
  have hn : n < 256 := hn
  refine ⟨UInt8.ofNat n, ?_⟩
  rw [UInt8.toNat_ofNat', Nat.mod_eq_of_lt (by simpa using hn)]
theorem law_SignWhole (cs : List C) (h : TyAll [U8, U8, U8, U8] cs) : PC Try.prog f_crossbarlaw09_SignWhole ([U8, U8, U8, U8].zip cs) [(.bool, .bool true)] := by
  obtain ⟨_, _, rfl, h1, _, _, rfl, h2, _, _, rfl, h3, _, _, rfl, h4, rfl⟩ := h
  obtain ⟨x, rfl⟩ := ty_u8x h1
  obtain ⟨y, rfl⟩ := ty_u8x h2
  obtain ⟨z, rfl⟩ := ty_u8x h3
  obtain ⟨n, rfl⟩ := ty_u8x h4
  have hx := UInt8.toNat_lt x
  have hy := UInt8.toNat_lt y
  have hz := UInt8.toNat_lt z
  have hn := UInt8.toNat_lt n
  apply pcv_crossbarlaw09_SignWhole rfl
  have e0 : IntKind.i64.wrap ((n.toNat : Nat) : Int) = ((n.toNat : Nat) : Int) := wrapi64_in (by omega)
  have e1 : arith .rem .i64 ((n.toNat : Nat) : Int) 9 = ((n.toNat % 9 : Nat) : Int) := by rw [arith_rem _ _ _ (by omega)]; omega
  simp only [vc_crossbarlaw09_SignWhole, VC.H_asrt, VC.H_cond, VC.H_ret, VC.H_call1, VC.H_call2, ev_var, ev_int, ev_bool, ev_nil, ev_cons, ev_hd, ev_tl, ev_bin, ev_mul, ev_neq, ev_leq, ev_geq, ev_not, ev_ite, ev_conv, ea_nil, ea_cons, env_zero, env_succ, env_cons, env_nil, List.map_cons, List.map_nil, List.zip_cons_cons, List.zip_nil_right, v_int, v_bool, v_ls, bool_ite, pres_nil, orT, orF, notT, notF, nnE, decide_eq_true_eq, decide_eq_false_iff_not, forall_const, e0, e1]
  have r1 := pc_sign_Read 4 [x] (by simp)
  have r2 := pc_sign_Read 6 [x] (by simp)
  have r3 := pc_sign_Read 3 [x, y, z] (by simp)
  have r4 := pc_sign_Read 5 [x, y] (by simp)
  have g1 : sgE 4 [x] = 0 := rd_1 (.inl rfl) _
  have g2 : sgE 6 [x] = 0 := rd_1 (.inr rfl) _
  have g3 : sgE 3 [x, y, z] = 0 := rd_n (by decide) (by decide) _
  have g4 : sgE 5 [x, y] = 0 := rd_n (by decide) (by decide) _
  rw [sgR_ok g1, g1] at r1
  rw [sgR_ok g2, g2] at r2
  rw [sgR_ok g3, g3] at r3
  rw [sgR_ok g4, g4] at r4
  refine ⟨_, pc_law09_awake, fun h => by simp at h, fun _ => ⟨_, _, r1, _, _, r2, _, _, r3, _, _, r4, fun hc => ?_, fun _ => ?_⟩⟩
  · exfalso
    simp only [SgC, v_int, v_hd, v_tl] at hc
    have b3 : be [x, y, z] = 65536 * x.toNat + 256 * y.toNat + z.toNat := by simp [be]; omega
    have b2 : be [x, y] = 256 * x.toNat + y.toNat := by simp [be]; omega
    have v3 : (sgV 3 [x, y, z]).num = be [x, y, z] := rfl
    have v4 : (sgV 5 [x, y]).num = be [x, y] := rfl
    have v1 : (sgV 4 [x]).num = x.toNat % 128 := rfl
    have v2 : (sgV 6 [x]).turns = ((x.toNat % 4 : Nat) : Int) := rfl
    obtain ⟨k1, _, k2, _⟩ := and_key ⟨x.toNat, hx⟩
    simp only at k1 k2
    have w32 : ∀ m : Nat, m < 4294967296 → IntKind.u32.wrap ((m : Nat) : Int) = ((m : Nat) : Int) := fun m hm => by rw [wrapu32]; omega
    have s16 : arith .shl .u32 ((x.toNat : Nat) : Int) 16 = ((65536 * x.toNat : Nat) : Int) := by
      rw [arith_shl, show (2 : Int) ^ (min (16 : Int).toNat IntKind.u32.bits) = 65536 from rfl, wrapu32]; omega
    have s8 : ∀ m : Nat, m < 256 → arith .shl .u32 ((m : Nat) : Int) 8 = ((256 * m : Nat) : Int) := fun m hm => by
      rw [arith_shl, show (2 : Int) ^ (min (8 : Int).toNat IntKind.u32.bits) = 256 from rfl, wrapu32]; omega
    have a1 : arith .and .u32 ((x.toNat : Nat) : Int) 127 = ((x.toNat % 128 : Nat) : Int) := by
      rw [← k1]; exact arith_andU (b := 127) rfl (Nat.lt_of_lt_of_le hx (by decide)) (by decide)
    have a2 : arith .and .i64 ((x.toNat : Nat) : Int) 3 = ((x.toNat % 4 : Nat) : Int) := by
      rw [← k2]; exact arith_andH (b := 3) (Nat.lt_of_lt_of_le hx (by decide)) (by decide)
    rw [v1, v2, v3, v4, b3, b2, w32 _ (by omega), w32 _ (by omega), w32 _ (by omega), s16, s8 _ hy, s8 _ hx, a1, wrapi64_in (by omega), a2, arith_add, arith_add, arith_add, wrapu32, wrapu32, wrapu32] at hc
    omega
  · refine ⟨by omega, by omega, by omega, ?_⟩
    refine VC.go_loop (fun j : Nat => [.bool false, .int ((3 + j : Nat) : Int)]) (fun j => j ≤ 4) (fun j => 4 - j) 0 rfl (Nat.zero_le _) fun j hj => ?_
    simp only [VC.H_asrt, VC.H_cond, VC.H_ret, VC.H_back, VC.H_call2, ev_var, ev_int, ev_bool, ev_nil, ev_cons, ev_bin, ev_add, ev_sub', ev_eql, ev_neq, ev_lss, ev_leq, ev_geq, ev_beq, ev_not, ev_ite, ev_conv, ev_idx, ev_rep, ev_fits64, ea_nil, ea_cons, env_zero, env_succ, env_cons, env_nil, List.map_cons, List.map_nil, v_int, v_bool, v_ls, bool_ite, pres_nil, orT, orF, andT, andF, notT, nnE, decide_eq_true_eq, decide_eq_false_iff_not, forall_const, Int.not_le, e0, e1]
    refine ⟨fun hc => ?_, fun hc => trivial⟩
    have rr := pc_sign_Read ((3 + j : Nat) : Int) (List.replicate (n.toNat % 9) 0) (by simp; omega)
    have hj' : j = 0 ∨ j = 1 ∨ j = 2 ∨ j = 3 := by omega
    have e : ∃ w : Nat, ([C.int 3, C.int 1, C.int 2, C.int 1].getD (((3 + j : Nat) : Int) - 3).toNat default).toInt = (w : Int) ∧ sgE ((3 + j : Nat) : Int) (List.replicate (n.toNat % 9) 0) = if n.toNat % 9 = w then 0 else 4 := by
      rcases hj' with rfl | rfl | rfl | rfl
      · exact ⟨3, rfl, by rw [rd_n (by decide) (by decide), List.length_replicate]; rfl⟩
      · exact ⟨1, rfl, by rw [rd_1 (by decide), List.length_replicate]⟩
      · exact ⟨2, rfl, by rw [rd_n (by decide) (by decide), List.length_replicate]; rfl⟩
      · exact ⟨1, rfl, by rw [rd_1 (by decide), List.length_replicate]⟩
    obtain ⟨w, w1, w2⟩ := e
    have hB : C.ls (List.replicate ((n.toNat % 9 : Nat) : Int).toNat (C.int 0)) = B (List.replicate (n.toNat % 9) 0) := by
      rw [Int.toNat_natCast]; simp [B, ofBytes]
    rw [w1, hB]
    rw [w2] at rr
    refine ⟨by omega, by omega, by omega, _, _, rr, fun h => ?_, fun h => ⟨by omega, j + 1, ?_, by omega, by omega⟩⟩
    · exfalso
      by_cases hw : n.toNat % 9 = w
      · rw [if_pos hw, hw] at h
        simp at h
      · have hw' : ¬ ((n.toNat % 9 : Nat) : Int) = (w : Int) := by omega
        rw [if_neg hw, decide_eq_false hw'] at h
        simp at h
    · congr 3
end Go.Vc
