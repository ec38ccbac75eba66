/-
  The contracts of vp8's reading and writing, each out of its condition.
-/
import Derived.Test.YthfljfcpeoofiaaQVc8
set_option maxRecDepth 100000
namespace Go.Vc
open Go Go.Proofs Go.Plain
theorem dne (n k : Nat) (hk : 0 < k) : decide (((n % 2 * k : Nat) : Int) ≠ 0) = decide (n % 2 = 1) := by
  rw [Bool.eq_iff_iff]
  simp only [decide_eq_true_eq]
  have : n % 2 = 0 ∨ n % 2 = 1 := by omega
  rcases this with h | h <;> simp [h]
  omega
theorem dn1 (n : Nat) : decide (((n / 128 * 128 : Nat) : Int) ≠ 0) = decide (128 ≤ n) := by
  rw [Bool.eq_iff_iff]
  simp only [decide_eq_true_eq]
  omega
set_option maxHeartbeats 4000000 in
theorem pc_vp8_Read (b : List UInt8) (hb : b.length ≤ 140737488355328) : PC Try.prog f_vp8_Read [(Byt, B b)] [(V8Sh, V8C (v8D b)), (I64, .int (v8N b : Nat)), (I64, .int (v8E b))] := by
  apply pcv_vp8_Read rfl
  have i0 : Int.toNat 0 = 0 := rfl
  simp only [vc_vp8_Read, VC.H_asrt, VC.H_cond, VC.H_ret, VC.H_call2, ev_var, ev_int, ev_bool, ev_nil, ev_cons, ev_hd, ev_tl, ev_bin, ev_neq, ev_lss, ev_geq, ev_ite, ev_conv, ev_len, ev_idx, ea_nil, ea_cons, env_zero, env_succ, env_cons, env_nil, List.map_cons, List.map_nil, v_int, v_bool, v_ls, int_ite, pres_nil, pres_cons, nnE, decide_eq_true_eq, decide_eq_false_iff_not, forall_const, and_true, ofBytes_length, ofBytes_getD, i0, atD, a128, a32, a16, a7, n128, w8m, w8]
  refine ⟨_, _, pc_vp8_find b, fun h1 => ?_, fun h1 => ?_⟩
  · simp only [v_int] at h1
    rw [v8D, v8N, if_neg h1, if_neg h1]
    rfl
  · have h1 : v8E b = 0 := by simpa using h1
    obtain ⟨z1, z2⟩ := v8E_zero h1
    have hl := v8lev_eq b
    have hk := v8key_eq b
    have hf := v8fin_eq b
    have l2 := at_lt b 2
    have l3 := at_lt b 3
    have i1 : Int.toNat 1 = 1 := rfl
    have i2 : Int.toNat 2 = 2 := rfl
    rw [sp_ok h1, v8D, v8N, if_pos h1, if_pos h1, h1]
    have hle : v8lev b = 2 + (if v8P b = true then (if v8W b = true then 2 else 1) else 0) := rfl
    have hke : v8key b = v8lev b + (if v8L b = true then 1 else 0) := rfl
    have hfe : v8fin b = (if v8has b = true then v8key b + (if (v8T b || v8K b) = true then 1 else 0) else 1) := rfl
    have t32 : decide (at_ b 1 / 32 % 2 = 1) = v8T b := rfl
    have t16 : decide (at_ b 1 / 16 % 2 = 1) = v8K b := rfl
    have c32 : ((at_ b 1 / 32 % 2 * 32 : Nat) : Int) ≠ 0 ↔ v8T b = true := by rw [← t32, decide_eq_true_eq]; omega
    have c16 : ((at_ b 1 / 16 % 2 * 16 : Nat) : Int) ≠ 0 ↔ v8K b = true := by rw [← t16, decide_eq_true_eq]; omega
    have cW : ((at_ b 2 / 128 * 128 : Nat) : Int) ≠ 0 ↔ v8W b = true := by rw [show v8W b = decide (128 ≤ at_ b 2) from rfl, decide_eq_true_eq]; omega
    have dW : v8W b = false → at_ b 2 % 128 = at_ b 2 := fun h => by have := of_decide_eq_false h; omega
    cases h0 : v8has b with
    | false =>
      rw [h0] at hfe
      simp only [Bool.false_eq_true, if_false] at hfe
      have o0 := dne (at_ b 0 / 32) 32 (by decide)
      have o1 := dne (at_ b 0 / 16) 16 (by decide)
      simp only [ne_eq, decide_not] at o0 o1
      simp only [h0, hfe, v_hd, v_tl, v_int, Bool.false_and, Bool.false_eq_true, if_false, ne_eq, i0, Int.cast_ofNat_Int, not_true_eq_false, false_implies, true_implies, and_true, true_and, decide_not, o0, o1, V8.of]
      (repeat' apply And.intro) <;> first | omega | rfl
    | true =>
      rw [h0] at hfe
      cases hP : v8P b <;> cases hW : v8W b <;> cases hL : v8L b <;> cases hT : v8T b <;> cases hK : v8K b
      all_goals
        first
        | exact absurd (z2 h0 hL) (by rw [hP]; decide)
        | (simp only [hP, hW, hL, hT, hK, if_true, if_false, Bool.false_eq_true, Bool.or_false, Bool.or_true, Bool.or_self] at hle hke hfe
           rw [hle] at hke
           rw [hke] at hfe
           simp only [hle, hke, hfe, v_hd, v_tl, v_int, Bool.true_and, Bool.false_eq_true, if_true, if_false, Bool.or_false, Bool.or_true, Bool.or_self]
           have e32 := c32
           have e16 := c16
           have eW := cW
           have o0 := dne (at_ b 0 / 32) 32 (by decide)
           have o1 := dne (at_ b 0 / 16) 16 (by decide)
           have o2 := dne (at_ b 1 / 32) 32 (by decide)
           have o3 := dne (at_ b 1 / 16) 16 (by decide)
           rw [hT] at e32
           rw [hK] at e16
           rw [hW] at eW
           simp only [Bool.false_eq_true, iff_false, iff_true, ne_eq, Decidable.not_not, decide_not] at e32 e16 eW o0 o1 o2 o3
           simp only [i0, i1, i2, e32, e16, ne_eq, not_true_eq_false, not_false_eq_true, false_implies, true_implies, and_true, true_and, Int.reduceEq, decide_not]
           have o4 := dne (at_ b (v8key b) / 32) 32 (by decide)
           rw [hke] at o4
           simp only [ne_eq, decide_not, Nat.reduceAdd] at o4
           simp only [Nat.reduceAdd] at hle hke hfe
           simp only [Nat.reduceAdd, Int.cast_ofNat_Int, Int.reduceEq, Int.reduceLE, Int.reduceToNat, not_true_eq_false, not_false_eq_true, false_implies, true_implies, and_true, true_and, eW, decide_true, decide_false, if_true, if_false, o0, o1, o4, s6, a31, w8m, w8d, Bool.not_true, Bool.not_false, V8.of, h0, hP, hW, hL, hT, hK, hle, hke, Bool.true_and, Bool.false_and, Bool.and_true, Bool.or_true, Bool.or_false, Bool.or_self, Bool.and_self, Bool.and_false, Bool.false_eq_true]
           first
           | (rw [dW hW]
              (repeat' apply And.intro) <;> first | omega | rfl)
           | ((repeat' apply And.intro) <;> first | omega | rfl; done)
           | (have w2 : 128 ≤ at_ b 2 := of_decide_eq_true hW
              have g2 : getV b 2 2 = at_ b 2 * 256 + at_ b 3 := two_at b 2 (by omega)
              have e5 : (at_ b 2 * 256 + at_ b 3) % 32768 = (at_ b 2 - 128) * 256 + at_ b 3 := by omega
              refine ⟨by omega, by omega, by omega, by omega, by omega, _, _, pc_octet_Get b 2 2 (by omega), ?_⟩
              simp only [v_int, g2]
              rw [a15 _ (by omega), e5]
              all_goals ((repeat' apply And.intro) <;> first | omega | rfl)))
end Go.Vc
