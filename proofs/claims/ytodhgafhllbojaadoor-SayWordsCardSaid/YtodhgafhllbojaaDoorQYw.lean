/-
  The contracts of the reference's numerals, values, and pairs.
-/
import Derived.Test.YtodhgafhllbojaaDoorQYv
import Derived.Test.YtodhgafhllbojaaDoorQYs
set_option maxRecDepth 100000
namespace Go.Vc
open Go Go.Proofs Go.Plain
open Go.Lib (decDigits nDigits)
theorem dec_ne10 {n : Nat} : n / 10 = 0 ↔ n < 10 := by omega
theorem pc_ref30_num (n : Nat) (hn : n < 4294967296) : PC Tryd.prog f_crossbarref30_num [(.int .u64, .int (n : Nat))] [(.str, .str (decDigits n))] := by
  apply pcv_crossbarref30_num rfl
  simp only [vc_crossbarref30_num, List.map_cons, List.map_nil]
  have hl := (dec_len hn).2
  refine VC.go_loop (fun x : Nat × List UInt8 => [.int (x.1 : Nat), .str [], .str x.2]) (fun x => decDigits n = decDigits x.1 ++ x.2 ∧ x.1 ≤ n) (fun x => x.1) (n, []) rfl ⟨by simp, Nat.le_refl _⟩ fun x hi => ?_
  obtain ⟨m, acc⟩ := x
  obtain ⟨h1, h2⟩ := hi
  simp only at h1 h2
  have ha : acc.length ≤ 10 := by have := congrArg List.length h1; rw [List.length_append] at this; omega
  simp only [VC.H_asrt, VC.H_cond, VC.H_ret, VC.H_back, ev_var, ev_int, ev_nil, ev_cons, ev_bin, ev_add, ev_eql, ev_conv, ev_slen, ev_toStr, ev_cat, ev_fits64, ea_nil, ea_cons, env_zero, env_succ, env_cons, env_nil, List.map_cons, List.map_nil, v_int, v_bool, v_str, v_ls, pres_nil, decide_eq_true_eq, decide_eq_false_iff_not, forall_const, arith_add, arith_rem _ _ _ (show (0 : Int) ≤ (m : Int) by omega), arith_quo _ _ _ (show (0 : Int) ≤ (m : Int) by omega), wrapu8, wrapu64]
  have e0 : ((m : Int) % 10) % 256 = ((m % 10 : Nat) : Int) := by omega
  have e1 : (48 + ((m : Int) % 10) % 256) % 256 = ((48 + m % 10 : Nat) : Int) := by omega
  have e2 : bytesOf [C.int ((48 + m % 10 : Nat) : Int)] = [UInt8.ofNat (48 + m % 10)] := by
    simp only [bytesOf, List.map_cons, List.map_nil, C.toInt]
    congr 1
  have e3 : ((m : Int) / 10) % 18446744073709551616 = ((m / 10 : Nat) : Int) := by omega
  rw [e1, e2, e3]
  simp only [List.length_cons, List.length_nil]
  refine ⟨by omega, fun h => ?_, fun h => ?_⟩
  · have hm : m < 10 := by omega
    rw [h1, dec_small hm, show m % 10 = m by omega]
  · have hm : ¬ m < 10 := by omega
    refine ⟨(m / 10, UInt8.ofNat (48 + m % 10) :: acc), rfl, ⟨?_, by simp only; omega⟩, by simp only; omega⟩
    rw [h1, dec_big hm]
    simp
def valueR (w : List UInt8) : Nat × Bool := if w.length = 0 ∨ w.length > 10 then (0, false) else if w.all dig? then (valD w, decide (valD w < 4294967296)) else (0, false)
theorem all_take_snoc {w : List UInt8} {i : Nat} (hi : i < w.length) : (w.take (i + 1)).all dig? = ((w.take i).all dig? && dig? (w.getD i 0)) := by
  rw [show w.take (i + 1) = w.take i ++ [w[i]] from List.take_succ_eq_append_getElem hi, List.all_append]
  have e : w.getD i 0 = w[i] := by simp [List.getD, hi]
  rw [e]
  simp
theorem valD_take {w : List UInt8} {i : Nat} (hi : i < w.length) : valD (w.take (i + 1)) = 10 * valD (w.take i) + ((w.getD i 0).toNat - 48) := by
  rw [show w.take (i + 1) = w.take i ++ [w[i]] from List.take_succ_eq_append_getElem hi, valD_snoc]
  have e : w.getD i 0 = w[i] := by simp [List.getD, hi]
  rw [e]
theorem pow10_le (i : Nat) (h : i ≤ 10) : 10 ^ i ≤ 10000000000 := by
  have := Nat.pow_le_pow_right (show 1 ≤ 10 by decide) h
  simpa using this
theorem pc_ref30_Value (w : List UInt8) (hw : w.length ≤ 1000000) : PC Tryd.prog f_crossbarref30_Value [(.str, .str w)] [(.int .u64, .int ((valueR w).1 : Nat)), (.bool, .bool (valueR w).2)] := by
  apply pcv_crossbarref30_Value rfl
  simp only [vc_crossbarref30_Value, VC.H_cond, VC.H_ret, ev_var, ev_int, ev_bool, ev_eql, ev_gtr, ev_ite, ev_slen, ea_nil, ea_cons, env_zero, List.map_cons, List.map_nil, v_int, v_bool, v_str, bool_ite, orT, orF, decide_eq_true_eq, decide_eq_false_iff_not, Int.not_lt]
  refine ⟨fun h => ?_, fun h => ?_⟩
  · have h2 : w.length = 0 ∨ w.length > 10 := by omega
    unfold valueR
    rw [if_pos h2]
    rfl
  · have h2 : ¬ (w.length = 0 ∨ w.length > 10) := by omega
    refine VC.go_loop (fun i : Nat => [.int 0, .bool false, .int (valD (w.take i) : Nat), .int (i : Int)]) (fun i => i ≤ w.length ∧ (w.take i).all dig? = true ∧ valD (w.take i) < 10 ^ i) (fun i => w.length - i) 0 rfl ⟨Nat.zero_le _, by simp, by simp [valD]⟩ fun i hi => ?_
    obtain ⟨h3, h4, h5⟩ := hi
    have hp := pow10_le i (by omega)
    simp only [VC.H_asrt, VC.H_cond, VC.H_ret, VC.H_back, ev_var, ev_int, ev_bool, ev_bin, ev_add, ev_lss, ev_gtr, ev_geq, ev_ite, ev_conv, ev_slen, ev_sidx, ev_fits64, ea_nil, ea_cons, env_zero, env_succ, env_cons, env_nil, List.map_cons, List.map_nil, v_int, v_bool, v_str, bool_ite, pres_nil, pres_cons, orT, orF, decide_eq_true_eq, decide_eq_false_iff_not, forall_const, and_true, Int.not_lt, Int.toNat_natCast, arith_add, arith_sub, arith_mul, wrapu8, wrapu64]
    refine ⟨fun hc => ?_, fun hc => ?_⟩
    · have hk : i < w.length := by omega
      have hb := (w.getD i 0).toNat_lt
      refine ⟨by omega, by omega, fun _ => by omega, fun _ => by omega, fun hd => ?_, fun hd => ?_⟩
      · have hd2 : dig? (w.getD i 0) = false := by
          unfold dig?
          rw [decide_eq_false_iff_not]
          omega
        have hall : w.all dig? = false := by
          rw [← List.take_append_drop (i + 1) w, List.all_append, all_take_snoc hk, hd2]
          simp
        unfold valueR
        rw [if_neg h2, hall]
        rfl
      · have hd3 : 48 ≤ (w.getD i 0).toNat ∧ (w.getD i 0).toNat ≤ 57 := by
          omega
        refine ⟨by omega, by omega, by omega, i + 1, ?_, ⟨by omega, ?_, ?_⟩, by omega⟩
        · rw [valD_take hk]
          have e : (((10 * ((valD (w.take i) : Nat) : Int)) % 18446744073709551616) + ((((w.getD i 0).toNat : Int) - 48) % 256) % 18446744073709551616) % 18446744073709551616 = ((10 * valD (w.take i) + ((w.getD i 0).toNat - 48) : Nat) : Int) := by omega
          rw [e]
          rfl
        · rw [all_take_snoc hk, h4]
          unfold dig?
          rw [Bool.true_and, decide_eq_true_eq]
          exact hd3
        · rw [valD_take hk, Nat.pow_succ]
          omega
    · have hk : i = w.length := by omega
      subst hk
      rw [List.take_length] at h4 h5 ⊢
      unfold valueR
      rw [if_neg h2, h4]
      simp only [if_true]
      rw [show decide (((valD w : Nat) : Int) < 4294967296) = decide (valD w < 4294967296) from decide_eq_decide.2 (by omega)]
theorem valueR_lt (w : List UInt8) : (valueR w).1 < 10000000000 := by
  unfold valueR
  split
  · exact by decide
  · split
    · rename_i h1 h2
      have key : ∀ (l : List UInt8) (a k : Nat), l.all dig? = true → a < 10 ^ k → l.foldl (fun n x => 10 * n + (x.toNat - 48)) a < 10 ^ (k + l.length) := by
        intro l
        induction l with
        | nil => intro a k _ ha; exact ha
        | cons x l ih =>
          intro a k h ha
          rw [List.all_cons, Bool.and_eq_true] at h
          have h3 := of_decide_eq_true h.1
          rw [List.foldl_cons, List.length_cons, show k + (l.length + 1) = (k + 1) + l.length by omega]
          exact ih _ _ h.2 (by rw [Nat.pow_succ]; omega)
      have := key w 0 0 h2 (by simp)
      rw [Nat.zero_add] at this
      change valD w < _ at this
      have := pow10_le w.length (by omega)
      simp only
      omega
    · exact by decide
theorem pc_ref30_pair (a b : List UInt8) (ha : a.length ≤ 1000000) (hb : b.length ≤ 1000000) : PC Tryd.prog f_crossbarref30_pair [(.str, .str a), (.str, .str b)] [(ElSh, ElC ⟨((valueR a).1 : Nat), (unqL b).getD []⟩), (.bool, .bool ((valueR a).2 && (unqL b).isSome))] := by
  apply pcv_crossbarref30_pair rfl
  simp only [vc_crossbarref30_pair, VC.H_asrt, VC.H_ret, VC.H_call2, ev_var, ev_bool, ev_nil, ev_cons, ev_ite, ev_conv, ev_slen, ev_ofStr, ev_fits64, ea_nil, ea_cons, env_zero, env_succ, env_cons, env_nil, List.map_cons, List.map_nil, v_int, v_bool, v_ls, pres_nil, decide_eq_true_eq, forall_const, wrapi64]
  have hv := valueR_lt a
  have hu : ((unqL b).getD []).length ≤ 1000000 := by
    cases h : unqL b with
    | none => simp
    | some d =>
      have h2 := unqL_some.1 h
      have h3 : d.length ≤ (qs d).length := qs_ge d
      rw [h2] at h3
      simp only [Option.getD_some]
      omega
  refine ⟨_, _, pc_ref30_Value a ha, _, _, pc_ref04_Unquote b hb, ?_, ?_⟩
  · simp only [v_str]; omega
  simp only [v_str, v_int, v_bool]
  have e : ((((valueR a).1 : Nat) : Int) + 9223372036854775808) % 18446744073709551616 - 9223372036854775808 = (((valueR a).1 : Nat) : Int) := by omega
  rw [e]
  cases h1 : (valueR a).2 <;> cases h2 : (unqL b).isSome <;> simp <;> omega
end Go.Vc
