/-
  The contracts of digits of both, and of the law's own comparison.
-/
import Derived.Test.YtodhgafhllbojaaDoorQTh
set_option maxRecDepth 100000
namespace Go.Vc
open Go Go.Proofs Go.Plain
abbrev f_strings_IndexByte : FuncId := 87
theorem pc_IndexByte (s : List UInt8) (x : UInt8) : PC Tryd.prog f_strings_IndexByte [(.str, .str s), (U8, .int ((x.toNat : Nat) : Int))] [(I64, .int (Lib.indexByte s x))] := by
  refine PC.of0 (by decide) ⟨⟨_, Tryd.func87, by kernel_rfl, by kernel_rfl⟩, fun w N vs _ hrd => ?_⟩
  obtain ⟨v, r, rfl, ⟨us, hu, rfl⟩, v2, r2, rfl, ⟨us2, hu2, rfl⟩, hr⟩ := hrd
  simp only [RdVs] at hr
  subst hr
  simp only [Rd] at hu hu2
  subst hu hu2
  have hc := Tryd.strings_IndexByte ⟨s.toArray⟩ ((x.toNat : Nat) : Int) w
  have e : ((x.toNat : Nat) : Int).toNat.toUInt8 = x := by simp
  rw [e] at hc
  refine hc.mono fun e w' ⟨he, hb⟩ => ⟨_, he, ⟨[.int .i64 (Lib.indexByte s x)], ⟨_, _, rfl, ⟨_, rfl, rfl⟩, rfl⟩, ?_⟩, ?_⟩
  · simp
  · rw [hb]
    exact ⟨rfl, rfl, rfl, Nat.le_refl _, fun _ _ => rfl⟩
def digV (x : UInt8) : Int := if hexv x < 16 then (hexv x : Int) else -1
theorem digV_eq : ∀ n : Fin 256, Lib.indexByte [48, 49, 50, 51, 52, 53, 54, 55, 56, 57, 97, 98, 99, 100, 101, 102] (UInt8.ofNat n.1) = digV (UInt8.ofNat n.1) := by decide +kernel
theorem pc_text_digit (x : UInt8) : PC Tryd.prog f_text_digit [(U8, .int ((x.toNat : Nat) : Int))] [(I64, .int (digV x))] := by
  apply pcv_text_digit rfl
  simp only [vc_text_digit, VC.H_ret, VC.H_call1, ev_var, ev_str, ea_nil, ea_cons, env_zero, env_succ, env_cons, env_nil, List.map_cons, List.map_nil, pres_nil, forall_const]
  refine ⟨_, pc_IndexByte _ x, ?_⟩
  have h := digV_eq ⟨x.toNat, x.toNat_lt⟩
  simp only [UInt8.ofNat_toNat] at h
  rw [h]
theorem pc_ref04_value (x : UInt8) : PC Tryd.prog f_crossbarref04_value [(U8, .int ((x.toNat : Nat) : Int))] [(U8, .int ((hexv x : Nat) : Int))] := by
  apply pcv_crossbarref04_value rfl
  simp only [vc_crossbarref04_value, VC.H_cond, VC.H_ret, ev_var, ev_int, ev_bool, ev_bin, ev_leq, ev_geq, ev_ite, ea_nil, ea_cons, env_zero, List.map_cons, List.map_nil, v_int, v_bool, bool_ite, andT, andF, decide_eq_true_eq, decide_eq_false_iff_not, Int.not_le, arith_add, arith_sub, wrapu8]
  have hx := x.toNat_lt
  unfold hexv
  refine ⟨fun h => ?_, fun h => ⟨fun h2 => ?_, fun h2 => ?_⟩⟩
  · rw [if_pos (show 48 ≤ x.toNat ∧ x.toNat ≤ 57 by omega)]
    congr 3
    omega
  · rw [if_neg (show ¬ (48 ≤ x.toNat ∧ x.toNat ≤ 57) by omega), if_pos (show 97 ≤ x.toNat ∧ x.toNat ≤ 102 by omega)]
    congr 3
    omega
  · rw [if_neg (show ¬ (48 ≤ x.toNat ∧ x.toNat ≤ 57) by omega), if_neg (show ¬ (97 ≤ x.toNat ∧ x.toNat ≤ 102) by omega)]
    rfl
end Go.Vc
