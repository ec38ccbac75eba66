/-
  The contracts of the reference of text that go byte by byte, each out of its condition.
-/
import Derived.Test.YtodhgafhllbojaaDoorQVcs1
import Derived.Test.YtodhgafhllbojaaDoorQTc
set_option maxRecDepth 100000
namespace Go.Vc
open Go Go.Proofs Go.Plain
def inL (s : List UInt8) (p a b : Nat) : Bool := decide (p < s.length ∧ a ≤ (s.getD p 0).toNat ∧ (s.getD p 0).toNat ≤ b)
theorem pc_ref04_in (s : List UInt8) (p a b : Nat) (hs : s.length ≤ 1000000) : PC Tryd.prog f_crossbarref04_in [(.str, .str s), (I64, .int (p : Int)), (U8, .int (a : Int)), (U8, .int (b : Int))] [(.bool, .bool (inL s p a b))] := by
  apply pcv_crossbarref04_in rfl
  simp only [vc_crossbarref04_in, VC.H_asrt, VC.H_ret, ev_var, ev_int, ev_bool, ev_lss, ev_leq, ev_geq, ev_ite, ev_slen, ev_sidx, ea_nil, ea_cons, env_zero, env_succ, List.map_cons, List.map_nil, v_int, v_bool, v_str, bool_ite, pres_nil, pres_cons, andT, decide_eq_true_eq, and_true, Int.toNat_natCast]
  refine ⟨fun h => by omega, fun h => by omega, fun h => by omega, fun h => ?_, ?_⟩
  · omega
  · congr 3
    unfold inL
    rw [Bool.eq_iff_iff]
    simp only [iteB, decide_eq_true_eq, Bool.false_eq_true, and_false, or_false]
    omega
/-- The rune's bytes; none, if it is a stray one. -/
def runeN (l : List UInt8) : Nat := if stray l = true then 0 else rwid l
def rnN (n b0 b1 b2 b3 : Nat) : Nat := if (Lib.decodeN n b0 b1 b2 b3).1 = 65533 ∧ (Lib.decodeN n b0 b1 b2 b3).2 = 1 then 0 else (Lib.decodeN n b0 b1 b2 b3).2
theorem runeN_N (l : List UInt8) : runeN l = rnN l.length (l.getD 0 0).toNat (l.getD 1 0).toNat (l.getD 2 0).toNat (l.getD 3 0).toNat := by
  unfold runeN rnN stray rwid
  rw [Lib.decodeL_N]
  generalize Lib.decodeN l.length (l.getD 0 0).toNat (l.getD 1 0).toNat (l.getD 2 0).toNat (l.getD 3 0).toNat = x
  simp only [Bool.and_eq_true, decide_eq_true_eq]
theorem getD_drop (s : List UInt8) (p k : Nat) : (s.drop p).getD k 0 = s.getD (p + k) 0 := by simp [List.getD]
section
variable {n b0 b1 b2 b3 : Nat}
theorem rn_of {x : Nat × Nat} (e : Lib.decodeN n b0 b1 b2 b3 = x) : rnN n b0 b1 b2 b3 = if x.1 = 65533 ∧ x.2 = 1 then 0 else x.2 := by unfold rnN; rw [e]
theorem rn_bad (e : Lib.decodeN n b0 b1 b2 b3 = (65533, 1)) : rnN n b0 b1 b2 b3 = 0 := rn_of e
theorem rn1 (h : b0 < 128) : rnN n b0 b1 b2 b3 = 1 := by
  have e : Lib.decodeN n b0 b1 b2 b3 = (b0, 1) := by unfold Lib.decodeN; rw [if_pos h]
  rw [rn_of e, if_neg (show ¬ (b0 = 65533 ∧ 1 = 1) by omega)]
theorem rn2 (h : 194 ≤ b0 ∧ b0 ≤ 223) (k1 : b1 < 256) : rnN n b0 b1 b2 b3 = if 1 < n ∧ 128 ≤ b1 ∧ b1 ≤ 191 then 2 else 0 := by
  by_cases hc : 1 < n ∧ 128 ≤ b1 ∧ b1 ≤ 191
  · have e : Lib.decodeN n b0 b1 b2 b3 = (b0 % 32 * 64 + b1 % 64, 2) := by
      unfold Lib.decodeN
      rw [if_neg (by omega), if_pos (show b0 / 32 = 6 ∧ 1 < n ∧ b1 / 64 = 2 by omega), if_pos (by omega)]
    rw [rn_of e, if_pos hc, if_neg (show ¬ (_ ∧ 2 = 1) by omega)]
  · rw [if_neg hc]
    apply rn_bad
    unfold Lib.decodeN
    rw [if_neg (by omega), if_neg (show ¬ (b0 / 32 = 6 ∧ 1 < n ∧ b1 / 64 = 2) by omega), if_neg (by omega), if_neg (by omega)]
theorem rn3 (h : 224 ≤ b0 ∧ b0 ≤ 239) (k1 : b1 < 256) (k2 : b2 < 256) (lo hi : Nat) (hl : b0 = 224 ∧ lo = 160 ∨ b0 ≠ 224 ∧ lo = 128) (hh : b0 = 237 ∧ hi = 159 ∨ b0 ≠ 237 ∧ hi = 191) :
    rnN n b0 b1 b2 b3 = if (1 < n ∧ lo ≤ b1 ∧ b1 ≤ hi) ∧ (2 < n ∧ 128 ≤ b2 ∧ b2 ≤ 191) then 3 else 0 := by
  by_cases hc : (1 < n ∧ b1 / 64 = 2) ∧ 2 < n ∧ b2 / 64 = 2
  · by_cases hv : lo ≤ b1 ∧ b1 ≤ hi
    · have e : Lib.decodeN n b0 b1 b2 b3 = (b0 % 16 * 4096 + b1 % 64 * 64 + b2 % 64, 3) := by
        unfold Lib.decodeN
        rw [if_neg (by omega), if_neg (by omega), if_pos (show b0 / 16 = 14 ∧ (1 < n ∧ b1 / 64 = 2) ∧ 2 < n ∧ b2 / 64 = 2 by omega), if_pos (by omega)]
      rw [rn_of e, if_pos (show (1 < n ∧ lo ≤ b1 ∧ b1 ≤ hi) ∧ 2 < n ∧ 128 ≤ b2 ∧ b2 ≤ 191 by omega), if_neg (show ¬ (_ ∧ 3 = 1) by omega)]
    · rw [if_neg (show ¬ ((1 < n ∧ lo ≤ b1 ∧ b1 ≤ hi) ∧ 2 < n ∧ 128 ≤ b2 ∧ b2 ≤ 191) by omega)]
      apply rn_bad
      unfold Lib.decodeN
      rw [if_neg (by omega), if_neg (by omega), if_pos (show b0 / 16 = 14 ∧ (1 < n ∧ b1 / 64 = 2) ∧ 2 < n ∧ b2 / 64 = 2 by omega), if_neg (by omega)]
  · rw [if_neg (show ¬ ((1 < n ∧ lo ≤ b1 ∧ b1 ≤ hi) ∧ 2 < n ∧ 128 ≤ b2 ∧ b2 ≤ 191) by omega)]
    apply rn_bad
    unfold Lib.decodeN
    rw [if_neg (by omega), if_neg (by omega), if_neg (show ¬ (b0 / 16 = 14 ∧ (1 < n ∧ b1 / 64 = 2) ∧ 2 < n ∧ b2 / 64 = 2) by omega), if_neg (by omega)]
theorem rn4 (h : 240 ≤ b0 ∧ b0 ≤ 244) (k1 : b1 < 256) (k2 : b2 < 256) (k3 : b3 < 256) (lo hi : Nat) (hl : b0 = 240 ∧ lo = 144 ∨ b0 ≠ 240 ∧ lo = 128) (hh : b0 = 244 ∧ hi = 143 ∨ b0 ≠ 244 ∧ hi = 191) :
    rnN n b0 b1 b2 b3 = if (1 < n ∧ lo ≤ b1 ∧ b1 ≤ hi) ∧ (2 < n ∧ 128 ≤ b2 ∧ b2 ≤ 191) ∧ (3 < n ∧ 128 ≤ b3 ∧ b3 ≤ 191) then 4 else 0 := by
  by_cases hc : (1 < n ∧ b1 / 64 = 2) ∧ (2 < n ∧ b2 / 64 = 2) ∧ 3 < n ∧ b3 / 64 = 2
  · by_cases hv : lo ≤ b1 ∧ b1 ≤ hi
    · have e : Lib.decodeN n b0 b1 b2 b3 = (b0 % 8 * 262144 + b1 % 64 * 4096 + b2 % 64 * 64 + b3 % 64, 4) := by
        unfold Lib.decodeN
        rw [if_neg (by omega), if_neg (by omega), if_neg (by omega), if_pos (show b0 / 8 = 30 ∧ (1 < n ∧ b1 / 64 = 2) ∧ (2 < n ∧ b2 / 64 = 2) ∧ 3 < n ∧ b3 / 64 = 2 by omega), if_pos (by omega)]
      rw [rn_of e, if_pos (show (1 < n ∧ lo ≤ b1 ∧ b1 ≤ hi) ∧ (2 < n ∧ 128 ≤ b2 ∧ b2 ≤ 191) ∧ 3 < n ∧ 128 ≤ b3 ∧ b3 ≤ 191 by omega), if_neg (show ¬ (_ ∧ 4 = 1) by omega)]
    · rw [if_neg (show ¬ ((1 < n ∧ lo ≤ b1 ∧ b1 ≤ hi) ∧ (2 < n ∧ 128 ≤ b2 ∧ b2 ≤ 191) ∧ 3 < n ∧ 128 ≤ b3 ∧ b3 ≤ 191) by omega)]
      apply rn_bad
      unfold Lib.decodeN
      rw [if_neg (by omega), if_neg (by omega), if_neg (by omega), if_pos (show b0 / 8 = 30 ∧ (1 < n ∧ b1 / 64 = 2) ∧ (2 < n ∧ b2 / 64 = 2) ∧ 3 < n ∧ b3 / 64 = 2 by omega), if_neg (by omega)]
  · rw [if_neg (show ¬ ((1 < n ∧ lo ≤ b1 ∧ b1 ≤ hi) ∧ (2 < n ∧ 128 ≤ b2 ∧ b2 ≤ 191) ∧ 3 < n ∧ 128 ≤ b3 ∧ b3 ≤ 191) by omega)]
    apply rn_bad
    unfold Lib.decodeN
    rw [if_neg (by omega), if_neg (by omega), if_neg (by omega), if_neg (show ¬ (b0 / 8 = 30 ∧ (1 < n ∧ b1 / 64 = 2) ∧ (2 < n ∧ b2 / 64 = 2) ∧ 3 < n ∧ b3 / 64 = 2) by omega)]
theorem rn0 (h : 128 ≤ b0) (h2 : b0 < 194 ∨ 244 < b0) (k0 : b0 < 256) (k1 : b1 < 256) : rnN n b0 b1 b2 b3 = 0 := by
  apply rn_bad
  unfold Lib.decodeN
  rw [if_neg (by omega)]
  by_cases hc : b0 / 32 = 6 ∧ 1 < n ∧ b1 / 64 = 2
  · rw [if_pos hc, if_neg (by omega)]
  · rw [if_neg hc, if_neg (by omega)]
    by_cases hc : b0 / 8 = 30 ∧ (1 < n ∧ b1 / 64 = 2) ∧ (2 < n ∧ b2 / 64 = 2) ∧ 3 < n ∧ b3 / 64 = 2
    · rw [if_pos hc, if_neg (by omega)]
    · rw [if_neg hc]
end
theorem pc_ref04_Rune (s : List UInt8) (p : Nat) (h : p < s.length) (hs : s.length ≤ 1000000) : PC Tryd.prog f_crossbarref04_Rune [(.str, .str s), (I64, .int (p : Int))] [(I64, .int ((runeN (s.drop p) : Nat) : Int))] := by
  apply pcv_crossbarref04_Rune rfl
  simp only [vc_crossbarref04_Rune, VC.H_asrt, VC.H_cond, VC.H_ret, VC.H_call1, ev_var, ev_int, ev_bool, ev_add, ev_eql, ev_lss, ev_leq, ev_geq, ev_ite, ev_slen, ev_sidx, ev_fits64, ea_nil, ea_cons, env_zero, env_succ, env_cons, env_nil, List.map_cons, List.map_nil, v_int, v_bool, v_str, toBool_ite, bool_ite, pres_nil, pres_cons, andT, andF, decide_eq_true_eq, decide_eq_false_iff_not, forall_const, and_true, Int.not_lt, Int.not_le, Int.toNat_natCast]
  have k0 := (s.getD p 0).toNat_lt
  have k1 := (s.getD (p + 1) 0).toNat_lt
  have k2 := (s.getD (p + 2) 0).toNat_lt
  have k3 := (s.getD (p + 3) 0).toNat_lt
  have i1 : ∀ a b : Nat, PC Tryd.prog f_crossbarref04_in [(.str, .str s), (I64, .int ((p : Int) + 1)), (U8, .int (a : Int)), (U8, .int (b : Int))] [(.bool, .bool (inL s (p + 1) a b))] := fun a b => pc_ref04_in s (p + 1) a b hs
  have i2 : ∀ a b : Nat, PC Tryd.prog f_crossbarref04_in [(.str, .str s), (I64, .int ((p : Int) + 2)), (U8, .int (a : Int)), (U8, .int (b : Int))] [(.bool, .bool (inL s (p + 2) a b))] := fun a b => pc_ref04_in s (p + 2) a b hs
  have i3 : ∀ a b : Nat, PC Tryd.prog f_crossbarref04_in [(.str, .str s), (I64, .int ((p : Int) + 3)), (U8, .int (a : Int)), (U8, .int (b : Int))] [(.bool, .bool (inL s (p + 3) a b))] := fun a b => pc_ref04_in s (p + 3) a b hs
  have hn : (s.drop p).length = s.length - p := List.length_drop
  rw [runeN_N, hn, getD_drop, getD_drop, getD_drop, getD_drop, Nat.add_zero]
  have d1 : ∀ a b, inL s (p + 1) a b = decide (1 < s.length - p ∧ a ≤ (s.getD (p + 1) 0).toNat ∧ (s.getD (p + 1) 0).toNat ≤ b) := fun a b => by unfold inL; apply decide_eq_decide.2; omega
  have d2 : ∀ a b, inL s (p + 2) a b = decide (2 < s.length - p ∧ a ≤ (s.getD (p + 2) 0).toNat ∧ (s.getD (p + 2) 0).toNat ≤ b) := fun a b => by unfold inL; apply decide_eq_decide.2; omega
  have d3 : ∀ a b, inL s (p + 3) a b = decide (3 < s.length - p ∧ a ≤ (s.getD (p + 3) 0).toNat ∧ (s.getD (p + 3) 0).toNat ≤ b) := fun a b => by unfold inL; apply decide_eq_decide.2; omega
  refine ⟨by omega, by omega, fun h1 => ?_, fun h1 => ⟨fun h2 => ?_, fun h2 => ⟨fun h3 => ?_, fun h3 => ⟨fun h4 => ?_, fun h4 => ⟨fun h5 => ?_, fun h5 => ⟨fun h6 => ?_, fun h6 => ⟨fun h7 => ?_, fun h7 => ⟨fun h8 => ?_, fun h8 => ?_⟩⟩⟩⟩⟩⟩⟩⟩
  · rw [rn1 (by omega)]
    rfl
  · refine ⟨by omega, _, i1 128 191, fun hx => ?_, fun hx => ?_⟩
    · have hx : inL s (p + 1) 128 191 = true := hx
      rw [rn2 (by omega) k1, d1] at *
      rw [if_pos (of_decide_eq_true hx)]
      rfl
    · have hx : inL s (p + 1) 128 191 = false := hx
      rw [d1] at hx
      rw [rn2 (by omega) k1, if_neg (of_decide_eq_false hx)]
      rfl
  · refine ⟨by omega, _, i1 160 191, fun _ => by omega, _, fun _ => i2 128 191, fun hx => ?_, fun hx => ?_⟩
    · have hx : inL s (p + 1) 160 191 = true ∧ inL s (p + 2) 128 191 = true := hx
      rw [d1, d2, decide_eq_true_eq, decide_eq_true_eq] at hx
      rw [rn3 (by omega) k1 k2 160 191 (by omega) (by omega), if_pos hx]
      rfl
    · have hx : ¬ inL s (p + 1) 160 191 = true ∨ inL s (p + 2) 128 191 = false := hx
      rw [d1, d2, decide_eq_true_eq, decide_eq_false_iff_not] at hx
      rw [rn3 (by omega) k1 k2 160 191 (by omega) (by omega), if_neg (fun hc => hx.elim (fun k => k hc.1) (fun k => k hc.2))]
      rfl
  · refine ⟨by omega, _, i1 128 159, fun _ => by omega, _, fun _ => i2 128 191, fun hx => ?_, fun hx => ?_⟩
    · have hx : inL s (p + 1) 128 159 = true ∧ inL s (p + 2) 128 191 = true := hx
      rw [d1, d2, decide_eq_true_eq, decide_eq_true_eq] at hx
      rw [rn3 (by omega) k1 k2 128 159 (by omega) (by omega), if_pos hx]
      rfl
    · have hx : ¬ inL s (p + 1) 128 159 = true ∨ inL s (p + 2) 128 191 = false := hx
      rw [d1, d2, decide_eq_true_eq, decide_eq_false_iff_not] at hx
      rw [rn3 (by omega) k1 k2 128 159 (by omega) (by omega), if_neg (fun hc => hx.elim (fun k => k hc.1) (fun k => k hc.2))]
      rfl
  · refine ⟨by omega, _, i1 128 191, fun _ => by omega, _, fun _ => i2 128 191, fun hx => ?_, fun hx => ?_⟩
    · have hx : inL s (p + 1) 128 191 = true ∧ inL s (p + 2) 128 191 = true := hx
      rw [d1, d2, decide_eq_true_eq, decide_eq_true_eq] at hx
      rw [rn3 (by omega) k1 k2 128 191 (by omega) (by omega), if_pos hx]
      rfl
    · have hx : ¬ inL s (p + 1) 128 191 = true ∨ inL s (p + 2) 128 191 = false := hx
      rw [d1, d2, decide_eq_true_eq, decide_eq_false_iff_not] at hx
      rw [rn3 (by omega) k1 k2 128 191 (by omega) (by omega), if_neg (fun hc => hx.elim (fun k => k hc.1) (fun k => k hc.2))]
      rfl
  · refine ⟨by omega, _, i1 144 191, fun _ => by omega, _, fun _ => i2 128 191, fun _ => by omega, _, fun _ => i3 128 191, fun hx => ?_, fun hx => ?_⟩
    · have hx : (inL s (p + 1) 144 191 = true ∧ inL s (p + 2) 128 191 = true) ∧ inL s (p + 3) 128 191 = true := hx
      rw [d1, d2, d3, decide_eq_true_eq, decide_eq_true_eq, decide_eq_true_eq] at hx
      rw [rn4 (by omega) k1 k2 k3 144 191 (by omega) (by omega), if_pos ⟨hx.1.1, hx.1.2, hx.2⟩]
      rfl
    · have hx : ¬ (inL s (p + 1) 144 191 = true ∧ inL s (p + 2) 128 191 = true) ∨ inL s (p + 3) 128 191 = false := hx
      rw [d1, d2, d3, decide_eq_true_eq, decide_eq_true_eq, decide_eq_false_iff_not] at hx
      rw [rn4 (by omega) k1 k2 k3 144 191 (by omega) (by omega), if_neg (fun hc => hx.elim (fun k => k ⟨hc.1, hc.2.1⟩) (fun k => k hc.2.2))]
      rfl
  · refine ⟨by omega, _, i1 128 191, fun _ => by omega, _, fun _ => i2 128 191, fun _ => by omega, _, fun _ => i3 128 191, fun hx => ?_, fun hx => ?_⟩
    · have hx : (inL s (p + 1) 128 191 = true ∧ inL s (p + 2) 128 191 = true) ∧ inL s (p + 3) 128 191 = true := hx
      rw [d1, d2, d3, decide_eq_true_eq, decide_eq_true_eq, decide_eq_true_eq] at hx
      rw [rn4 (by omega) k1 k2 k3 128 191 (by omega) (by omega), if_pos ⟨hx.1.1, hx.1.2, hx.2⟩]
      rfl
    · have hx : ¬ (inL s (p + 1) 128 191 = true ∧ inL s (p + 2) 128 191 = true) ∨ inL s (p + 3) 128 191 = false := hx
      rw [d1, d2, d3, decide_eq_true_eq, decide_eq_true_eq, decide_eq_false_iff_not] at hx
      rw [rn4 (by omega) k1 k2 k3 128 191 (by omega) (by omega), if_neg (fun hc => hx.elim (fun k => k ⟨hc.1, hc.2.1⟩) (fun k => k hc.2.2))]
      rfl
  · refine ⟨by omega, _, i1 128 143, fun _ => by omega, _, fun _ => i2 128 191, fun _ => by omega, _, fun _ => i3 128 191, fun hx => ?_, fun hx => ?_⟩
    · have hx : (inL s (p + 1) 128 143 = true ∧ inL s (p + 2) 128 191 = true) ∧ inL s (p + 3) 128 191 = true := hx
      rw [d1, d2, d3, decide_eq_true_eq, decide_eq_true_eq, decide_eq_true_eq] at hx
      rw [rn4 (by omega) k1 k2 k3 128 143 (by omega) (by omega), if_pos ⟨hx.1.1, hx.1.2, hx.2⟩]
      rfl
    · have hx : ¬ (inL s (p + 1) 128 143 = true ∧ inL s (p + 2) 128 191 = true) ∨ inL s (p + 3) 128 191 = false := hx
      rw [d1, d2, d3, decide_eq_true_eq, decide_eq_true_eq, decide_eq_false_iff_not] at hx
      rw [rn4 (by omega) k1 k2 k3 128 143 (by omega) (by omega), if_neg (fun hc => hx.elim (fun k => k ⟨hc.1, hc.2.1⟩) (fun k => k hc.2.2))]
      rfl
  · rw [rn0 (by omega) (by omega) k0 k1]
    rfl
end Go.Vc
