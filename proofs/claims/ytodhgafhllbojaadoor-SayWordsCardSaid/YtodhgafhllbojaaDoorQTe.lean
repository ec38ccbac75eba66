/-
  The contracts of the reference of text, rune by rune, each out of its condition.
-/
import Derived.Test.YtodhgafhllbojaaDoorQTd
set_option maxRecDepth 100000
namespace Go.Vc
open Go Go.Proofs Go.Plain
theorem rune_cases {l : List UInt8} (h : l ≠ []) : (runeN l = 0 ∧ rwid l = 1 ∧ stray l = true ∧ 128 ≤ (l.getD 0 0).toNat) ∨ (runeN l = 1 ∧ rwid l = 1 ∧ stray l = false ∧ (Lib.decodeL l).1 = (l.getD 0 0).toNat ∧ (l.getD 0 0).toNat < 128) ∨
    (2 ≤ runeN l ∧ runeN l = rwid l ∧ stray l = false ∧ 128 ≤ (Lib.decodeL l).1 ∧ 128 ≤ (l.getD 0 0).toNat) := by
  cases dec h with
  | ascii x t hl hx hd =>
    have hs : stray l = false := by unfold stray; rw [hd, decide_eq_false (show ¬ x.toNat = 65533 by omega)]; rfl
    have hw : rwid l = 1 := by unfold rwid; rw [hd]
    refine .inr (.inl ⟨by unfold runeN; rw [hs, if_neg (by decide), hw], hw, hs, ?_, ?_⟩)
    · rw [hd, hl]; rfl
    · rw [hl]; exact hx
  | bad x t hl hx hd =>
    have hs : stray l = true := by unfold stray; rw [hd]; rfl
    exact .inl ⟨by unfold runeN; rw [if_pos hs], by unfold rwid; rw [hd], hs, by rw [hl]; exact hx⟩
  | many c t hl hc h2 hw hr hd =>
    have hs : stray l = false := by unfold stray; rw [decide_eq_false (show ¬ (Lib.decodeL l).2 = 1 by omega), Bool.and_false]
    have e : runeN l = rwid l := by unfold runeN; rw [hs, if_neg (by decide)]
    have e2 : rwid l = c.length := hw
    refine .inr (.inr ⟨by omega, e, hs, hr, ?_⟩)
    cases c with
    | nil => simp at h2
    | cons x u => rw [hl]; exact hc x (by simp)
theorem pc_ref04_May (s : List UInt8) (hs : s.length ≤ 1000000) : PC Tryd.prog f_crossbarref04_May [(.str, .str s)] [(.bool, .bool (mayL s))] := by
  apply pcv_crossbarref04_May rfl
  simp only [vc_crossbarref04_May, List.map_cons, List.map_nil]
  refine VC.go_loop (fun p : Nat => [.bool false, .int (p : Int)]) (fun p => p ≤ s.length ∧ mayL s = mayL (s.drop p)) (fun p => s.length - p) 0 rfl ⟨Nat.zero_le _, rfl⟩ fun p hi => ?_
  obtain ⟨i1, i2⟩ := hi
  simp only [VC.H_asrt, VC.H_cond, VC.H_ret, VC.H_back, VC.H_call1, ev_var, ev_int, ev_bool, ev_add, ev_eql, ev_lss, ev_geq, ev_ite, ev_slen, ev_sidx, ev_fits64, ea_nil, ea_cons, env_zero, env_succ, env_cons, env_nil, List.map_cons, List.map_nil, v_int, v_bool, v_str, bool_ite, pres_nil, pres_cons, orT, orF, andT, andF, decide_eq_true_eq, decide_eq_false_iff_not, forall_const, and_true, Int.not_lt, Int.toNat_natCast]
  refine ⟨fun hc => ?_, fun hc => ?_⟩
  · have hp : p < s.length := by omega
    have hne := drop_ne hp
    have hw := rwid_pos (s.drop p)
    have hle := rwid_le hne
    rw [List.length_drop] at hle
    rw [may_step hne, List.drop_drop] at i2
    have hb : (s.drop p).getD 0 0 = s.getD p 0 := getD_drop s p 0
    refine ⟨_, pc_ref04_Rune s p hp hs, ?_⟩
    simp only [v_int]
    rcases rune_cases hne with ⟨r1, r2, r3, r4⟩ | ⟨r1, r2, r3, r4, r5⟩ | ⟨r1, r2, r3, r4, r5⟩
    · rw [r1]
      have hm : mayL s = false := by rw [i2, r3]; simp
      rw [hm]
      simp
    · rw [hb] at r4 r5
      rw [r1]
      by_cases hx : (s.getD p 0).toNat < 32 ∨ (s.getD p 0).toNat = 127
      · have hm : mayL s = false := by
          rw [i2, r4]
          rcases hx with hx | hx
          · rw [decide_eq_false (show ¬ 32 ≤ (s.getD p 0).toNat by omega), Bool.false_and, Bool.false_and]
          · rw [decide_eq_false (show ¬ (s.getD p 0).toNat ≠ 127 by omega), Bool.false_and, Bool.and_false, Bool.false_and]
        rw [hm]
        refine ⟨fun _ => by omega, fun _ => by omega, fun _ => by omega, fun _ => by omega, fun _ => rfl, fun h2 => ?_⟩
        exfalso
        omega
      · refine ⟨fun _ => by omega, fun _ => by omega, fun _ => by omega, fun _ => by omega, fun h2 => ?_, fun _ => ⟨by omega, p + 1, by simp, ⟨by omega, ?_⟩, by omega⟩⟩
        · exfalso
          omega
        · rw [i2, r2, r3, r4, decide_eq_true (show 32 ≤ (s.getD p 0).toNat by omega), decide_eq_true (show (s.getD p 0).toNat ≠ 127 by omega)]
          rfl
    · refine ⟨fun _ => by omega, fun _ => by omega, fun _ => by omega, fun _ => by omega, fun h2 => ?_, fun _ => ⟨by omega, p + runeN (s.drop p), by simp, ⟨by omega, ?_⟩, by omega⟩⟩
      · exfalso
        omega
      · rw [i2, r2, r3, decide_eq_true (show 32 ≤ (Lib.decodeL (s.drop p)).1 by omega), decide_eq_true (show (Lib.decodeL (s.drop p)).1 ≠ 127 by omega)]
        rfl
  · have : p = s.length := by omega
    subst this
    rw [i2, List.drop_length]
    unfold mayL
    rw [chunks_nil]
    rfl
theorem pc_ref04_Runes (s : List UInt8) (hs : s.length ≤ 1000000) : PC Tryd.prog f_crossbarref04_Runes [(.str, .str s)] [(I64, .int ((runesL s : Nat) : Int))] := by
  apply pcv_crossbarref04_Runes rfl
  simp only [vc_crossbarref04_Runes, List.map_cons, List.map_nil]
  refine VC.go_loop (fun x : Nat × Nat => [.int (x.1 : Int), .int (x.2 : Int)]) (fun x => x.2 ≤ s.length ∧ x.1 + runesL (s.drop x.2) = runesL s) (fun x => s.length - x.2) (0, 0) rfl ⟨Nat.zero_le _, by simp⟩ fun x hi => ?_
  obtain ⟨n, p⟩ := x
  obtain ⟨i1, i2⟩ := hi
  simp only at i1 i2
  have hr := runesL_le s
  simp only [VC.H_asrt, VC.H_cond, VC.H_ret, VC.H_back, VC.H_call1, ev_var, ev_int, ev_add, ev_eql, ev_lss, ev_ite, ev_slen, ev_fits64, ea_nil, ea_cons, env_zero, env_succ, env_cons, env_nil, List.map_cons, List.map_nil, v_int, v_bool, v_str, toInt_ite, pres_nil, decide_eq_true_eq, decide_eq_false_iff_not, forall_const, Int.not_lt]
  refine ⟨fun hc => ?_, fun hc => ?_⟩
  · have hp : p < s.length := by omega
    have hne := drop_ne hp
    have hw := rwid_pos (s.drop p)
    have hle := rwid_le hne
    rw [List.length_drop] at hle
    rw [runes_step hne, List.drop_drop] at i2
    refine ⟨_, pc_ref04_Rune s p hp hs, ?_⟩
    simp only [v_int]
    have e : (if ((runeN (s.drop p) : Nat) : Int) = 0 then (1 : Int) else ((runeN (s.drop p) : Nat) : Int)) = ((rwid (s.drop p) : Nat) : Int) := by
      rcases rune_cases hne with ⟨r1, r2, _⟩ | ⟨r1, r2, _⟩ | ⟨r1, r2, _⟩
      · rw [r1, r2]; rfl
      · rw [r1, r2]; rfl
      · rw [if_neg (by omega), r2]
    rw [e]
    refine ⟨by omega, by omega, (n + 1, p + rwid (s.drop p)), by simp, ⟨by omega, by simp only; omega⟩, by simp only; omega⟩
  · have : p = s.length := by omega
    subst this
    rw [List.drop_length] at i2
    have : runesL ([] : List UInt8) = 0 := by unfold runesL; rw [chunks_nil]; rfl
    rw [← i2, this, Nat.add_zero]
end Go.Vc
