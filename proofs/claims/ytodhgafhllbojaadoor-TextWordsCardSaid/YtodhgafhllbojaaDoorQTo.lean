/-
  The law TextMay, out of what is asked of Quote and loosen.
-/
import Derived.Test.YtodhgafhllbojaaDoorQVtl
import Derived.Test.YtodhgafhllbojaaDoorQTn
import Derived.Test.YtodhgafhllbojaaDoorQBase3
set_option maxRecDepth 100000
namespace Go.Vc
open Go Go.Proofs Go.Plain
theorem may255 (b : List UInt8) : mayL (255 :: b) = false := by
  have hne : (255 : UInt8) :: b ≠ [] := by simp
  have h0 : ((255 : UInt8) :: b).getD 0 0 = 255 := rfl
  rcases rune_cases hne with ⟨_, _, r3, _⟩ | ⟨_, _, _, _, r5⟩ | ⟨r1, _⟩
  · rw [may_step hne, r3]
    simp
  · rw [h0] at r5
    exact absurd r5 (by decide)
  · exfalso
    rw [runeN_N, rn0 (by rw [h0]; decide) (by rw [h0]; decide) (UInt8.toNat_lt _) (UInt8.toNat_lt _)] at r1
    omega
theorem tok_facts {a : List UInt8} (h : tokL a = true) : mayL a = true ∧ runesL a = a.length ∧ tokL (a ++ [32]) = false := by
  unfold tokL at h
  simp only [Bool.and_eq_true, decide_eq_true_eq] at h
  have hc := chunks_sgn a [] h.2
  rw [List.append_nil, chunks_nil, List.append_nil] at hc
  refine ⟨?_, by unfold runesL; rw [hc, List.length_map], ?_⟩
  · unfold mayL
    rw [hc, List.all_map, List.all_eq_true]
    intro x hx
    have ht := List.all_eq_true.1 h.2 x hx
    unfold tsgn at ht
    rw [decide_eq_true_eq] at ht
    exact (okc_ascii x (by omega)).2 (by omega)
  · unfold tokL
    have : (a ++ [32]).all tsgn = false := by rw [List.all_append]; simp; intro _; decide
    rw [this, Bool.and_false]
theorem law_TextMay' (hQ : QuoteOk) (hL : LoosenOk) (cs : List C) (h : TyAll [.str, .str] cs) : PC Tryd.prog f_crossbarlaw04_TextMay ([.str, .str].zip cs) [(.bool, .bool true)] := by
  obtain ⟨_, _, rfl, ⟨a, rfl, ha⟩, _, _, rfl, ⟨b, rfl, hb⟩, rfl⟩ := h
  apply pcv_crossbarlaw04_TextMay rfl
  simp only [vc_crossbarlaw04_TextMay, VC.H_asrt, VC.H_cond, VC.H_ret, VC.H_call1, ev_var, ev_int, ev_bool, ev_str, ev_add, ev_eql, ev_neq, ev_leq, ev_gtr, ev_seql, ev_beq, ev_not, ev_ite, ev_slen, ev_cat, ev_fits64, ea_nil, ea_cons, env_zero, env_succ, env_cons, env_nil, List.map_cons, List.map_nil, List.zip_cons_cons, List.zip_nil_right, v_int, v_bool, v_str, toBool_ite, bool_ite, pres_nil, pres_cons, orT, orF, andT, andF, notT, notF, nnE, decide_eq_true_eq, decide_eq_false_iff_not, forall_const, and_true, Int.not_lt]
  refine ⟨_, pc_law04_awake hQ hL, fun h => by simp at h, fun _ => ⟨fun _ => trivial, fun hs => ?_⟩⟩
  have h1 : a.length ≤ 1000 := by omega
  have h2 : b.length ≤ 1000 := by omega
  have ra := runesL_le a
  have rb := runesL_le b
  have hab : (a ++ b).length ≤ 1000000 := by rw [List.length_append]; omega
  have ha2 : (a ++ [32]).length ≤ 1000000 := by rw [List.length_append]; simp; omega
  refine ⟨_, pc_text_May a (by omega), _, fun _ => pc_text_May b (by omega), fun _ => by omega, _, fun _ => pc_text_May (a ++ b) hab, fun _ => by omega, _, fun _ => pc_text_Runes (a ++ b) hab, _, fun _ => pc_text_Runes a (by omega), _, fun _ => pc_text_Runes b (by omega), fun _ => by simp only [v_int]; omega, fun hc => ?_, fun _ => ?_⟩
  · exfalso
    simp only [v_int, v_bool] at hc
    obtain ⟨⟨k1, k2⟩, k3⟩ := hc
    obtain ⟨m1, m2⟩ := mayL_app k1 k2
    rw [m1, m2] at k3
    simp at k3
  · refine ⟨_, pc_text_Token a (by omega), _, fun _ => pc_text_May a (by omega), _, fun _ => pc_text_Runes a (by omega), fun _ => by simp only [List.length_cons, List.length_nil]; omega, _, fun _ => pc_text_Token (a ++ [32]) ha2, fun hc => ?_, fun _ => ?_⟩
    · exfalso
      simp only [v_int, v_bool] at hc
      obtain ⟨k1, k2⟩ := hc
      obtain ⟨m1, m2, m3⟩ := tok_facts k1
      rw [m1, m2, m3] at k2
      simp at k2
    · refine ⟨by simp only [List.length_cons, List.length_nil]; omega, _, pc_text_May (255 :: b) (by simp; omega), _, fun _ => pc_text_Runes a (by omega), _, fun _ => pc_text_Runes a (by omega), ?_⟩
      have hz := runesL_zero a
      rw [may255]
      simp [hz, ra]
end Go.Vc
