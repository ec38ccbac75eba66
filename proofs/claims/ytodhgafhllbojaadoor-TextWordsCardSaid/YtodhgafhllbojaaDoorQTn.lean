/-
  The fixed answer of the laws of text, out of what is asked of Quote and loosen.
-/
import Derived.Test.YtodhgafhllbojaaDoorQVta
import Derived.Test.YtodhgafhllbojaaDoorQTm
set_option maxRecDepth 100000
namespace Go.Vc
open Go Go.Proofs Go.Plain
theorem pc_law04_awake (hQ : QuoteOk) (hL : LoosenOk) : PC Tryd.prog f_crossbarlaw04_awake [] [(.bool, .bool true)] := by
  apply pcv_crossbarlaw04_awake rfl
  simp only [vc_crossbarlaw04_awake, VC.H_asrt, VC.H_ret, VC.H_call1, VC.H_call2, ev_var, ev_int, ev_bool, ev_str, ev_eql, ev_lss, ev_seql, ev_not, ev_ite, ev_len, ev_idx, ea_nil, ea_cons, env_zero, env_succ, env_cons, env_nil, List.map_nil, v_int, v_bool, v_str, toBool_ite, bool_ite, pres_nil, pres_cons, andT, notT, decide_eq_true_eq, forall_const, and_true]
  have u := pc_text_Unquote hQ hL [34, 97, 92, 34, 98, 92, 48, 97, 34] (by decide)
  unfold unE at u
  rw [val_unq] at u
  have w := pc_text_Words [97, 32, 34, 98, 32, 99, 34, 32, 100] (by decide)
  rw [val_words] at w
  have t1 := pc_text_Token [109, 45, 49, 95, 120] (by decide)
  rw [show tokL [109, 45, 49, 95, 120] = true by decide] at t1
  have t2 := pc_text_Token [109, 32, 49] (by decide)
  rw [show tokL [109, 32, 49] = false by decide] at t2
  have m1 := pc_text_May [195, 169] (by decide)
  rw [val_may] at m1
  have m2 := pc_text_May [195] (by decide)
  rw [val_nomay] at m2
  have r1 := pc_text_Runes [195, 169, 255] (by decide)
  rw [val_runes] at r1
  have q := hQ [97, 34, 98, 10] (by decide)
  rw [val_qs] at q
  refine ⟨_, _, u, _, _, w, _, t1, _, fun _ => t2, _, fun _ => m1, _, fun _ => m2, _, fun _ => r1, _, fun _ => q, fun _ => ?_, ?_⟩
  · simp [wdB]
  · simp [wdB, wdE, List.map_cons, List.map_nil]
end Go.Vc
