/-
  The law TextRight, out of what is asked of Quote and loosen.
-/
import Derived.Test.YtodhgafhllbojaaDoorQTo
set_option maxRecDepth 100000
namespace Go.Vc
open Go Go.Proofs Go.Plain
theorem joinSp_len : ∀ (ws : List (List UInt8)), (∀ w ∈ ws, w ≠ []) → ws.length ≤ (joinSp ws).length + 1
  | [], _ => by simp
  | [w], _ => by simp
  | w :: v :: r, h => by
    have ih := joinSp_len (v :: r) (fun x hx => h x (List.mem_cons_of_mem _ hx))
    have : joinSp (w :: v :: r) = w ++ 32 :: joinSp (v :: r) := rfl
    rw [this, List.length_append, List.length_cons]
    simp only [List.length_cons] at ih ⊢
    omega
theorem words_len (s : List UInt8) : ((wordsL s).getD []).length ≤ s.length + 1 := by
  cases h : wordsL s with
  | none => simp
  | some ws =>
    obtain ⟨h1, _, h3⟩ := words_join h
    have := joinSp_len ws h3
    rw [h1] at this
    simpa using this
theorem law_TextRight' (hQ : QuoteOk) (hL : LoosenOk) (cs : List C) (h : TyAll [.str] cs) : PC Tryd.prog f_crossbarlaw04_TextRight ([.str].zip cs) [(.bool, .bool true)] := by
  obtain ⟨_, _, rfl, ⟨s, rfl, hl⟩, rfl⟩ := h
  apply pcv_crossbarlaw04_TextRight rfl
  simp only [vc_crossbarlaw04_TextRight, VC.H_cond, VC.H_ret, VC.H_call1, VC.H_call2, ev_var, ev_int, ev_bool, ev_eql, ev_neq, ev_gtr, ev_sneq, ev_beq, ev_not, ev_ite, ev_slen, ea_nil, ea_cons, env_zero, env_succ, env_cons, env_nil, List.map_cons, List.map_nil, List.zip_cons_cons, List.zip_nil_right, v_int, v_bool, v_str, bool_ite, pres_nil, pres_cons, orT, orF, andT, andF, notT, notF, nnE, decide_eq_true_eq, decide_eq_false_iff_not, forall_const, and_true, Int.not_lt]
  refine ⟨_, pc_law04_awake hQ hL, fun h => by simp at h, fun _ => ⟨fun _ => trivial, fun hs => ?_⟩⟩
  have h1 : s.length ≤ 1000000 := by omega
  have hw := words_len s
  refine ⟨_, pc_text_Token s h1, _, pc_ref04_Token s h1, _, fun _ => pc_text_May s h1, _, fun _ => pc_ref04_May s h1, _, fun _ => pc_text_Runes s h1, _, fun _ => pc_ref04_Runes s h1, _, fun _ => hQ s h1, _, fun _ => pc_ref04_Quote s h1, fun hc => ?_, fun _ => ?_⟩
  · exfalso
    simp at hc
  · refine ⟨_, _, pc_text_Unquote hQ hL s h1, _, _, pc_ref04_Unquote s h1, fun hc => ?_, fun _ => ?_⟩
    · exfalso
      unfold unE at hc
      cases hu : unqL s <;> simp [hu] at hc
    · refine ⟨_, _, pc_text_Words s h1, _, _, pc_ref04_Words s h1, _, pc_same ((wordsL s).getD []) ((wordsL s).getD []) (by omega), ?_⟩
      unfold wdE
      cases hv : wordsL s <;> simp
end Go.Vc
