/-
  The law TextBack, out of what is asked of Quote and loosen.
-/
import Derived.Test.YtodhgafhllbojaaDoorQTp
set_option maxRecDepth 100000
namespace Go.Vc
open Go Go.Proofs Go.Plain
theorem qc_len {l : List UInt8} (h : l ≠ []) : (qc (l.take (rwid l))).length ≤ 3 * rwid l := by
  have hw := rwid_pos l
  rcases qc_cases h with ⟨_, r2, _, r4⟩ | ⟨_, r2, r4⟩ | ⟨_, _, r4⟩
  · rw [r4, r2]; simp
  · rw [r4, r2]; simp
  · rw [r4, List.length_take]; omega
theorem qs_len (l : List UInt8) : (qs l).length ≤ 3 * l.length + 2 := by
  have key : ((chunks l).flatMap qc).length ≤ 3 * l.length := by
    induction l using lenInd with
    | nil => rw [chunks_nil]; simp
    | step l hne ih =>
      rw [chunks_ne hne, List.flatMap_cons, List.length_append]
      have h1 := qc_len hne
      have h2 := rwid_le hne
      rw [List.length_drop] at ih
      omega
  unfold qs
  simp only [List.length_cons, List.length_append, List.length_nil]
  omega
theorem words_qs (l : List UInt8) : wordsL (qs l) = some [qs l] := by
  have := (words_of [qs l] (by simp) (fun w hw => by rw [List.mem_singleton] at hw; exact .inl ⟨l, hw⟩)).1
  exact this
theorem law_TextBack' (hQ : QuoteOk) (hL : LoosenOk) (cs : List C) (h : TyAll [.str, .str, .str] cs) : PC Tryd.prog f_crossbarlaw04_TextBack ([.str, .str, .str].zip cs) [(.bool, .bool true)] := by
  obtain ⟨_, _, rfl, ⟨s, rfl, hl⟩, _, _, rfl, ⟨t, rfl, hl2⟩, _, _, rfl, ⟨q, rfl, hl3⟩, rfl⟩ := h
  apply pcv_crossbarlaw04_TextBack rfl
  simp only [vc_crossbarlaw04_TextBack, VC.H_cond, VC.H_ret, VC.H_call1, VC.H_call2, ev_var, ev_int, ev_bool, ev_str, ev_nil, ev_cons, ev_neq, ev_gtr, ev_seql, ev_sneq, ev_beq, ev_not, ev_ite, ev_slen, ea_nil, ea_cons, env_zero, env_succ, env_cons, env_nil, List.map_cons, List.map_nil, List.zip_cons_cons, List.zip_nil_right, v_int, v_bool, v_str, v_ls, bool_ite, pres_nil, pres_cons, orT, orF, notT, notF, nnE, decide_eq_true_eq, decide_eq_false_iff_not, forall_const, and_true, Int.not_lt]
  refine ⟨_, pc_law04_awake hQ hL, fun h => by simp at h, fun _ => ⟨fun _ => trivial, fun hs => ?_⟩⟩
  have hx := qs_len s
  have h1 : (qs s).length ≤ 1000000 := by omega
  have u := pc_text_Unquote hQ hL (qs s) h1
  unfold unE at u
  rw [unqL_qs] at u
  have w := pc_text_Words (qs s) h1
  rw [words_qs] at w
  have m := pc_text_May (qs s) h1
  rw [mayL_qs] at m
  refine ⟨_, hQ s (by omega), _, _, u, _, _, w, _, fun _ => m, _, fun _ => pc_same [qs s] [qs s] (by simp), _, fun _ => hQ t (by omega), fun hc => ?_, fun _ => ⟨_, _, pc_text_Unquote hQ hL q (by omega), fun hc => ?_, fun hc => ?_⟩⟩
  · exfalso
    have e : (qs s = qs t) ↔ (s = t) := ⟨qs_inj, fun h => by rw [h]⟩
    simp [wdE, e] at hc
  · have : unqL q = none := by
      unfold unE at hc
      cases hu : unqL q with
      | none => rfl
      | some o => rw [hu] at hc; simp at hc
    rw [this]
    simp
  · cases hu : unqL q with
    | none => unfold unE at hc; rw [hu] at hc; simp at hc
    | some o =>
      have ho := unqL_some.1 hu
      have hlen : o.length ≤ 1000000 := by
        have h2 := hu
        unfold unqL at h2
        split at h2
        · split at h2
          · rename_i o2 hlo
            have h3 := lo_len _ _ o2 (Nat.le_refl _) hlo
            have h4 : (inner q).length ≤ q.length := by unfold inner; rw [List.length_take, List.length_drop]; omega
            split at h2
            · injection h2 with h2
              subst h2
              omega
            · cases h2
          · cases h2
        · cases h2
      refine ⟨_, hQ o hlen, ?_⟩
      simp [ho]
end Go.Vc
