/-
  The contract of text.Unquote, out of its condition and of the contracts of Quote and loosen.
-/
import Derived.Test.YtodhgafhllbojaaDoorQTk
set_option maxRecDepth 100000
namespace Go.Vc
open Go Go.Proofs Go.Plain
abbrev f_text_Quote : FuncId := 17
abbrev f_text_loosen : FuncId := 42
/-- What is asked of Quote and of loosen (walked by hand). -/
def QuoteOk : Prop := ∀ s : List UInt8, s.length ≤ 1000000 → PC Tryd.prog f_text_Quote [(.str, .str s)] [(.str, .str (qs s))]
def LoosenOk : Prop := ∀ s : List UInt8, s.length ≤ 1000000 → PC Tryd.prog f_text_loosen [(.str, .str s)] [(.str, .str ((lo s).getD [])), (.bool, .bool (lo s).isSome)]
theorem lo_len : ∀ (n : Nat) (s o : List UInt8), s.length ≤ n → lo s = some o → o.length ≤ s.length
  | 0, s, o, hn, h => by
    have : s = [] := List.eq_nil_of_length_eq_zero (by omega)
    subst this
    rw [lo.eq_def] at h
    simp at h
    rw [h]
    exact Nat.le_refl _
  | n + 1, s, o, hn, h => by
    rw [lo.eq_def] at h
    split at h
    · simp at h
      rw [← h]
      exact Nat.le_refl _
    · rename_i x t
      simp only [List.length_cons] at hn ⊢
      split at h
      · cases h
      · split at h
        · split at h
          · cases h
          · rename_i y u
            simp only [List.length_cons] at hn ⊢
            split at h
            · obtain ⟨o2, h2, rfl⟩ := Option.map_eq_some_iff.1 h
              have := lo_len n u o2 (by omega) h2
              simp only [List.length_cons]; omega
            · split at h
              · cases h
              · rename_i z v
                simp only [List.length_cons] at hn ⊢
                split at h
                · obtain ⟨o2, h2, rfl⟩ := Option.map_eq_some_iff.1 h
                  have := lo_len n v o2 (by omega) h2
                  simp only [List.length_cons]; omega
                · cases h
        · obtain ⟨o2, h2, rfl⟩ := Option.map_eq_some_iff.1 h
          have := lo_len n t o2 (by omega) h2
          simp only [List.length_cons]; omega
def unE (s : List UInt8) : Int := if (unqL s).isSome then 0 else 6
theorem pc_text_Unquote (hQ : QuoteOk) (hL : LoosenOk) (s : List UInt8) (hs : s.length ≤ 1000000) : PC Tryd.prog f_text_Unquote [(.str, .str s)] [(.str, .str ((unqL s).getD [])), (I64, .int (unE s))] := by
  apply pcv_text_Unquote rfl
  simp only [vc_text_Unquote, VC.H_asrt, VC.H_cond, VC.H_ret, VC.H_call1, VC.H_call2, ev_var, ev_int, ev_bool, ev_str, ev_sub', ev_neq, ev_lss, ev_leq, ev_geq, ev_sneq, ev_not, ev_ite, ev_slen, ev_sidx, ev_ssub, ev_fits64, ea_nil, ea_cons, env_zero, env_succ, env_cons, env_nil, List.map_cons, List.map_nil, v_int, v_bool, v_str, bool_ite, pres_nil, pres_cons, orT, orF, notT, notF, nnE, decide_eq_true_eq, decide_eq_false_iff_not, forall_const, and_true, Int.not_lt, Int.toNat_zero]
  have hend : (((s.length : Nat) : Int) - 1).toNat = s.length - 1 := by omega
  have hone : (1 : Int).toNat = 1 := rfl
  rw [hend, hone]
  have c0 := u8_eq (x := s.getD 0 0) (k := 34) (by decide)
  have cl := u8_eq (x := s.getD (s.length - 1) 0) (k := 34) (by decide)
  rw [show UInt8.ofNat 34 = 34 from rfl] at c0 cl
  unfold unE
  refine ⟨fun _ => by omega, fun _ => by omega, fun _ => by omega, fun _ => by omega, fun hx => ?_, fun hx => ⟨by omega, by omega, by omega, ?_⟩⟩
  · have : unqL s = none := by
      unfold unqL
      rw [if_neg]
      rintro ⟨h1, h2, h3⟩
      have := c0.1 h2
      have := cl.1 h3
      omega
    rw [this]
    rfl
  · have he : 2 ≤ s.length ∧ s.getD 0 0 = 34 ∧ s.getD (s.length - 1) 0 = 34 := ⟨by omega, c0.2 (by omega), cl.2 (by omega)⟩
    have hu : unqL s = (match lo (inner s) with | some o => if qs o = s then some o else none | none => none) := by unfold unqL; rw [if_pos he]; cases lo (inner s) <;> rfl
    have hin : (s.take (s.length - 1)).drop 1 = inner s := by unfold inner; rw [List.drop_take]; rfl
    have hil : (inner s).length ≤ 1000000 := by unfold inner; rw [List.length_take, List.length_drop]; omega
    rw [hin]
    refine ⟨_, _, hL (inner s) hil, ?_⟩
    have hlen : ((lo (inner s)).getD []).length ≤ 1000000 := by
      cases hlo : lo (inner s) with
      | none => simp
      | some o => have := lo_len _ _ o (Nat.le_refl _) hlo; simp only [Option.getD_some]; omega
    refine ⟨_, fun _ => hQ _ hlen, ?_⟩
    simp only [v_bool, v_str]
    cases hlo : lo (inner s) with
    | none =>
      rw [hlo] at hu
      simp only at hu
      rw [hu]
      simp
    | some o =>
      rw [hlo] at hu
      simp only at hu
      rw [hu]
      by_cases hq : qs o = s
      · simp [hq]
      · simp [hq]
end Go.Vc
