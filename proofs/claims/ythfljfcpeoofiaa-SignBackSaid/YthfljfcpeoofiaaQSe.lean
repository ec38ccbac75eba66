/-
  The laws of sign without the reference: each function returns true, whatever it is handed.
-/
import Derived.Test.YthfljfcpeoofiaaQSd
set_option maxRecDepth 100000
namespace Go.Vc
open Go Go.Proofs Go.Plain
theorem bytes_len (s : Sg) : s.bytes.length ≤ s.text.length + 3 := by
  unfold Sg.bytes
  split
  · omega
  · split
    · unfold sgMany
      simp only [toBE_length]
      split <;> omega
    · split
      · simp
      · split <;> simp
theorem canon_back {s : Sg} (h : s.right) : sgCanon s.kind s.bytes = true := by
  obtain ⟨h1, h2⟩ := sg_back h
  unfold sgCanon
  rw [h2]
  exact decide_eq_true ⟨h1, rfl⟩
theorem canon_ok {k : Int} {b : List UInt8} (h : sgE k b = 0) : sgCanon k b = decide ((sgR k b).bytes = b) := by
  unfold sgCanon
  apply decide_eq_decide.2
  exact ⟨fun x => x.2, fun x => ⟨h, x⟩⟩
theorem canon_bad {k : Int} {b : List UInt8} (h : sgE k b ≠ 0) : sgCanon k b = false := decide_eq_false fun x => h x.1
theorem sg_eq {s t : Sg} : (s.kind = t.kind ∧ s.text = t.text ∧ (s.num : Int) = (t.num : Int) ∧ s.a = t.a ∧ s.b = t.b ∧ s.turns = t.turns) ↔ s = t := by
  constructor
  · rintro ⟨h1, h2, h3, h4, h5, h6⟩
    have h7 : s.num = t.num := by omega
    clear h3
    cases s
    cases t
    simp only at h1 h2 h7 h4 h5 h6
    subst h1 h2 h7 h4 h5 h6
    rfl
  · rintro rfl
    exact ⟨rfl, rfl, rfl, rfl, rfl, rfl⟩
theorem law_SignBack (cs : List C) (h : TyAll [SgSh, SgSh, I64, Byt] cs) : PC Try.prog f_crossbarlaw09_SignBack ([SgSh, SgSh, I64, Byt].zip cs) [(.bool, .bool true)] := by
  obtain ⟨_, _, rfl, h1, _, _, rfl, h1', _, _, rfl, h2, _, _, rfl, h3, rfl⟩ := h
  obtain ⟨s, rfl, hn, hl⟩ := ty_sg h1
  obtain ⟨t, rfl, hn', hl'⟩ := ty_sg h1'
  obtain ⟨k, rfl, _⟩ := ty_int h2
  obtain ⟨b, rfl⟩ := ty_bytes h3
  apply pcv_crossbarlaw09_SignBack rfl
  simp only [vc_crossbarlaw09_SignBack, SgC, VC.H_cond, VC.H_ret, VC.H_call1, VC.H_call2, ev_var, ev_int, ev_bool, ev_str, ev_nil, ev_cons, ev_hd, ev_tl, ev_eql, ev_neq, ev_gtr, ev_seql, ev_beq, ev_not, ev_ite, ev_len, ev_slen, ev_toStr, ev_deq, ea_nil, ea_cons, env_zero, env_succ, env_cons, env_nil, List.map_cons, List.map_nil, List.zip_cons_cons, List.zip_nil_right, v_int, v_bool, v_str, v_ls, v_hd, v_tl, toBool_ite, bool_ite, pres_nil, pres_cons, orT, orF, andT, andF, notT, notF, nnE, decide_eq_true_eq, decide_eq_false_iff_not, forall_const, and_true, Int.not_lt, ofBytes_length]
  refine ⟨_, pc_law09_awake, fun h => by simp at h, fun _ => ⟨fun _ => trivial, fun hs => ?_⟩⟩
  have hs1 : s.text.length ≤ 1000 := by omega
  have hs3 : t.text.length ≤ 1000 := by omega
  have hs2 : b.length ≤ 1000 := by omega
  have rl := sgR_len k b
  have bl := bytes_len (sgR k b)
  have rd := pc_sign_Read k b (by omega)
  have cb := pc_sign_Canon k b (by omega)
  refine ⟨_, _, pc_sign_Write s (by omega) hn, _, _, pc_sign_Write t (by omega) hn', fun hc => ?_, fun hc => ?_⟩
  · have hr : s.right := by
      apply Classical.byContradiction
      intro hx
      rw [if_neg hx] at hc
      simp at hc
    obtain ⟨b1, b2⟩ := sg_back hr
    have sl := bytes_len s
    have rs := pc_sign_Read s.kind s.bytes (by omega)
    have cs := pc_sign_Canon s.kind s.bytes (by omega)
    rw [b1, b2] at rs
    rw [canon_back hr] at cs
    rw [if_pos hr]
    refine ⟨_, _, rs, _, fun _ => cs, fun hx => ?_, fun _ => ⟨fun hx => ?_, fun _ => ?_⟩⟩
    · exfalso
      simp [SgC, deq_sg] at hx
    · exfalso
      obtain ⟨⟨h0, hk⟩, hne⟩ := hx
      have ht : t.right := by
        apply Classical.byContradiction
        intro hx
        rw [if_neg hx] at h0
        simp at h0
      rw [if_pos ht] at hne
      simp only [deq_sg, v_ls, bytesOf_ofBytes] at hne
      apply hne
      apply decide_eq_decide.2
      rw [sg_eq]
      exact ⟨fun h => sg_inj hr ht hk h, fun h => by rw [h]⟩
    · refine ⟨_, _, rd, fun he => ⟨_, fun _ => cb, ?_⟩, fun he => ?_⟩
      · have he : sgE k b ≠ 0 := he
        rw [canon_bad he, sgR_err he]
        simp [SgC, Sg.zero, deq_sg]
      · have he : sgE k b = 0 := by simpa using he
        obtain ⟨rr, rk⟩ := sg_right he
        obtain ⟨z1, z2⟩ := sg_back rr
        rw [rk] at z1 z2
        have rz := pc_sign_Read k (sgR k b).bytes (by omega)
        rw [z1, z2] at rz
        have wz := pc_sign_Write (sgR k b) (by omega) (sgR_num k b)
        rw [if_pos rr, if_pos rr] at wz
        have tz := pc_sign_Right (sgR k b) (by omega) (sgR_num k b)
        refine ⟨_, _, wz, _, _, rz, _, fun _ => tz, _, fun _ => cb, ?_⟩
        rw [canon_ok he]
        simp [SgC, deq_sg, rr, rk, bytesOf_ofBytes]
  · refine ⟨_, _, rd, fun he => ⟨_, fun _ => cb, ?_⟩, fun he => ?_⟩
    · have he : sgE k b ≠ 0 := he
      rw [canon_bad he, sgR_err he]
      simp [SgC, Sg.zero, deq_sg]
    · have he : sgE k b = 0 := by simpa using he
      obtain ⟨rr, rk⟩ := sg_right he
      obtain ⟨z1, z2⟩ := sg_back rr
      rw [rk] at z1 z2
      have rz := pc_sign_Read k (sgR k b).bytes (by omega)
      rw [z1, z2] at rz
      have wz := pc_sign_Write (sgR k b) (by omega) (sgR_num k b)
      rw [if_pos rr, if_pos rr] at wz
      have tz := pc_sign_Right (sgR k b) (by omega) (sgR_num k b)
      refine ⟨_, _, wz, _, _, rz, _, fun _ => tz, _, fun _ => cb, ?_⟩
      rw [canon_ok he]
      simp [SgC, deq_sg, rr, rk, bytesOf_ofBytes]
end Go.Vc
