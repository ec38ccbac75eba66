/-
  The laws of h264: each function returns true, whatever it is handed.
-/
import Derived.Test.YtodhgafhllbojaaQVul
import Derived.Test.YtodhgafhllbojaaQUi
import Derived.Test.YtodhgafhllbojaaQBase3
set_option maxRecDepth 100000
namespace Go.Vc
open Go Go.Proofs Go.Plain
theorem ty_i64m {c : C} (h : Ty I64 c) : ∃ n : Int, c = .int n ∧ -9223372036854775808 ≤ n ∧ n ≤ 9223372036854775807 := ty_int h
theorem ty_un {c : C} (h : Ty UnSh c) : ∃ u : Un, c = UnC u ∧ True := by
  obtain ⟨_, _, rfl, h1, _, _, e2, h2, _, _, e3, h3, e4⟩ := h
  obtain ⟨a, rfl, _⟩ := ty_i64m h1
  obtain ⟨m, rfl, _⟩ := ty_i64m h2
  obtain ⟨b, rfl⟩ := ty_bytes h3
  simp only [Ty, C.ls.injEq] at e2 e3 e4
  subst e4 e3 e2
  exact ⟨⟨a, m, b⟩, rfl, trivial⟩
theorem ty_pi {c : C} (h : Ty PiSh c) : ∃ p : Pi, c = PiC p ∧ True := by
  obtain ⟨_, _, rfl, h1, _, _, e2, h2, _, _, e3, h3, _, _, e4, h4, _, _, e5, h5, _, _, e6, h6, e7⟩ := h
  obtain ⟨a, rfl, _⟩ := ty_i64m h1
  obtain ⟨m, rfl, _⟩ := ty_i64m h2
  obtain ⟨l, rfl, _, hl⟩ := h3
  obtain ⟨us, rfl, _⟩ := ty_list (e := UnC) (P := fun _ => True) fun x hx => ty_un (hl x hx)
  obtain ⟨s, rfl⟩ := h4
  obtain ⟨f, rfl⟩ := h5
  obtain ⟨u, rfl, _⟩ := ty_un h6
  simp only [Ty, C.ls.injEq] at e2 e3 e4 e5 e6 e7
  subst e7 e6 e5 e4 e3 e2
  exact ⟨⟨a, m, us, s, f, u⟩, rfl, trivial⟩
theorem ok_short {p : Pi} (h : p.units.length ≤ 60 ∧ p.part.bytes.length ≤ 70000 ∧ ∀ u ∈ p.units, u.bytes.length ≤ 70000) : Pi.ok p := ⟨by omega, by omega, fun u hu => by have := h.2.2 u hu; omega⟩
theorem ok_read (b : List UInt8) (hb : b.length ≤ 10000000) : Pi.ok (h2P b) := by
  by_cases h : h2E b = 0
  · obtain ⟨s1, s2⟩ := h2_same b h
    exact ok_of_bytes s1 (by omega)
  · rw [h2P, if_pos h]
    exact ⟨by decide, by decide, fun u hu => by cases hu⟩
theorem law_H264Right (cs : List C) (h : TyAll [PiSh, Byt] cs) : PC Try.prog f_crossbarlaw25_H264Right ([PiSh, Byt].zip cs) [(.bool, .bool true)] := by
  obtain ⟨_, _, rfl, h1, _, _, rfl, h2, rfl⟩ := h
  obtain ⟨p, rfl, _⟩ := ty_pi h1
  obtain ⟨b, rfl⟩ := ty_bytes h2
  apply pcv_crossbarlaw25_H264Right rfl
  simp only [vc_crossbarlaw25_H264Right, VC.H_cond, VC.H_ret, VC.H_call1, VC.H_call2, ev_var, ev_int, ev_bool, ev_nil, ev_cons, ev_hd, ev_tl, ev_eql, ev_neq, ev_gtr, ev_sneq, ev_beq, ev_not, ev_ite, ev_len, ev_toStr, ea_nil, ea_cons, env_zero, env_succ, env_cons, env_nil, List.map_cons, List.map_nil, List.zip_cons_cons, List.zip_nil_right, v_int, v_bool, v_str, v_ls, v_hd, v_tl, toBool_ite, bool_ite, pres_nil, pres_cons, orT, orF, andT, notT, notF, nnE, decide_eq_true_eq, decide_eq_false_iff_not, forall_const, and_true, Int.not_lt, ofBytes_length]
  refine ⟨_, pc_crossbarlaw25_awake, fun h => by simp at h, fun _ => ⟨_, pc_crossbarref25_Short p, fun _ => trivial, fun hb => ?_⟩⟩
  simp only [v_bool, decide_eq_true_eq, Bool.not_eq_false] at hb
  have hok := ok_short hb.1
  have hb2 := hb.2
  refine ⟨_, pc_crossbarref25_Right p hok, _, _, pc_h264_Write p hok, fun hr => ?_, fun hr => ?_⟩
  · have hr : p.right := by simpa using hr
    have e1 : h2wB p = p.bytes := if_pos hr
    have e2 : h2wE p = 0 := if_pos hr
    refine ⟨_, fun _ => pc_crossbarref25_Write p hr hok, fun hc => ?_, fun _ => ?_⟩
    · exfalso
      simp [e1, e2] at hc
    · refine ⟨_, _, pc_h264_Read b (by omega), _, _, pc_crossbarref25_Read b (by omega), _, pc_h264_Right p hok, _, fun _ => pc_crossbarref25_Same (h2P b) (h2P b) (ok_read b (by omega)), _, fun _ => pc_h264_Canon b (by omega), _, fun _ => pc_crossbarref25_Canon b (by omega), ?_⟩
      simp
  · have hr : ¬ p.right := by simpa using hr
    have e1 : h2wB p = [] := if_neg hr
    have e2 : h2wE p = 1 := if_neg hr
    refine ⟨fun hc => ?_, fun _ => ?_⟩
    · exfalso
      simp [e1, e2] at hc
    · refine ⟨_, _, pc_h264_Read b (by omega), _, _, pc_crossbarref25_Read b (by omega), _, pc_h264_Right p hok, _, fun _ => pc_crossbarref25_Same (h2P b) (h2P b) (ok_read b (by omega)), _, fun _ => pc_h264_Canon b (by omega), _, fun _ => pc_crossbarref25_Canon b (by omega), ?_⟩
      simp
theorem bytes_le {p : Pi} (h : p.units.length ≤ 60 ∧ p.part.bytes.length ≤ 70000 ∧ ∀ u ∈ p.units, u.bytes.length ≤ 70000) (hr : p.right) : p.bytes.length ≤ 10000000 := by
  obtain ⟨h1, h2, h3⟩ := h
  have hl : ∀ (l : List Un), (∀ u ∈ l, u.bytes.length ≤ 70000) → (longs l).length ≤ l.length * 70003 := by
    intro l
    induction l with
    | nil => intro _; exact Nat.le_refl 0
    | cons u l ih =>
      intro h
      have ih := ih fun x hx => h x (by simp [hx])
      have hu := h u (by simp)
      have e : longs (u :: l) = u.long ++ longs l := by simp [longs]
      rw [e, List.length_append, long_length, List.length_cons]
      omega
  have hl := hl p.units h3
  unfold Pi.bytes
  split
  · rename_i hk
    have h5 := ((right1 hk).1 hr).2.2.2.2.1
    have := h3 _ (un_mem (l := p.units) (i := 0) (by omega))
    simp only [Un.b, List.length_cons]
    omega
  · split
    · simp only [List.length_cons]
      omega
    · simp only [List.length_cons]
      omega
/-- The second half of the law: what is read of bytes. -/
theorem back_end (b : List UInt8) (hb : b.length ≤ 70000) (hz : h2E b = 0) : h2wE (h2P b) = 0 ∧ h2wB (h2P b) = (h2P b).bytes ∧ (h2P b).right ∧ (h2P b).bytes.length = b.length := by
  obtain ⟨s1, s2⟩ := h2_same b hz
  exact ⟨if_pos s1, if_pos s1, s1, s2⟩
theorem law_H264Back (cs : List C) (h : TyAll [PiSh, PiSh, Byt] cs) : PC Try.prog f_crossbarlaw25_H264Back ([PiSh, PiSh, Byt].zip cs) [(.bool, .bool true)] := by
  obtain ⟨_, _, rfl, h1, _, _, rfl, h2, _, _, rfl, h3, rfl⟩ := h
  obtain ⟨p, rfl, _⟩ := ty_pi h1
  obtain ⟨q, rfl, _⟩ := ty_pi h2
  obtain ⟨b, rfl⟩ := ty_bytes h3
  apply pcv_crossbarlaw25_H264Back rfl
  simp only [vc_crossbarlaw25_H264Back, VC.H_cond, VC.H_ret, VC.H_call1, VC.H_call2, ev_var, ev_int, ev_bool, ev_nil, ev_nilS, ev_cons, ev_hd, ev_tl, ev_eql, ev_neq, ev_gtr, ev_seql, ev_beq, ev_not, ev_ite, ev_len, ev_toStr, ea_nil, ea_cons, env_zero, env_succ, env_cons, env_nil, List.map_cons, List.map_nil, List.zip_cons_cons, List.zip_nil_right, v_int, v_bool, v_str, v_ls, v_hd, v_tl, toBool_ite, bool_ite, pres_nil, pres_cons, orT, orF, andT, andF, notT, notF, nnE, decide_eq_true_eq, decide_eq_false_iff_not, forall_const, and_true, Int.not_lt, ofBytes_length]
  refine ⟨_, pc_crossbarlaw25_awake, fun h => by simp at h, fun _ => ⟨_, pc_crossbarref25_Short p, _, fun _ => pc_crossbarref25_Short q, fun _ => trivial, fun hb => ?_⟩⟩
  simp only [v_bool, not_or, decide_eq_false_iff_not, Decidable.not_not] at hb
  obtain ⟨⟨sp, sq⟩, hb⟩ := hb
  have po := ok_short sp
  have qo := ok_short sq
  have zo : Pi.ok Pi.zero := ⟨by decide, by decide, fun u hu => by cases hu⟩
  refine ⟨_, _, pc_h264_Write p po, _, _, pc_h264_Write q qo, fun he => ?_, fun he => ?_⟩
  · have hr : p.right := by
      by_cases h : p.right
      · exact h
      · simp [h2wE, h] at he
    have e1 : h2wB p = p.bytes := if_pos hr
    have hl := bytes_le sp hr
    obtain ⟨k1, k2⟩ := h2_back p hr
    have kc : h2C p.bytes := ⟨k1, by rw [k2]⟩
    rw [e1]
    refine ⟨_, _, pc_h264_Read p.bytes hl, ?_⟩
    rw [k1, k2]
    refine ⟨_, fun _ => pc_crossbarref25_Same p p po, _, fun _ => pc_h264_Canon p.bytes hl, _, fun _ => pc_crossbarref25_Same p q po, fun hc => ?_, fun _ => ?_⟩
    · exfalso
      rcases hc with hc | hc
      · simp [kc] at hc
      · obtain ⟨hs, hc⟩ := hc
        have hs : q.right := by
          by_cases h : q.right
          · exact h
          · simp [h2wE, h] at hs
        have e5 : h2wB q = q.bytes := if_pos hs
        rw [e5] at hc
        simp only [v_ls, v_bool, bytesOf_ofBytes] at hc
        by_cases hrs : p = q
        · subst hrs
          simp at hc
        · have hne : p.bytes ≠ q.bytes := fun h => by
            have := (h2_back q hs).2
            rw [← h, k2] at this
            exact hrs this
          simp [hrs, hne] at hc
    · refine ⟨_, _, pc_h264_Read b (by omega), fun hz => ?_, fun hz => ?_⟩
      · have hz : ¬ h2E b = 0 := by simpa using hz
        have e1 : h2P b = Pi.zero := if_pos hz
        rw [e1]
        refine ⟨_, pc_crossbarref25_Same Pi.zero Pi.zero zo, _, fun _ => pc_h264_Canon b (by omega), ?_⟩
        simp [hz, h2C]
      · have hz : h2E b = 0 := by simpa using hz
        obtain ⟨f1, f2, f3, f4⟩ := back_end b (by omega) hz
        have ro := ok_read b (by omega)
        refine ⟨_, _, pc_h264_Write _ ro, _, fun _ => pc_h264_Right _ ro, _, fun _ => pc_h264_Canon b (by omega), ?_⟩
        rw [f1, f2]
        simp [f3, f4, h2C, hz]
  · refine ⟨_, _, pc_h264_Read b (by omega), fun hz => ?_, fun hz => ?_⟩
    · have hz : ¬ h2E b = 0 := by simpa using hz
      have e1 : h2P b = Pi.zero := if_pos hz
      rw [e1]
      refine ⟨_, pc_crossbarref25_Same Pi.zero Pi.zero zo, _, fun _ => pc_h264_Canon b (by omega), ?_⟩
      simp [hz, h2C]
    · have hz : h2E b = 0 := by simpa using hz
      obtain ⟨f1, f2, f3, f4⟩ := back_end b (by omega) hz
      have ro := ok_read b (by omega)
      refine ⟨_, _, pc_h264_Write _ ro, _, fun _ => pc_h264_Right _ ro, _, fun _ => pc_h264_Canon b (by omega), ?_⟩
      rw [f1, f2]
      simp [f3, f4, h2C, hz]
end Go.Vc
