/-
  The law of the parts of h264's units.
-/
import Derived.Test.YtodhgafhllbojaaQVum
import Derived.Test.YtodhgafhllbojaaQUj
set_option maxRecDepth 100000
namespace Go.Vc
open Go Go.Proofs Go.Plain
theorem parts_ok (n : Nat) (u : Un) : ∀ (k : Nat) (b : List UInt8) (f : Bool), b.length = k → k ≤ 1000000 → (parts n u f b).length ≤ b.length ∧ ∀ p ∈ parts n u f b, Pi.ok p := by
  intro k
  induction k using Nat.strongRecOn with
  | ind k ih =>
    intro b f hk hb
    by_cases h0 : b.length = 0
    · rw [List.eq_nil_of_length_eq_zero h0, parts_nil]
      exact ⟨Nat.le_refl 0, fun p hp => by cases hp⟩
    · rw [parts_cons _ _ _ _ h0]
      have hd : (b.drop (n + 1)).length = b.length - (n + 1) := List.length_drop
      obtain ⟨i1, i2⟩ := ih (b.drop (n + 1)).length (by omega) (b.drop (n + 1)) false rfl (by omega)
      refine ⟨by rw [List.length_cons]; omega, fun p hp => ?_⟩
      rcases List.mem_cons.1 hp with rfl | hp
      · refine ⟨Nat.zero_le _, ?_, fun v hv => by cases hv⟩
        simp only [List.length_take]
        omega
      · exact i2 p hp
theorem split_ok (u : Un) (m : Int) (hb : u.bytes.length ≤ 3000) : (spL u m).length ≤ 3001 ∧ ∀ p ∈ spL u m, Pi.ok p := by
  unfold spL
  split
  · exact ⟨by decide, fun p hp => by cases hp⟩
  · split
    · refine ⟨show (1 : Nat) ≤ 3001 by decide, fun p hp => ?_⟩
      simp only [List.mem_singleton] at hp
      subst hp
      refine ⟨show (1 : Nat) ≤ 10000000 by decide, show (0 : Nat) ≤ 10000000 by decide, fun v hv => ?_⟩
      simp only [List.mem_singleton] at hv
      subst hv
      omega
    · obtain ⟨h1, h2⟩ := parts_ok (m - 3).toNat u _ u.bytes true rfl (by omega)
      exact ⟨by omega, h2⟩
theorem law_H264Parts (cs : List C) (h : TyAll [UnSh, I64, PisSh] cs) : PC Try.prog f_crossbarlaw25_H264Parts ([UnSh, I64, PisSh].zip cs) [(.bool, .bool true)] := by
  obtain ⟨_, _, rfl, h1, _, _, rfl, h2, _, _, rfl, h3, rfl⟩ := h
  obtain ⟨u, rfl, _⟩ := ty_un h1
  obtain ⟨m, rfl, _, hm⟩ := ty_i64m h2
  obtain ⟨l, rfl, _, hl⟩ := h3
  obtain ⟨l, rfl, _⟩ := ty_list (e := PiC) (P := fun _ => True) fun x hx => ty_pi (hl x hx)
  apply pcv_crossbarlaw25_H264Parts rfl
  simp only [vc_crossbarlaw25_H264Parts, VC.H_cond, VC.H_ret, VC.H_call1, ev_var, ev_int, ev_bool, ev_hd, ev_tl, ev_gtr, ev_not, ev_ite, ev_len, ea_nil, ea_cons, env_zero, env_succ, env_cons, env_nil, List.map_cons, List.map_nil, List.zip_cons_cons, List.zip_nil_right, v_int, v_bool, v_ls, v_hd, v_tl, bool_ite, pres_nil, orT, orF, notT, notF, decide_eq_true_eq, decide_eq_false_iff_not, forall_const, Int.not_lt, ofBytes_length, List.length_map]
  refine ⟨_, pc_crossbarlaw25_awake, fun h => by simp at h, fun _ => ⟨fun _ => trivial, fun hb => ?_⟩⟩
  refine VC.go_loop (fun i : Nat => [.bool false, .int i]) (fun i => i ≤ l.length ∧ ∀ p ∈ l.take i, Pi.ok p) (fun i => l.length - i) 0 rfl ⟨Nat.zero_le _, by simp⟩ fun i hi => ?_
  simp only [VC.H_asrt, VC.H_cond, VC.H_ret, VC.H_back, VC.H_call1, VC.H_call2, ev_var, ev_int, ev_bool, ev_nil, ev_cons, ev_hd, ev_tl, ev_add, ev_eql, ev_lss, ev_geq, ev_not, ev_ite, ev_len, ev_idx, ev_fits64, ea_nil, ea_cons, env_zero, env_succ, env_cons, env_nil, List.map_cons, List.map_nil, v_int, v_bool, v_ls, v_hd, v_tl, toBool_ite, bool_ite, pres_nil, pres_cons, andT, notT, notF, decide_eq_true_eq, decide_eq_false_iff_not, forall_const, and_true, Int.not_lt, List.length_map]
  refine ⟨fun hc => ⟨by omega, by omega, ?_⟩, fun hc => ?_⟩
  · rw [Int.toNat_natCast, pi_getD _ _ (by omega)]
    refine ⟨_, pc_crossbarref25_Short _, fun _ => trivial, fun hg => ⟨by omega, i + 1, rfl, ⟨by omega, pi_take (by omega) hi.2 (ok_short (by simpa using hg))⟩, by omega⟩⟩
  · have hp := hi.2
    rw [List.take_of_length_le (by omega)] at hp
    obtain ⟨o1, o2⟩ := split_ok u m (by omega)
    refine ⟨_, _, pc_h264_Split u m hm (by omega), _, _, pc_crossbarref25_Split u m hm (by omega), _, _, pc_h264_Join l (by omega) hp, _, _, pc_crossbarref25_Join l (by omega) hp, _, fun _ => pc_crossbarref25_Pieces _ _ (by omega) o2, _, fun _ => pc_crossbarref25_SameUnit _ _, ?_⟩
    simp
end Go.Vc
