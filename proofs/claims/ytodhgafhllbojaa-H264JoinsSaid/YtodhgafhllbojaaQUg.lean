/-
  The contracts of Split and Join, of h264 and of its reference.
-/
import Derived.Test.YtodhgafhllbojaaQUf
import Derived.Test.YtodhgafhllbojaaQBase3
set_option maxRecDepth 100000
namespace Go.Vc
open Go Go.Proofs Go.Plain
theorem pi_getD (l : List Pi) (i : Nat) (h : i < l.length) : (l.map PiC).getD i default = PiC (l.getD i Pi.zero) := by
  simp [List.getD, h]
theorem pi_mem {l : List Pi} {i : Nat} (h : i < l.length) : l.getD i Pi.zero ∈ l := by
  simp [List.getD, h]
theorem pi_take {l : List Pi} {q : Pi → Prop} {i : Nat} (h : i < l.length) (h1 : ∀ u ∈ l.take i, q u) (h2 : q (l.getD i Pi.zero)) : ∀ u ∈ l.take (i + 1), q u := by
  intro b hb
  rw [List.take_succ_eq_append_getElem h] at hb
  rcases List.mem_append.1 hb with hb | hb
  · exact h1 b hb
  · simp only [List.mem_singleton] at hb
    have e : l.getD i Pi.zero = l[i] := by simp [List.getD, h]
    rw [hb, ← e]
    exact h2
abbrev PisSh : Sh := .sl PiSh
abbrev PisC (l : List Pi) : C := .ls (l.map PiC)
theorem take_min {α : Type} (x : List α) (k : Nat) : x.take (min k x.length) = x.take k := by
  by_cases h : k ≤ x.length
  · rw [Nat.min_eq_left h]
  · rw [Nat.min_eq_right (by omega), List.take_length, List.take_of_length_le (by omega)]
theorem drop_min {α : Type} (x : List α) (k : Nat) : x.drop (min k x.length) = x.drop k := by
  by_cases h : k ≤ x.length
  · rw [Nat.min_eq_left h]
  · rw [Nat.min_eq_right (by omega), List.drop_length, List.drop_of_length_le (by omega)]
theorem pc_h264_Split (u : Un) (m : Int) (hm : m ≤ 9223372036854775807) (hb : u.bytes.length ≤ 100000) : PC Try.prog f_h264_Split [(UnSh, UnC u), (I64, .int m)] [(PisSh, PisC (spL u m)), (I64, .int (spE u m))] := by
  apply pcv_h264_Split rfl
  simp only [vc_h264_Split, VC.H_cond, VC.H_ret, VC.H_call1, ev_var, ev_int, ev_bool, ev_nil, ev_nilS, ev_cons, ev_hd, ev_tl, ev_lss, ev_not, ev_ite, ev_len, ea_nil, ea_cons, env_zero, env_succ, env_cons, env_nil, List.map_cons, List.map_nil, v_int, v_bool, v_ls, v_hd, v_tl, bool_ite, pres_nil, orT, orF, notT, decide_eq_true_eq, decide_eq_false_iff_not, forall_const, Int.not_lt, ofBytes_length]
  refine ⟨_, pc_h264_rightUnit u, fun h => ?_, fun h => ⟨fun h2 => ⟨_, pc_bytes_Clone u.bytes (by omega), ?_⟩, fun h2 => ?_⟩⟩
  · have h : ¬ u.right ∨ m < 3 := by simpa using h
    rw [spL, spE, if_pos h, if_pos h]
    rfl
  · have h : ¬ (¬ u.right ∨ m < 3) := by simpa using h
    rw [spL, spE, if_neg h, if_neg h, if_pos h2]
    rfl
  · have h : ¬ (¬ u.right ∨ m < 3) := by simpa using h
    rw [spL, spE, if_neg h, if_neg h, if_neg (by omega)]
    have h3 : 3 ≤ m := by omega
    refine VC.go_loop (fun s : List Pi × List UInt8 => [.ls (s.1.map PiC), B s.2])
      (fun s => s.1.length + s.2.length ≤ u.bytes.length ∧ s.1 ++ parts (m - 3).toNat u (decide (s.1.length = 0)) s.2 = parts (m - 3).toNat u true u.bytes) (fun s => s.2.length) ([], u.bytes) ?_ ?_ fun s hs => ?_
    · simp only [ev_var, ev_nil, ev_hd, ev_tl, env_zero, List.map_cons, List.map_nil, v_hd, v_tl]
    · exact ⟨by simp, by simp⟩
    · obtain ⟨l, x⟩ := s
      obtain ⟨s1, s2⟩ := hs
      simp only at s1 s2
      simp only [VC.H_asrt, VC.H_cond, VC.H_ret, VC.H_back, VC.H_call1, ev_var, ev_int, ev_nil, ev_nilS, ev_cons, ev_hd, ev_tl, ev_add, ev_sub', ev_mul, ev_eql, ev_leq, ev_gtr, ev_geq, ev_len, ev_sub, ev_app, ev_minI, ev_fits64, ea_nil, ea_cons, env_zero, env_succ, env_cons, env_nil, List.map_cons, List.map_nil, v_int, v_bool, v_ls, v_hd, v_tl, pres_nil, decide_eq_true_eq, decide_eq_false_iff_not, forall_const, Int.not_lt, ofBytes_length, ofBytes_take, ofBytes_drop, Int.toNat_natCast, List.take_length, List.length_map]
      refine ⟨fun c => ?_, fun c => ?_⟩
      · have i0 : Int.toNat 0 = 0 := rfl
        obtain ⟨n, hn⟩ : ∃ n, n = (m - 3).toNat := ⟨_, rfl⟩
        rw [← hn] at s2 ⊢
        have ek : (min (m - 2) (x.length : Int)).toNat = min (n + 1) x.length := by omega
        have et : x.take (min (n + 1) x.length) = x.take (n + 1) := take_min x _
        have ed : x.drop (min (n + 1) x.length) = x.drop (n + 1) := drop_min x _
        have el : decide (((l.length : Nat) : Int) = 0) = decide (l.length = 0) := by rw [decide_eq_decide]; omega
        have ee : decide (min (m - 2) (x.length : Int) = (x.length : Int)) = decide (x.length ≤ n + 1) := by rw [decide_eq_decide]; omega
        rw [ek, et, ed, i0, List.drop_zero, el, ee]
        rw [parts_cons _ _ _ _ (by omega)] at s2
        refine ⟨by omega, by omega, by omega, _, pc_bytes_Clone _ (by rw [List.length_take]; omega), by simp only [List.length_cons, List.length_nil]; omega, by omega, by omega, by omega, (l ++ [⟨3, 0, [], decide (l.length = 0), decide (x.length ≤ n + 1), ⟨u.ref, u.typ, x.take (n + 1)⟩⟩], x.drop (n + 1)), ?_, ⟨?_, ?_⟩, ?_⟩
        · simp only [List.map_append, List.map_cons, List.map_nil]
          rfl
        · simp only [List.length_append, List.length_cons, List.length_nil, List.length_drop]
          omega
        · simp only [List.length_append, List.length_cons, List.length_nil]
          rw [← s2]
          simp
        · simp only [List.length_drop]
          omega
      · have hx : x = [] := List.eq_nil_of_length_eq_zero (by omega)
        rw [hx, parts_nil, List.append_nil] at s2
        rw [s2]
theorem pc_crossbarref25_Split (u : Un) (m : Int) (hm : m ≤ 9223372036854775807) (hb : u.bytes.length ≤ 100000) : PC Try.prog f_crossbarref25_Split [(UnSh, UnC u), (I64, .int m)] [(PisSh, PisC (spL u m)), (I64, .int (spE u m))] := by
  apply pcv_crossbarref25_Split rfl
  simp only [vc_crossbarref25_Split, VC.H_asrt, VC.H_cond, VC.H_ret, VC.H_call1, ev_var, ev_int, ev_bool, ev_nil, ev_nilS, ev_cons, ev_hd, ev_tl, ev_add, ev_lss, ev_leq, ev_not, ev_ite, ev_len, ev_fits64, ea_nil, ea_cons, env_zero, env_succ, env_cons, env_nil, List.map_cons, List.map_nil, v_int, v_bool, v_ls, v_hd, v_tl, bool_ite, pres_nil, orT, orF, notT, decide_eq_true_eq, decide_eq_false_iff_not, forall_const, Int.not_lt, Int.not_le, ofBytes_length]
  refine ⟨_, pc_crossbarref25_unit u, fun h => ?_, fun h => ⟨by omega, fun h2 => ?_, fun h2 => ?_⟩⟩
  · have h : ¬ u.right ∨ m < 3 := by simpa using h
    rw [spL, spE, if_pos h, if_pos h]
    rfl
  · have h : ¬ (¬ u.right ∨ m < 3) := by simpa using h
    rw [spL, spE, if_neg h, if_neg h, if_pos (by omega)]
    rfl
  · have h : ¬ (¬ u.right ∨ m < 3) := by simpa using h
    rw [spL, spE, if_neg h, if_neg h, if_neg (by omega)]
    have h3 : 3 ≤ m := by omega
    refine VC.go_loop (fun s : List Pi × Nat => [.ls (s.1.map PiC), .int s.2])
      (fun s => s.1.length ≤ s.2 ∧ s.2 ≤ u.bytes.length ∧ s.1 ++ parts (m - 3).toNat u (decide (s.2 = 0)) (u.bytes.drop s.2) = parts (m - 3).toNat u true u.bytes) (fun s => u.bytes.length - s.2) ([], 0) ?_ ?_ fun s hs => ?_
    · simp only [ev_int, ev_nil, List.map_cons, List.map_nil]
      rfl
    · exact ⟨by simp, by simp, by simp⟩
    · obtain ⟨l, x⟩ := s
      obtain ⟨s1, s0, s2⟩ := hs
      simp only at s0 s1 s2
      obtain ⟨n, hn⟩ : ∃ n, n = (m - 3).toNat := ⟨_, rfl⟩
      rw [← hn] at s2 ⊢
      have ek : (if m - 2 < (u.bytes.length : Int) - (x : Int) then m - 2 else (u.bytes.length : Int) - (x : Int)) = ((min (n + 1) (u.bytes.length - x) : Nat) : Int) := by split <;> omega
      have ek2 : ((x : Int) + ((min (n + 1) (u.bytes.length - x) : Nat) : Int)).toNat = x + min (n + 1) (u.bytes.length - x) := by omega
      simp only [VC.H_asrt, VC.H_cond, VC.H_ret, VC.H_back, ev_var, ev_int, ev_nil, ev_nilS, ev_cons, ev_hd, ev_tl, ev_add, ev_sub', ev_mul, ev_eql, ev_lss, ev_leq, ev_gtr, ev_geq, ev_ite, ev_len, ev_sub, ev_app, ev_fits64, ea_nil, ea_cons, env_zero, env_succ, env_cons, env_nil, List.map_cons, List.map_nil, v_int, v_bool, v_ls, v_hd, v_tl, int_ite, pres_nil, pres_cons, decide_eq_true_eq, decide_eq_false_iff_not, forall_const, and_true, Int.not_lt, ofBytes_length, ofBytes_take, ofBytes_drop, Int.toNat_natCast, List.length_map, List.length_drop, List.length_take, ek, ek2]
      refine ⟨fun c => ?_, fun c => ?_⟩
      · have lx : (u.bytes.drop x).length = u.bytes.length - x := List.length_drop
        have et : (u.bytes.take (x + min (n + 1) (u.bytes.length - x))).drop x = (u.bytes.drop x).take (n + 1) := by
          rw [List.drop_take, ← lx, show x + min (n + 1) (u.bytes.drop x).length - x = min (n + 1) (u.bytes.drop x).length by omega, take_min]
        have ed : u.bytes.drop (x + min (n + 1) (u.bytes.length - x)) = (u.bytes.drop x).drop (n + 1) := by
          rw [← List.drop_drop, ← lx, drop_min]
        have el : decide (((x : Nat) : Int) = 0) = decide (x = 0) := by rw [decide_eq_decide]; omega
        have ee : decide ((x : Int) + ((min (n + 1) (u.bytes.length - x) : Nat) : Int) = (u.bytes.length : Int)) = decide ((u.bytes.drop x).length ≤ n + 1) := by rw [decide_eq_decide]; omega
        rw [et, el, ee]
        rw [parts_cons _ _ _ _ (by omega)] at s2
        refine ⟨by omega, by omega, fun _ => by omega, by omega, by omega, by omega, by omega, by omega, by omega, by simp only [List.length_cons, List.length_nil]; omega, by omega, (l ++ [⟨3, 0, [], decide (x = 0), decide ((u.bytes.drop x).length ≤ n + 1), ⟨u.ref, u.typ, (u.bytes.drop x).take (n + 1)⟩⟩], x + min (n + 1) (u.bytes.length - x)), ?_, ⟨?_, ?_, ?_⟩, ?_⟩
        · simp only [List.map_append, List.map_cons, List.map_nil]
          rfl
        · simp only [List.length_append, List.length_cons, List.length_nil]
          omega
        · simp only
          omega
        · simp only [ed]
          rw [← s2, show decide (x + min (n + 1) (u.bytes.length - x) = 0) = false by rw [decide_eq_false_iff_not]; omega]
          simp
        · simp only
          omega
      · have hx : u.bytes.drop x = [] := List.drop_of_length_le (by omega)
        rw [hx, parts_nil, List.append_nil] at s2
        rw [s2]
theorem pc_crossbarref25_Pieces (l m : List Pi) (hl : l.length ≤ 100000) (hp : ∀ p ∈ l, Pi.ok p) : PC Try.prog f_crossbarref25_Pieces [(PisSh, PisC l), (PisSh, PisC m)] [(.bool, .bool (decide (l = m)))] := by
  apply pcv_crossbarref25_Pieces rfl
  simp only [vc_crossbarref25_Pieces, VC.H_cond, VC.H_ret, ev_var, ev_bool, ev_neq, ev_len, ea_nil, ea_cons, env_zero, env_succ, List.map_cons, List.map_nil, v_int, v_bool, v_ls, nnE, decide_eq_true_eq, decide_eq_false_iff_not, List.length_map]
  refine ⟨fun h => ?_, fun h => ?_⟩
  · rw [show (false : Bool) = decide (l = m) by
      symm
      rw [decide_eq_false_iff_not]
      intro he
      subst he
      exact h rfl]
  · refine VC.go_loop (fun i : Nat => [.bool false, .int i]) (fun i => i ≤ l.length ∧ l.take i = m.take i) (fun i => l.length - i) 0 rfl ⟨Nat.zero_le _, rfl⟩ fun i hi => ?_
    simp only [VC.H_asrt, VC.H_cond, VC.H_ret, VC.H_back, VC.H_call1, ev_var, ev_int, ev_bool, ev_add, ev_lss, ev_geq, ev_not, ev_len, ev_idx, ev_fits64, ea_nil, ea_cons, env_zero, env_succ, env_cons, env_nil, List.map_cons, List.map_nil, v_int, v_bool, v_ls, pres_nil, notT, notF, decide_eq_true_eq, decide_eq_false_iff_not, forall_const, Int.not_lt, List.length_map]
    refine ⟨fun hc => ⟨by omega, by omega, by omega, by omega, ?_⟩, fun hc => ?_⟩
    · rw [Int.toNat_natCast, pi_getD _ _ (by omega), pi_getD _ _ (by omega)]
      refine ⟨_, pc_crossbarref25_Same _ _ (hp _ (pi_mem (by omega))), fun hb => ?_, fun hg => ⟨by omega, i + 1, by simp, ⟨by omega, take_ext Pi.zero (by omega) (by omega) hi.2 (by simpa using hg)⟩, by omega⟩⟩
      rw [show (false : Bool) = decide (l = m) by
        symm
        rw [decide_eq_false_iff_not]
        intro he
        subst he
        simp at hb]
    · rw [show (true : Bool) = decide (l = m) by
        symm
        rw [decide_eq_true_eq]
        have h6 := hi.2
        rwa [List.take_of_length_le (by omega), List.take_of_length_le (by omega)] at h6]
end Go.Vc
