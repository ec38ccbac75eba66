/-
  The contracts of h264's reference, its reader and the rest.
-/
import Derived.Test.YtodhgafhllbojaaQUe
set_option maxRecDepth 100000
namespace Go.Vc
open Go Go.Proofs Go.Plain
theorem at_drop (b : List UInt8) (i j : Nat) : at_ (b.drop i) j = at_ b (i + j) := by
  simp [at_, List.getD, List.getElem?_drop]
theorem at_take (b : List UInt8) (n j : Nat) (h : j < n) : at_ (b.take n) j = at_ b j := by
  simp [at_, List.getD, h]
theorem two_num (b : List UInt8) (i : Nat) (h : i + 2 ≤ b.length) : num (b.drop i) 0 2 = 256 * at_ b i + at_ b (i + 1) := by
  have e : (b.drop i).take 2 = [b[i], b[i + 1]] := by
    rw [List.drop_eq_getElem_cons (by omega), List.drop_eq_getElem_cons (by omega)]
    rfl
  simp only [num, List.drop_zero, e, at_, List.getD]
  rw [List.getElem?_eq_getElem (by omega), List.getElem?_eq_getElem (by omega)]
  simp [be]
  omega
/-- The unit at a place, as the reference reads it. -/
theorem un_at (b : List UInt8) (i n : Nat) (hn : n ≠ 0) :
    let u : Un := ⟨((at_ b (i + 2) / 32 : Nat) : Int), ((at_ b (i + 2) % 32 : Nat) : Int), (b.take (i + 2 + n)).drop (i + 3)⟩
    (u.right → unE (((b.drop i).drop 2).take n) = 0 ∧ unU (((b.drop i).drop 2).take n) = u) ∧ (¬ u.right → unE (((b.drop i).drop 2).take n) = 6) := by
  intro u
  have e : at_ (((b.drop i).drop 2).take n) 0 = at_ b (i + 2) := by
    rw [at_take _ _ _ (by omega), at_drop, at_drop]
  have hl := at_lt b (i + 2)
  constructor
  · intro hu
    have h0 : unE (((b.drop i).drop 2).take n) = 0 := by
      obtain ⟨u1, u2⟩ := hu
      simp only [u] at u1 u2
      rw [unE, e, if_pos (by omega)]
    refine ⟨h0, ?_⟩
    rw [unU, if_pos h0, e]
    simp only [u, Un.mk.injEq, true_and]
    rw [List.drop_drop, List.drop_take, List.drop_drop, List.drop_take]
    congr 1
    omega
  · intro hu
    rw [unE, e, if_neg]
    intro hc
    apply hu
    unfold Un.right
    simp only [u]
    omega
theorem pc_crossbarref25_Read (b : List UInt8) (hb : b.length ≤ 10000000) : PC Try.prog f_crossbarref25_Read [(Byt, B b)] [(PiSh, PiC (h2P b)), (I64, .int (h2E b))] := by
  apply pcv_crossbarref25_Read rfl
  have i0 : Int.toNat 0 = 0 := rfl
  have i1 : Int.toNat 1 = 1 := rfl
  have i2 : Int.toNat 2 = 2 := rfl
  have hl0 := at_lt b 0
  have hl1 := at_lt b 1
  have bad : ∀ e : Int, h2E b = e → e ≠ 0 → [(PiSh, C.ls [.int 0, .int 0, .ls [], .bool false, .bool false, .ls [.int 0, .int 0, .ls []]]), (I64, C.int e)] = [(PiSh, PiC (h2P b)), (I64, .int (h2E b))] := fun e h1 h2 => by
    rw [h2P, if_pos (by rw [h1]; exact h2), h1]
    rfl
  simp only [vc_crossbarref25_Read, VC.H_asrt, VC.H_cond, VC.H_ret, VC.H_call1, ev_var, ev_int, ev_bool, ev_nil, ev_nilS, ev_cons, ev_bin, ev_add, ev_mul, ev_eql, ev_neq, ev_lss, ev_leq, ev_gtr, ev_geq, ev_not, ev_ite, ev_conv, ev_len, ev_idx, ev_sub, ev_app, ea_nil, ea_cons, env_zero, env_succ, env_cons, env_nil, List.map_cons, List.map_nil, v_int, v_bool, v_ls, bool_ite, pres_nil, orT, orF, andT, andF, notT, notF, nnE, decide_eq_true_eq, decide_eq_false_iff_not, forall_const, Int.not_lt, ofBytes_length, ofBytes_getD, i0, i1, i2, atD, q32, r32, q64, w8m, w8d, ofBytes_take, ofBytes_drop, Int.toNat_natCast, List.take_length, List.length_drop]
  refine ⟨fun h => ?_, fun h => ⟨by omega, by omega, fun h1 => ?_, fun h1 => ⟨fun h2 => ⟨by omega, by omega, by omega, ?_⟩, fun h2 => ⟨fun h3 => ⟨fun h4 => ?_, fun h4 => ⟨by omega, by omega, by omega, by omega, by omega, by omega, ?_⟩⟩, fun h3 => ?_⟩⟩⟩⟩
  · exact bad 2 (by unfold h2E; rw [if_pos (by omega)]) (by decide)
  · refine bad 6 ?_ (by decide)
    unfold h2E
    rw [if_neg (by omega)]
    by_cases h5 : 128 ≤ at_ b 0
    · rw [if_pos h5]
    · rw [if_neg h5, if_neg (by omega), if_neg (by omega), unE, if_neg (by omega)]
  · have hu : unE b = 0 := by rw [unE, if_pos (by omega)]
    have hz : h2E b = 0 := by unfold h2E; rw [if_neg (by omega), if_neg (by omega), if_neg (by omega), if_neg (by omega), hu]
    rw [h2P, if_neg (fun hc => hc hz), if_neg (by omega), if_neg (by omega), hz, unU, if_pos hu]
    rfl
  · exact bad 2 (by unfold h2E; rw [if_neg (by omega), if_neg (by omega), if_neg (by omega), if_pos (by omega), if_pos (by omega)]) (by decide)
  · have eP : C.ls [C.int 3, C.int 0, C.ls [], C.bool (decide ((128 : Int) ≤ ((at_ b 1 : Nat) : Int))), C.bool (decide (((at_ b 1 / 64 % 2 : Nat) : Int) = 1)), C.ls [C.int ((at_ b 0 / 32 : Nat) : Int), C.int ((at_ b 1 % 32 : Nat) : Int), B (b.drop 2)]] = PiC (frP b) := by
      have e5 : decide ((128 : Int) ≤ ((at_ b 1 : Nat) : Int)) = decide (128 ≤ at_ b 1) := by
        rw [decide_eq_decide]
        omega
      have e6 : decide (((at_ b 1 / 64 % 2 : Nat) : Int) = 1) = decide (at_ b 1 / 64 % 2 = 1) := by
        rw [decide_eq_decide]
        omega
      rw [e5, e6]
      rfl
    rw [eP]
    refine ⟨_, pc_crossbarref25_Right (frP b) ⟨Nat.zero_le _, ?_, fun u hu => by cases hu⟩, fun h2 => ?_, fun h2 => ?_⟩
    · show (b.drop 2).length ≤ _
      rw [List.length_drop]
      omega
    · have h2 : ¬ (frP b).right := by simpa using h2
      exact bad 6 (by unfold h2E; rw [if_neg (by omega), if_neg (by omega), if_neg (by omega), if_pos (by omega), if_neg (by omega), if_neg h2]) (by decide)
    · have h2 : (frP b).right := by simpa using h2
      have hz : h2E b = 0 := by unfold h2E; rw [if_neg (by omega), if_neg (by omega), if_neg (by omega), if_pos (by omega), if_neg (by omega), if_pos h2]
      rw [h2P, if_neg (fun hc => hc hz), if_neg (by omega), if_pos (by omega), hz]
  · have hE : b.length ≠ 1 → h2E b = tgE (b.drop 1) := fun h => by
      unfold h2E
      rw [if_neg (by omega), if_neg (by omega), if_pos (by omega), if_neg h]
    refine VC.go_loop (fun s : Nat × List Un => [.int 0, .int s.1, .int 0, .int 0, .ls [], .bool false, .bool false, .int 0, .int 0, .ls [], .ls (s.2.map UnC)])
      (fun s => 1 ≤ s.1 ∧ s.1 ≤ b.length ∧ s.2.length ≤ s.1 ∧ tgE (b.drop s.1) = tgE (b.drop 1) ∧ (tgE (b.drop s.1) = 0 → s.2 ++ tgU (b.drop s.1) = tgU (b.drop 1))) (fun s => b.length - s.1) (1, []) ?_ ?_ fun s hs => ?_
    · simp only [ev_int, ev_bool, ev_nil, ev_nilS, List.map_cons, List.map_nil]
      rfl
    · exact ⟨Nat.le_refl _, by simp only; omega, Nat.zero_le _, rfl, fun _ => rfl⟩
    · obtain ⟨i, l⟩ := s
      obtain ⟨s0, s1, s5, s2, s3⟩ := hs
      simp only at s0 s1 s2 s3 s5
      have j1 : ((i : Int) + 1).toNat = i + 1 := by omega
      have j2 : ((i : Int) + 2).toNat = i + 2 := by omega
      have j3 : ((i : Int) + 2 + 1).toNat = i + 3 := by omega
      simp only [VC.H_asrt, VC.H_cond, VC.H_ret, VC.H_back, VC.H_call1, ev_var, ev_int, ev_bool, ev_nil, ev_nilS, ev_cons, ev_bin, ev_add, ev_sub', ev_mul, ev_eql, ev_lss, ev_leq, ev_gtr, ev_geq, ev_not, ev_ite, ev_conv, ev_len, ev_idx, ev_sub, ev_app, ev_fits64, ea_nil, ea_cons, env_zero, env_succ, env_cons, env_nil, List.map_cons, List.map_nil, v_int, v_bool, v_ls, bool_ite, pres_nil, pres_cons, orT, orF, notT, notF, decide_eq_true_eq, decide_eq_false_iff_not, forall_const, and_true, Int.not_lt, ofBytes_length, ofBytes_getD, atD, q32, r32, w8, w8m, w8d, ofBytes_take, ofBytes_drop, Int.toNat_natCast, List.length_drop, List.length_take, j1, j2, j3, i0]
      refine ⟨fun c1 => ⟨fun c2 => ?_, fun c2 => ⟨by omega, fun c3 => ?_, fun c3 => ?_⟩⟩, fun c1 => ?_⟩
      · exact bad 2 (by unfold h2E; rw [if_neg (by omega), if_neg (by omega), if_pos (by omega), if_pos (by omega)]) (by decide)
      · refine bad 4 ?_ (by decide)
        rw [hE (by omega), ← s2]
        exact tg_bad (by rw [List.length_drop]; omega) (by rw [List.length_drop]; omega)
      · have hn := two_num b i (by omega)
        have hlt : num (b.drop i) 0 2 < 65536 := num_lt (b.drop i) 0 2
        have en : (256 : Int) * ((at_ b i : Nat) : Int) + ((at_ b (i + 1) : Nat) : Int) = ((num (b.drop i) 0 2 : Nat) : Int) := by omega
        have b1 := at_lt b i
        have b2 := at_lt b (i + 1)
        rw [en]
        have j4 : ((i : Int) + 2 + ((num (b.drop i) 0 2 : Nat) : Int)).toNat = i + 2 + num (b.drop i) 0 2 := by omega
        rw [j4]
        refine ⟨by omega, by omega, by omega, by omega, by omega, by omega, by omega, by omega, fun _ => by omega, fun c4 => ?_, fun c4 => ⟨by omega, by omega, by omega, by omega, by omega, by omega, by omega, by omega, by omega, by omega, ?_⟩⟩
        · refine bad 4 ?_ (by decide)
          rw [hE (by omega), ← s2]
          exact tg_bad (by rw [List.length_drop]; omega) (by rw [List.length_drop]; omega)
        · obtain ⟨u1, u2⟩ := un_at b i (num (b.drop i) 0 2) (by omega)
          have ld : (b.drop i).length = b.length - i := List.length_drop
          obtain ⟨t1, t2, t3⟩ := tg_step (b := b.drop i) (by omega) (by omega) (by omega) (by omega)
          refine ⟨_, pc_crossbarref25_unit ⟨((at_ b (i + 2) / 32 : Nat) : Int), ((at_ b (i + 2) % 32 : Nat) : Int), (b.take (i + 2 + num (b.drop i) 0 2)).drop (i + 3)⟩, fun c5 => ?_, fun c5 => ?_⟩
          · have c5 := u2 (by simpa using c5)
            refine bad 6 ?_ (by decide)
            rw [hE (by omega), ← s2, t1 (by rw [c5]; decide), c5]
          · obtain ⟨c5, c6⟩ := u1 (by simpa using c5)
            have t2 := t2 c5
            rw [c6] at t3
            rw [List.drop_drop] at t2 t3
            have ea : i + (2 + num (b.drop i) 0 2) = i + 2 + num (b.drop i) 0 2 := by omega
            rw [ea] at t2 t3
            refine ⟨by simp; omega, by omega, (i + 2 + num (b.drop i) 0 2, l ++ [⟨((at_ b (i + 2) / 32 : Nat) : Int), ((at_ b (i + 2) % 32 : Nat) : Int), (b.take (i + 2 + num (b.drop i) 0 2)).drop (i + 3)⟩]), ?_, ⟨by simp only; omega, by simp only; omega, ?_, ?_, ?_⟩, ?_⟩
            · simp only [List.map_append, List.map_cons, List.map_nil]
              have e : (i : Int) + 2 + ((num (b.drop i) 0 2 : Nat) : Int) = ((i + 2 + num (b.drop i) 0 2 : Nat) : Int) := by omega
              rw [e]
            · simp only [List.length_append, List.length_cons, List.length_nil]
              omega
            · exact t2.symm.trans s2
            · intro h5
              have := s3 (t2.trans h5)
              rw [t3] at this
              simpa using this
            · simp only
              omega
      · have hi : i = b.length := by omega
        rw [hi, List.drop_length, tgE_nil] at s2 s3
        have s3 := s3 rfl
        rw [tgU_nil, List.append_nil] at s3
        have hz : h2E b = 0 := by rw [hE (by omega), ← s2]
        rw [h2P, if_neg (fun hc => hc hz), if_pos (by omega), hz, ← s3]
        rfl
theorem pc_crossbarref25_Canon (b : List UInt8) (hb : b.length ≤ 10000000) : PC Try.prog f_crossbarref25_Canon [(Byt, B b)] [(.bool, .bool (decide (h2C b)))] := by
  apply pcv_crossbarref25_Canon rfl
  simp only [vc_crossbarref25_Canon, VC.H_ret, VC.H_call1, VC.H_call2, ev_var, ev_int, ev_bool, ev_nil, ev_cons, ev_hd, ev_tl, ev_eql, ev_seql, ev_ite, ev_toStr, ea_nil, ea_cons, env_zero, env_succ, env_cons, env_nil, List.map_cons, List.map_nil, v_int, v_bool, v_str, v_ls, bool_ite, pres_nil, pres_cons, decide_eq_true_eq, forall_const, and_true]
  refine ⟨_, _, pc_crossbarref25_Read b (by omega), B (h2P b).bytes, fun h => ?_, ?_⟩
  · obtain ⟨s1, s2⟩ := h2_same b h
    exact pc_crossbarref25_Write (h2P b) s1 (ok_of_bytes s1 (by omega))
  · simp only [v_int, v_ls, bytesOf_ofBytes]
    apply boolR
    simp only [Bool.ite_eq_true_distrib, Bool.false_eq_true, if_false_right, decide_eq_true_eq, h2C]
theorem pi_ext (p q : Pi) : p = q ↔ p.kind = q.kind ∧ p.ref = q.ref ∧ p.start = q.start ∧ p.fin = q.fin ∧ p.part = q.part ∧ p.units = q.units := by
  obtain ⟨a, b, c, d, e, f⟩ := p
  obtain ⟨a', b', c', d', e', f'⟩ := q
  simp only [Pi.mk.injEq]
  constructor
  · rintro ⟨h1, h2, h3, h4, h5, h6⟩
    exact ⟨h1, h2, h4, h5, h6, h3⟩
  · rintro ⟨h1, h2, h4, h5, h6, h3⟩
    exact ⟨h1, h2, h3, h4, h5, h6⟩
theorem take_ext {α : Type} {l m : List α} {i : Nat} (d : α) (h : i < l.length) (hm : i < m.length) (h1 : l.take i = m.take i) (h2 : l.getD i d = m.getD i d) : l.take (i + 1) = m.take (i + 1) := by
  have e1 : l.getD i d = l[i] := by simp [List.getD, h]
  have e2 : m.getD i d = m[i] := by simp [List.getD, hm]
  rw [e1, e2] at h2
  rw [List.take_succ_eq_append_getElem h, List.take_succ_eq_append_getElem hm, h1, h2]
theorem pc_crossbarref25_Same (p q : Pi) (hp : Pi.ok p) : PC Try.prog f_crossbarref25_Same [(PiSh, PiC p), (PiSh, PiC q)] [(.bool, .bool (decide (p = q)))] := by
  apply pcv_crossbarref25_Same rfl
  simp only [vc_crossbarref25_Same, VC.H_cond, VC.H_ret, VC.H_call1, ev_var, ev_bool, ev_nil, ev_cons, ev_hd, ev_tl, ev_neq, ev_beq, ev_not, ev_ite, ev_len, ea_nil, ea_cons, env_zero, env_succ, env_cons, env_nil, List.map_cons, List.map_nil, v_int, v_bool, v_ls, v_hd, v_tl, bool_ite, pres_nil, pres_cons, orT, orF, notT, notF, nnE, decide_eq_true_eq, decide_eq_false_iff_not, and_true, List.length_map]
  refine ⟨_, fun _ => pc_crossbarref25_SameUnit p.part q.part, fun h => ?_, fun h => ?_⟩
  · rw [show (false : Bool) = decide (p = q) by
      symm
      rw [decide_eq_false_iff_not]
      intro he
      subst he
      simp at h]
  · have hq : p.kind = q.kind ∧ p.ref = q.ref ∧ p.start = q.start ∧ p.fin = q.fin ∧ p.part = q.part ∧ p.units.length = q.units.length := by
      simp only [v_bool, decide_eq_false_iff_not, Decidable.not_not, ne_eq, not_or] at h
      exact ⟨h.1.1.1.1.1, h.1.1.1.1.2, h.1.1.1.2, h.1.1.2, h.1.2, by omega⟩
    obtain ⟨q1, q2, q3, q4, q5, q6⟩ := hq
    have hsl := hp.1
    refine VC.go_loop (fun i : Nat => [.bool false, .int i]) (fun i => i ≤ p.units.length ∧ p.units.take i = q.units.take i) (fun i => p.units.length - i) 0 rfl ⟨Nat.zero_le _, rfl⟩ fun i hi => ?_
    simp only [VC.H_asrt, VC.H_cond, VC.H_ret, VC.H_back, VC.H_call1, ev_var, ev_int, ev_bool, ev_hd, ev_tl, ev_add, ev_lss, ev_geq, ev_not, ev_len, ev_idx, ev_fits64, ea_nil, ea_cons, env_zero, env_succ, env_cons, env_nil, List.map_cons, List.map_nil, v_int, v_bool, v_ls, v_hd, v_tl, pres_nil, notT, notF, decide_eq_true_eq, decide_eq_false_iff_not, forall_const, Int.not_lt, List.length_map]
    refine ⟨fun hl => ⟨by omega, by omega, by omega, by omega, ?_⟩, fun hl => ?_⟩
    · rw [Int.toNat_natCast, un_getD _ _ (by omega), un_getD _ _ (by omega)]
      refine ⟨_, pc_crossbarref25_SameUnit _ _, fun hb => ?_, fun hg => ⟨by omega, i + 1, by simp, ⟨by omega, take_ext Un.zero (by omega) (by omega) hi.2 (by simpa using hg)⟩, by omega⟩⟩
      rw [show (false : Bool) = decide (p = q) by
        symm
        rw [decide_eq_false_iff_not]
        intro he
        subst he
        simp at hb]
    · rw [show (true : Bool) = decide (p = q) by
        symm
        rw [decide_eq_true_eq, pi_ext]
        have h6 := hi.2
        rw [List.take_of_length_le (by omega), List.take_of_length_le (by omega)] at h6
        exact ⟨q1, q2, q3, q4, q5, h6⟩]
theorem pc_crossbarref25_Short (p : Pi) : PC Try.prog f_crossbarref25_Short [(PiSh, PiC p)] [(.bool, .bool (decide (p.units.length ≤ 60 ∧ p.part.bytes.length ≤ 70000 ∧ ∀ u ∈ p.units, u.bytes.length ≤ 70000)))] := by
  apply pcv_crossbarref25_Short rfl
  simp only [vc_crossbarref25_Short]
  refine VC.go_loop (fun i : Nat => [.bool false, .int i]) (fun i => i ≤ p.units.length ∧ i ≤ 60 ∧ ∀ u ∈ p.units.take i, u.bytes.length ≤ 70000) (fun i => p.units.length - i) 0 rfl ⟨Nat.zero_le _, Nat.zero_le _, by simp⟩ fun i hi => ?_
  simp only [VC.H_asrt, VC.H_cond, VC.H_ret, VC.H_back, ev_var, ev_int, ev_bool, ev_hd, ev_tl, ev_add, ev_lss, ev_leq, ev_gtr, ev_geq, ev_ite, ev_len, ev_idx, ev_fits64, ea_nil, ea_cons, env_zero, env_succ, env_cons, env_nil, List.map_cons, List.map_nil, v_int, v_bool, v_ls, v_hd, v_tl, bool_ite, pres_nil, andT, andF, decide_eq_true_eq, decide_eq_false_iff_not, forall_const, Int.not_lt, List.length_map, ofBytes_length]
  refine ⟨fun hl => ⟨by omega, by omega, ?_⟩, fun hl => ?_⟩
  · have hmem := un_mem (l := p.units) (i := i) (by omega)
    rw [Int.toNat_natCast, un_getD _ _ (by omega)]
    simp only [v_hd, v_tl, v_ls, ofBytes_length]
    refine ⟨fun hbad => ?_, fun hgood => ⟨by omega, i + 1, by simp, ⟨by omega, by omega, un_take (q := fun u => u.bytes.length ≤ 70000) (by omega) hi.2.2 (by omega)⟩, by omega⟩⟩
    rw [show (false : Bool) = decide (p.units.length ≤ 60 ∧ p.part.bytes.length ≤ 70000 ∧ ∀ u ∈ p.units, u.bytes.length ≤ 70000) by
      symm
      rw [decide_eq_false_iff_not]
      rintro ⟨_, _, h⟩
      have := h _ hmem
      omega]
  · apply boolR
    simp only [Bool.ite_eq_true_distrib, Bool.false_eq_true, if_false_right, decide_eq_true_eq]
    constructor
    · intro hx
      have h6 := hi.2.2
      rw [List.take_of_length_le (by omega)] at h6
      exact ⟨by omega, by omega, h6⟩
    · rintro ⟨h1, h2, _⟩
      omega
end Go.Vc
