/-
  The laws of vp8: each function returns true, whatever it is handed.
-/
import Derived.Test.YthfljfcpeoofiaaQVvl
import Derived.Test.YthfljfcpeoofiaaQVh8
import Derived.Test.YthfljfcpeoofiaaQBase3
set_option maxRecDepth 100000
namespace Go.Vc
open Go Go.Proofs Go.Plain
theorem ty_i64v {c : C} (h : Ty I64 c) : ∃ n : Int, c = .int n ∧ -9223372036854775808 ≤ n ∧ n ≤ 9223372036854775807 := ty_int h
theorem ty_v8 {c : C} (h : Ty V8Sh c) : ∃ d : V8, c = V8C d := by
  obtain ⟨_, _, rfl, ⟨a, rfl⟩, _, _, e2, ⟨b, rfl⟩, _, _, e3, h3, _, _, e4, ⟨d, rfl⟩, _, _, e5, ⟨e, rfl⟩, _, _, e6, h6, _, _, e7, ⟨g, rfl⟩, _, _, e8, h8, _, _, e9, ⟨i, rfl⟩, _, _, e10, ⟨j, rfl⟩, _, _, e11, h11, _, _, e12, ⟨l, rfl⟩, _, _, e13, h13, e14⟩ := h
  obtain ⟨n3, rfl, _⟩ := ty_i64v h3
  obtain ⟨n6, rfl, _⟩ := ty_i64v h6
  obtain ⟨n8, rfl, _⟩ := ty_i64v h8
  obtain ⟨n11, rfl, _⟩ := ty_i64v h11
  obtain ⟨n13, rfl, _⟩ := ty_i64v h13
  simp only [Ty, C.ls.injEq] at e2 e3 e4 e5 e6 e7 e8 e9 e10 e11 e12 e13 e14
  subst e14 e13 e12 e11 e10 e9 e8 e7 e6 e5 e4 e3 e2
  exact ⟨⟨a, b, n3, d, e, n6, g, n8, i, j, n11, l, n13⟩, rfl⟩
theorem ty_u8v {c : C} (h : Ty (.int .u8) c) : ∃ n : Nat, c = .int n ∧ n < 256 := ty_nat rfl h
theorem law_Vp8Right (cs : List C) (h : TyAll [V8Sh, Byt, I64, I64, I64] cs) : PC Try.prog f_crossbarlaw23_Vp8Right ([V8Sh, Byt, I64, I64, I64].zip cs) [(.bool, .bool true)] := by
  obtain ⟨_, _, rfl, h1, _, _, rfl, h2, _, _, rfl, h3, _, _, rfl, h4, _, _, rfl, h5, rfl⟩ := h
  obtain ⟨d, rfl⟩ := ty_v8 h1
  obtain ⟨b, rfl⟩ := ty_bytes h2
  obtain ⟨p, rfl, _⟩ := ty_i64v h3
  obtain ⟨l, rfl, _⟩ := ty_i64v h4
  obtain ⟨k, rfl, _⟩ := ty_i64v h5
  apply pcv_crossbarlaw23_Vp8Right rfl
  simp only [vc_crossbarlaw23_Vp8Right, VC.H_cond, VC.H_ret, VC.H_call1, VC.H_call2, VC.H_call3, ev_var, ev_int, ev_bool, ev_nil, ev_cons, ev_hd, ev_tl, ev_eql, ev_neq, ev_gtr, ev_seql, ev_sneq, ev_beq, ev_not, ev_ite, ev_len, ev_toStr, ev_deq, ea_nil, ea_cons, env_zero, env_succ, env_cons, env_nil, List.map_cons, List.map_nil, List.zip_cons_cons, List.zip_nil_right, v_int, v_bool, v_str, v_ls, v_hd, v_tl, bool_ite, pres_nil, pres_cons, orT, orF, andT, notT, notF, nnE, decide_eq_true_eq, decide_eq_false_iff_not, forall_const, and_true, Int.not_lt, ofBytes_length]
  refine ⟨_, pc_crossbarlaw23_awake, fun h => by simp at h, fun _ => ⟨fun _ => trivial, fun hb => ?_⟩⟩
  refine ⟨_, pc_crossbarref23_Right d, _, _, pc_vp8_Write d, fun hr => ?_, fun hr => ?_⟩
  · have hr : d.right := by simpa using hr
    have e1 : v8wB d = d.bytes := if_pos hr
    have e2 : v8wE d = 0 := if_pos hr
    refine ⟨_, fun _ => pc_crossbarref23_Write d hr, fun hc => ?_, fun _ => ?_⟩
    · exfalso
      simp [e1, e2] at hc
    · refine ⟨_, _, _, pc_vp8_Read b (by omega), _, pc_crossbarref23_Find b (by omega), ?_⟩
      simp only [v_hd, v_tl, v_int, v_bool, v8_deq]
      refine ⟨fun hc => by simp at hc, fun _ => ⟨_, _, pc_vp8_Set b p l k (by omega), _, _, pc_crossbarref23_Set b p l k (by omega), _, pc_vp8_Right d, _, fun _ => pc_vp8_Canon b (by omega), _, fun _ => pc_crossbarref23_Canon b (by omega), ?_⟩⟩
      simp
  · have hr : ¬ d.right := by simpa using hr
    have e1 : v8wB d = [] := if_neg hr
    have e2 : v8wE d = 1 := if_neg hr
    refine ⟨fun hc => ?_, fun _ => ?_⟩
    · exfalso
      simp [e1, e2] at hc
    · refine ⟨_, _, _, pc_vp8_Read b (by omega), _, pc_crossbarref23_Find b (by omega), ?_⟩
      simp only [v_hd, v_tl, v_int, v_bool, v8_deq]
      refine ⟨fun hc => by simp at hc, fun _ => ⟨_, _, pc_vp8_Set b p l k (by omega), _, _, pc_crossbarref23_Set b p l k (by omega), _, pc_vp8_Right d, _, fun _ => pc_vp8_Canon b (by omega), _, fun _ => pc_crossbarref23_Canon b (by omega), ?_⟩⟩
      simp
theorem v8_len (d : V8) : 1 ≤ d.bytes.length ∧ d.bytes.length ≤ 1000 := by
  unfold V8.bytes
  split
  · simp
  · unfold V8.picB V8.levB V8.keyB
    simp only [List.length_cons, List.length_append]
    (repeat' split) <;> simp
theorem law_Vp8Back (cs : List C) (h : TyAll [V8Sh, V8Sh, Byt, .int .u8] cs) : PC Try.prog f_crossbarlaw23_Vp8Back ([V8Sh, V8Sh, Byt, .int .u8].zip cs) [(.bool, .bool true)] := by
  obtain ⟨_, _, rfl, h1, _, _, rfl, h2, _, _, rfl, h3, _, _, rfl, h4, rfl⟩ := h
  obtain ⟨d, rfl⟩ := ty_v8 h1
  obtain ⟨k, rfl⟩ := ty_v8 h2
  obtain ⟨b, rfl⟩ := ty_bytes h3
  obtain ⟨c, rfl, hc8⟩ := ty_u8v h4
  apply pcv_crossbarlaw23_Vp8Back rfl
  simp only [vc_crossbarlaw23_Vp8Back, VC.H_asrt, VC.H_cond, VC.H_ret, VC.H_call1, VC.H_call2, VC.H_call3, ev_var, ev_int, ev_bool, ev_nil, ev_cons, ev_hd, ev_tl, ev_bin, ev_add, ev_mul, ev_eql, ev_neq, ev_lss, ev_leq, ev_gtr, ev_geq, ev_seql, ev_beq, ev_not, ev_ite, ev_conv, ev_len, ev_sub, ev_app, ev_toStr, ev_deq, ea_nil, ea_cons, env_zero, env_succ, env_cons, env_nil, List.map_cons, List.map_nil, List.zip_cons_cons, List.zip_nil_right, v_int, v_bool, v_str, v_ls, v_hd, v_tl, toBool_ite, bool_ite, pres_nil, pres_cons, orT, orF, andT, andF, notT, notF, nnE, decide_eq_true_eq, decide_eq_false_iff_not, forall_const, and_true, Int.not_lt, ofBytes_length]
  refine ⟨_, pc_crossbarlaw23_awake, fun h => by simp at h, fun _ => ⟨fun _ => trivial, fun hb => ?_⟩⟩
  refine ⟨_, _, pc_vp8_Write d, _, _, pc_vp8_Write k, fun he => ?_, fun he => ?_⟩
  · have hd : d.right := by
      by_cases h : d.right
      · exact h
      · simp [v8wE, h] at he
    have e1 : v8wB d = d.bytes := if_pos hd
    obtain ⟨l1, l2⟩ := v8_len d
    obtain ⟨b1, b2, b3⟩ := v8_back d hd b
    have d1 : v8D (d.bytes ++ b) = d := by rw [v8D, if_pos b1]; exact b2
    have d2 : v8N (d.bytes ++ b) = d.bytes.length := by rw [v8N, if_pos b1]; exact b3
    obtain ⟨c1, c2, c3⟩ := v8_back d hd []
    rw [List.append_nil] at c1 c2 c3
    have e2 : ofBytes d.bytes ++ ofBytes b = ofBytes (d.bytes ++ b) := ofBytes_append _ _
    rw [e1]
    simp only [v_ls, ofBytes_length, e2]
    refine ⟨by omega, by omega, _, _, _, pc_vp8_Read (d.bytes ++ b) (by rw [List.length_append]; omega), ?_⟩
    rw [d1, d2, b1]
    simp only [v_hd, v_tl, v_int, v8_deq]
    refine ⟨_, fun _ => pc_vp8_Canon d.bytes (by omega), fun hc => ?_, fun _ => ?_⟩
    · exfalso
      have e3 : ¬ ((d.bytes.length : Nat) : Int) < 1 := by omega
      have e4 : d.bytes = d.bytes.take (v8fin d.bytes) := by rw [c3, List.take_length]
      rcases hc with hc | hc
      · simp [c1, c2, e3, ← e4] at hc
      · obtain ⟨hk, hc⟩ := hc
        have hk : k.right := by
          by_cases h : k.right
          · exact h
          · simp [v8wE, h] at hk
        have e5 : v8wB k = k.bytes := if_pos hk
        rw [e5, bytesOf_ofBytes, bytesOf_ofBytes] at hc
        by_cases hdk : d = k
        · subst hdk
          simp at hc
        · have hne : d.bytes ≠ k.bytes := fun h => by
            obtain ⟨_, k2, _⟩ := v8_back k hk []
            rw [List.append_nil, ← h, c2] at k2
            exact hdk k2
          simp [hdk, hne] at hc
    · have e6 : arith .rem .i64 (IntKind.i64.wrap ((c : Nat) : Int)) ((d.bytes.length : Nat) : Int) = ((c % d.bytes.length : Nat) : Int) := by
        rw [wrapi64_in (by omega), arith_rem _ _ _ (by omega)]
        omega
      have hlt : c % d.bytes.length < d.bytes.length := Nat.mod_lt _ (by omega)
      have e7 : List.drop (0 : Int).toNat (List.take ((c % d.bytes.length : Nat) : Int).toNat (ofBytes d.bytes)) = ofBytes (d.bytes.take (c % d.bytes.length)) := by
        rw [Int.toNat_natCast, ofBytes_take]
        rfl
      have cut := v8_cut d hd _ hlt
      have z1 : v8D (d.bytes.take (c % d.bytes.length)) = V8.zero := if_neg (by rw [cut]; decide)
      have z2 : v8N (d.bytes.take (c % d.bytes.length)) = 0 := if_neg (by rw [cut]; decide)
      rw [e6, e7]
      refine ⟨by omega, by omega, by omega, _, _, _, pc_vp8_Read _ (by rw [List.length_take]; omega), ?_⟩
      rw [z1, z2, cut]
      refine ⟨fun hc => ?_, fun _ => ?_⟩
      · exfalso
        simp only [v_hd, v_tl, v_int] at hc
        have e8 : C.ls [.bool false, .bool false, .int 0, .bool false, .bool false, .int 0, .bool false, .int 0, .bool false, .bool false, .int 0, .bool false, .int 0] = V8C V8.zero := rfl
        rw [e8, v8_deq] at hc
        simp at hc
      · refine ⟨_, _, _, pc_vp8_Read b (by omega), fun hz => ?_, fun hz => ?_⟩
        · have hz : ¬ v8E b = 0 := by simpa using hz
          have e1 : v8D b = V8.zero := if_neg hz
          have e2 : v8N b = 0 := if_neg hz
          have e3 : C.ls [.bool false, .bool false, .int 0, .bool false, .bool false, .int 0, .bool false, .int 0, .bool false, .bool false, .int 0, .bool false, .int 0] = V8C V8.zero := rfl
          rw [e1, e2]
          simp only [v_hd, v_tl, v_int]
          refine ⟨_, fun _ => pc_vp8_Canon b (by omega), ?_⟩
          rw [e3, v8_deq]
          simp [hz]
        · have hz : v8E b = 0 := by simpa using hz
          have hf := (v8E_zero hz).1
          have h1 : 1 ≤ v8fin b := by rw [v8fin_eq, v8key_eq, v8lev_eq]; (repeat' split) <;> omega
          have e1 : v8D b = V8.of b := if_pos hz
          have e2 : v8N b = v8fin b := if_pos hz
          have hr := v8_right b hz
          have e3 : v8wB (V8.of b) = (V8.of b).bytes := if_pos hr
          have e4 : v8wE (V8.of b) = 0 := if_pos hr
          have e5 : List.drop (0 : Int).toNat (List.take ((v8fin b : Nat) : Int).toNat (ofBytes b)) = ofBytes (b.take (v8fin b)) := by
            rw [Int.toNat_natCast, ofBytes_take]
            rfl
          rw [e1, e2]
          simp only [v_hd, v_tl, v_int]
          refine ⟨_, _, pc_vp8_Write (V8.of b), _, fun _ => pc_vp8_Right (V8.of b), _, fun _ => pc_vp8_Canon b (by omega), fun _ => by omega, fun _ => by omega, ?_⟩
          rw [e3, e4, e5]
          have h1' : (1 : Int) ≤ ((v8fin b : Nat) : Int) := by omega
          have hf' : ((v8fin b : Nat) : Int) ≤ ((b.length : Nat) : Int) := by omega
          simp [hr, hz, h1', hf', bytesOf_ofBytes]
  · refine ⟨_, _, _, pc_vp8_Read b (by omega), fun hz => ?_, fun hz => ?_⟩
    · have hz : ¬ v8E b = 0 := by simpa using hz
      have e1 : v8D b = V8.zero := if_neg hz
      have e2 : v8N b = 0 := if_neg hz
      have e3 : C.ls [.bool false, .bool false, .int 0, .bool false, .bool false, .int 0, .bool false, .int 0, .bool false, .bool false, .int 0, .bool false, .int 0] = V8C V8.zero := rfl
      rw [e1, e2]
      simp only [v_hd, v_tl, v_int]
      refine ⟨_, fun _ => pc_vp8_Canon b (by omega), ?_⟩
      rw [e3, v8_deq]
      simp [hz]
    · have hz : v8E b = 0 := by simpa using hz
      have hf := (v8E_zero hz).1
      have h1 : 1 ≤ v8fin b := by rw [v8fin_eq, v8key_eq, v8lev_eq]; (repeat' split) <;> omega
      have e1 : v8D b = V8.of b := if_pos hz
      have e2 : v8N b = v8fin b := if_pos hz
      have hr := v8_right b hz
      have e3 : v8wB (V8.of b) = (V8.of b).bytes := if_pos hr
      have e4 : v8wE (V8.of b) = 0 := if_pos hr
      have e5 : List.drop (0 : Int).toNat (List.take ((v8fin b : Nat) : Int).toNat (ofBytes b)) = ofBytes (b.take (v8fin b)) := by
        rw [Int.toNat_natCast, ofBytes_take]
        rfl
      rw [e1, e2]
      simp only [v_hd, v_tl, v_int]
      refine ⟨_, _, pc_vp8_Write (V8.of b), _, fun _ => pc_vp8_Right (V8.of b), _, fun _ => pc_vp8_Canon b (by omega), fun _ => by omega, fun _ => by omega, ?_⟩
      rw [e3, e4, e5]
      have h1' : (1 : Int) ≤ ((v8fin b : Nat) : Int) := by omega
      have hf' : ((v8fin b : Nat) : Int) ≤ ((b.length : Nat) : Int) := by omega
      simp [hr, hz, h1', hf', bytesOf_ofBytes]
end Go.Vc
