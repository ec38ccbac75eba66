/-
  The contract of the reference's Print.
-/
import Derived.Test.YtodhgafhllbojaaDoorQVcs1
import Derived.Test.YtodhgafhllbojaaDoorQYz
set_option maxRecDepth 100000
namespace Go.Vc
open Go Go.Proofs Go.Plain
open Go.Lib (decDigits nDigits)
theorem pc_num (n : Int) (h0 : 0 ≤ n) (h : n < 4294967296) : PC Tryd.prog f_crossbarref30_num [(.int .u64, .int (n % 18446744073709551616))] [(.str, .str (numI n))] := by
  have := pc_ref30_num n.toNat (by omega)
  rw [show ((n.toNat : Nat) : Int) = n % 18446744073709551616 by omega] at this
  exact this
theorem el_getD2 (l : List El) (i : Nat) (h : i < l.length) : (l.map ElC).getD i default = ElC (l.getD i El.zero) := by simp [List.getD, h]
theorem flat2 (S a b : List UInt8) : S ++ (32 :: (a ++ [32])) ++ b = S ++ flatW [a, b] := by simp [flatW]
theorem flat3 (S a b c : List UInt8) : S ++ (32 :: (a ++ [32])) ++ b ++ [32] ++ c = S ++ flatW [a, b, c] := by simp [flatW]
theorem fl_two (a b : List UInt8) : (flatW [a, b]).length = a.length + b.length + 2 := by simp [flatW]; omega
theorem fl_three (a b c : List UInt8) : (flatW [a, b, c]).length = a.length + b.length + c.length + 3 := by simp [flatW]; omega
theorem take_fM {l : List Mp} (h : ∀ m ∈ l, 1 ≤ m.fr ∧ m.fr ≤ 255 ∧ 1 ≤ m.to ∧ m.to ≤ 255) (hl : l.length ≤ 1000000) (i : Nat) : (flatW (tkM (l.take i))).length ≤ 26000000 := by
  have := flM (l.take i) (fun m hm => h m (List.mem_of_mem_take hm))
  rw [List.length_take] at this
  omega
theorem take_fE {w : List UInt8} (hw : w.length ≤ 4) {l : List El} (h : ∀ e ∈ l, 1 ≤ e.id ∧ e.id ≤ 255 ∧ e.data.length ≤ 255) (hl : l.length ≤ 1000000) (i : Nat) : (flatW (tkE w (l.take i))).length ≤ 800000000 := by
  have := flE w hw (l.take i) (fun m hm => h m (List.mem_of_mem_take hm))
  rw [List.length_take] at this
  omega
theorem take_fD {l : List Int} (h : ∀ d ∈ l, 1 ≤ d ∧ d ≤ 255) (hl : l.length ≤ 1000000) (i : Nat) : (flatW (tkD (l.take i))).length ≤ 26000000 := by
  have := flD (l.take i) (fun m hm => h m (List.mem_of_mem_take hm))
  rw [List.length_take] at this
  omega
theorem pc_ref30_Print (p : Pl) (hf : plFew p) (hp : plRight p) (hn : plNum p) : PC Tryd.prog f_crossbarref30_Print [(PlSh, PlC p)] [(.str, .str (printL p))] := by
  obtain ⟨e1, e2, e3, e4⟩ := hf
  have hn0 := hn
  obtain ⟨n1, n2, n3, n4, n5, n6⟩ := hn
  have hp0 := hp
  obtain ⟨⟨_, _, _, _, _, t0, t1⟩, r1, r2, r3, r4, r5, _⟩ := hp
  have g1 := fl1 p
  have g2 := fl2 p (by omega)
  have g3 := fl3 p (by omega)
  have g4 := fl4 p (by omega)
  have g5 := fl5 p (by omega)
  have gN := flN p
  have i2 := numI_len (n := p.ty) (by omega)
  have i3 := numI_len (n := p.seq) (by omega)
  have i4 := numI_len (n := p.time) (by omega)
  have i5 := numI_len (n := p.ssrc) (by omega)
  have kw := kw_len
  have hm : ∀ m ∈ p.maps, 1 ≤ m.fr ∧ m.fr ≤ 255 ∧ 1 ≤ m.to ∧ m.to ≤ 255 := fun m hm => by
    have a1 := ids_lt r1 m.fr (List.mem_map.2 ⟨m, hm, rfl⟩)
    have a2 := ids_lt r2 m.to (List.mem_map.2 ⟨m, hm, rfl⟩)
    exact ⟨a1.1, a1.2, a2.1, a2.2⟩
  have ho := els_lt r4
  have ha := els_lt r5
  have hd := ids_lt r3
  have hS : (if p.sm = true ∧ p.m = false then (if p.sm = true ∧ p.m = true then [32, 109, 97, 114, 107, 101, 114, 32, 111, 110] else []) ++ [32, 109, 97, 114, 107, 101, 114, 32, 111, 102, 102] else (if p.sm = true ∧ p.m = true then [32, 109, 97, 114, 107, 101, 114, 32, 111, 110] else [] : List UInt8)) = flatW (tk1 p) := by
    unfold tk1
    cases p.sm <;> cases p.m <;> rfl
  apply pcv_crossbarref30_Print rfl
  simp only [vc_crossbarref30_Print, VC.H_asrt, ev_var, ev_bool, ev_str, ev_hd, ev_tl, ev_add, ev_not, ev_ite, ev_slen, ev_cat, ev_fits64, env_zero, env_nil, List.map_cons, List.map_nil, v_int, v_bool, v_str, v_hd, v_tl, bool_ite, str_ite, pres_nil, pres_cons, andT, notT, decide_eq_true_eq, and_true]
  refine ⟨fun _ => by simp only [List.length_cons, List.length_nil]; omega, fun h => ?_, ?_⟩
  · rw [if_neg (by simp [h.2])]
    simp only [List.length_cons, List.length_nil]; omega
  refine VC.go_meet [.str (flatW (tk1 p ++ tk2 p))] ?_ ?_
  · simp only [VC.H_asrt, VC.H_cond, VC.H_back, VC.H_call1, ev_var, ev_bool, ev_str, ev_hd, ev_tl, ev_add, ev_not, ev_ite, ev_conv, ev_slen, ev_cat, ev_fits64, ea_nil, ea_cons, env_zero, env_succ, env_cons, env_nil, List.map_cons, List.map_nil, v_int, v_bool, v_str, v_hd, v_tl, bool_ite, str_ite, pres_nil, andT, notT, decide_eq_true_eq, forall_const, wrapu64, hS, flatW_app]
    refine ⟨fun hb => ⟨by simp only [List.length_cons, List.length_nil]; omega, _, pc_num p.ty (by omega) (by omega), ?_, ?_⟩, fun hb => ?_⟩
    · simp only [v_str, List.length_append, List.length_cons, List.length_nil]; omega
    · unfold tk2; rw [if_pos hb, ← flat2]; simp only [List.append_assoc]; rfl
    · unfold tk2; rw [if_neg (by simp [hb])]; simp only [List.append_nil, flatW, List.flatMap_nil]
  refine VC.go_meet [.str (flatW (tk1 p ++ tk2 p ++ tk3 p))] ?_ ?_
  · simp only [VC.H_asrt, VC.H_cond, VC.H_back, VC.H_call1, ev_var, ev_str, ev_hd, ev_tl, ev_add, ev_conv, ev_slen, ev_cat, ev_fits64, ea_nil, ea_cons, env_zero, env_succ, env_cons, env_nil, List.map_cons, List.map_nil, v_int, v_bool, v_str, v_hd, v_tl, pres_nil, decide_eq_true_eq, forall_const, wrapu64, flatW_app]
    refine ⟨fun hb => ⟨by simp only [List.length_append, List.length_cons, List.length_nil]; omega, _, pc_num p.seq (by omega) (by omega), ?_, ?_⟩, fun hb => ?_⟩
    · simp only [v_str, List.length_append, List.length_cons, List.length_nil]; omega
    · unfold tk3; rw [if_pos hb, ← flat2]; simp only [List.append_assoc]; rfl
    · unfold tk3; rw [if_neg (by simp [hb])]; simp only [List.append_nil, flatW, List.flatMap_nil]
  refine VC.go_meet [.str (flatW (tk1 p ++ tk2 p ++ tk3 p ++ tk4 p))] ?_ ?_
  · simp only [VC.H_asrt, VC.H_cond, VC.H_back, VC.H_call1, ev_var, ev_str, ev_hd, ev_tl, ev_add, ev_conv, ev_slen, ev_cat, ev_fits64, ea_nil, ea_cons, env_zero, env_succ, env_cons, env_nil, List.map_cons, List.map_nil, v_int, v_bool, v_str, v_hd, v_tl, pres_nil, decide_eq_true_eq, forall_const, wrapu64, flatW_app]
    refine ⟨fun hb => ⟨by simp only [List.length_append, List.length_cons, List.length_nil]; omega, _, pc_num p.time (by omega) (by omega), ?_, ?_⟩, fun hb => ?_⟩
    · simp only [v_str, List.length_append, List.length_cons, List.length_nil]; omega
    · unfold tk4; rw [if_pos hb, ← flat2]; simp only [List.append_assoc]; rfl
    · unfold tk4; rw [if_neg (by simp [hb])]; simp only [List.append_nil, flatW, List.flatMap_nil]
  refine VC.go_meet [.str (flatW (tk1 p ++ tk2 p ++ tk3 p ++ tk4 p ++ tk5 p))] ?_ ?_
  · simp only [VC.H_asrt, VC.H_cond, VC.H_back, VC.H_call1, ev_var, ev_str, ev_hd, ev_tl, ev_add, ev_conv, ev_slen, ev_cat, ev_fits64, ea_nil, ea_cons, env_zero, env_succ, env_cons, env_nil, List.map_cons, List.map_nil, v_int, v_bool, v_str, v_hd, v_tl, pres_nil, decide_eq_true_eq, forall_const, wrapu64, flatW_app]
    refine ⟨fun hb => ⟨by simp only [List.length_append, List.length_cons, List.length_nil]; omega, _, pc_num p.ssrc (by omega) (by omega), ?_, ?_⟩, fun hb => ?_⟩
    · simp only [v_str, List.length_append, List.length_cons, List.length_nil]; omega
    · unfold tk5; rw [if_pos hb, ← flat2]; simp only [List.append_assoc]; rfl
    · unfold tk5; rw [if_neg (by simp [hb])]; simp only [List.append_nil, flatW, List.flatMap_nil]
  obtain ⟨T, hT⟩ : ∃ T, tk1 p ++ tk2 p ++ tk3 p ++ tk4 p ++ tk5 p = T := ⟨_, rfl⟩
  have lT : (flatW T).length ≤ 80 := by rw [← hT]; simp only [flatW_app, List.length_append]; omega
  rw [hT]
  refine VC.go_loop (fun i : Nat => [.str (flatW (T ++ tkM (p.maps.take i))), .int (i : Int)]) (fun i => i ≤ p.maps.length) (fun i => p.maps.length - i) 0 (by rw [List.take_zero, show tkM [] = [] from rfl, List.append_nil]; rfl) (Nat.zero_le _) fun i hi => ?_
  have lL := take_fM hm e1 i
  simp only [VC.H_asrt, VC.H_cond, VC.H_back, VC.H_call1, ev_var, ev_int, ev_str, ev_hd, ev_tl, ev_add, ev_lss, ev_geq, ev_conv, ev_len, ev_slen, ev_idx, ev_cat, ev_fits64, ea_nil, ea_cons, env_zero, env_succ, env_cons, env_nil, List.map_cons, List.map_nil, v_int, v_bool, v_str, v_ls, v_hd, v_tl, pres_nil, decide_eq_true_eq, decide_eq_false_iff_not, forall_const, Int.not_lt, List.length_map, wrapu64, flatW_app]
  refine ⟨fun hc => ?_, fun hc => ?_⟩
  · have hk : i < p.maps.length := by omega
    have hm := hm _ (List.getElem_mem hk)
    have e : p.maps.getD i Mp.zero = p.maps[i] := by simp [List.getD, hk]
    have j1 := numI_len (n := p.maps[i].fr) (by omega)
    have j2 := numI_len (n := p.maps[i].to) (by omega)
    simp only [Int.toNat_natCast, mp_getD p.maps i hk, e, v_hd, v_tl, v_int]
    refine ⟨by simp only [List.length_append, List.length_cons, List.length_nil]; omega, by omega, by omega, _, pc_num p.maps[i].fr (by omega) (by omega), ?_, ?_, by omega, by omega, _, pc_num p.maps[i].to (by omega) (by omega), ?_, by omega, i + 1, ?_, by omega, by omega⟩
    · simp only [v_str, List.length_append, List.length_cons, List.length_nil]; omega
    · simp only [v_str, List.length_append, List.length_cons, List.length_nil]; omega
    · simp only [v_str, List.length_append, List.length_cons, List.length_nil]; omega
    rw [tkM_snoc hk, e, flatW_app, ← List.append_assoc, ← flat3]
    simp only [List.append_assoc]
    rfl
  obtain rfl : i = p.maps.length := by omega
  rw [List.take_length] at lL ⊢
  obtain ⟨T2, hT2⟩ : ∃ X, T ++ tkM p.maps = X := ⟨_, rfl⟩
  have lT2 : (flatW T2).length ≤ 26000080 := by rw [← hT2]; simp only [flatW_app, List.length_append]; omega
  simp only [← flatW_app, hT2]
  refine VC.go_loop (fun i : Nat => [.str (flatW (T2 ++ tkE wOver (p.over.take i))), .int (i : Int)]) (fun i => i ≤ p.over.length) (fun i => p.over.length - i) 0 (by rw [List.take_zero, show tkE wOver [] = [] from rfl, List.append_nil]; rfl) (Nat.zero_le _) fun i hi => ?_
  have lL := take_fE (w := wOver) (by decide) ho e2 i
  simp only [VC.H_asrt, VC.H_cond, VC.H_back, VC.H_call1, ev_var, ev_int, ev_str, ev_hd, ev_tl, ev_add, ev_lss, ev_geq, ev_conv, ev_len, ev_slen, ev_idx, ev_toStr, ev_cat, ev_fits64, ea_nil, ea_cons, env_zero, env_succ, env_cons, env_nil, List.map_cons, List.map_nil, v_int, v_bool, v_str, v_ls, v_hd, v_tl, pres_nil, decide_eq_true_eq, decide_eq_false_iff_not, forall_const, Int.not_lt, List.length_map, wrapu64, flatW_app]
  refine ⟨fun hc => ?_, fun hc => ?_⟩
  · have hk : i < p.over.length := by omega
    have hm := ho _ (List.getElem_mem hk)
    have e : p.over.getD i El.zero = p.over[i] := by simp [List.getD, hk]
    have j1 := numI_len (n := p.over[i].id) (by omega)
    have j2 := qs_len2 p.over[i].data
    simp only [Int.toNat_natCast, el_getD2 p.over i hk, e, v_hd, v_tl, v_int, v_ls, bytesOf_ofBytes]
    refine ⟨by simp only [List.length_append, List.length_cons, List.length_nil]; omega, by omega, by omega, _, pc_num p.over[i].id (by omega) (by omega), ?_, ?_, by omega, by omega, _, pc_ref04_Quote p.over[i].data (by omega), ?_, by omega, i + 1, ?_, by omega, by omega⟩
    · simp only [v_str, List.length_append, List.length_cons, List.length_nil]; omega
    · simp only [v_str, List.length_append, List.length_cons, List.length_nil]; omega
    · simp only [v_str, List.length_append, List.length_cons, List.length_nil]; omega
    rw [tkE_snoc hk, e, flatW_app, ← List.append_assoc, ← flat3]
    simp only [List.append_assoc]
    rfl
  obtain rfl : i = p.over.length := by omega
  rw [List.take_length] at lL ⊢
  obtain ⟨T3, hT3⟩ : ∃ X, T2 ++ tkE wOver p.over = X := ⟨_, rfl⟩
  have lT3 : (flatW T3).length ≤ 826000080 := by rw [← hT3]; simp only [flatW_app, List.length_append]; omega
  simp only [← flatW_app, hT3]
  refine VC.go_loop (fun i : Nat => [.str (flatW (T3 ++ tkD (p.drops.take i))), .int (i : Int)]) (fun i => i ≤ p.drops.length) (fun i => p.drops.length - i) 0 (by rw [List.take_zero, show tkD [] = [] from rfl, List.append_nil]; rfl) (Nat.zero_le _) fun i hi => ?_
  have lL := take_fD hd e3 i
  simp only [VC.H_asrt, VC.H_cond, VC.H_back, VC.H_call1, ev_var, ev_int, ev_str, ev_hd, ev_tl, ev_add, ev_lss, ev_geq, ev_conv, ev_len, ev_slen, ev_idx, ev_cat, ev_fits64, ea_nil, ea_cons, env_zero, env_succ, env_cons, env_nil, List.map_cons, List.map_nil, v_int, v_bool, v_str, v_ls, v_hd, v_tl, pres_nil, decide_eq_true_eq, decide_eq_false_iff_not, forall_const, Int.not_lt, List.length_map, wrapu64, flatW_app]
  refine ⟨fun hc => ?_, fun hc => ?_⟩
  · have hk : i < p.drops.length := by omega
    have hm := hd _ (List.getElem_mem hk)
    have e : p.drops.getD i 0 = p.drops[i] := by simp [List.getD, hk]
    have j1 := numI_len (n := p.drops[i]) (by omega)
    simp only [Int.toNat_natCast, int_getD p.drops i hk, e, v_int]
    refine ⟨by simp only [List.length_append, List.length_cons, List.length_nil]; omega, by omega, by omega, _, pc_num p.drops[i] (by omega) (by omega), ?_, by omega, i + 1, ?_, by omega, by omega⟩
    · simp only [v_str, List.length_append, List.length_cons, List.length_nil]; omega
    rw [tkD_snoc hk, e, flatW_app, ← List.append_assoc, ← flat2]
    simp only [List.append_assoc]
    rfl
  obtain rfl : i = p.drops.length := by omega
  rw [List.take_length] at lL ⊢
  obtain ⟨T4, hT4⟩ : ∃ X, T3 ++ tkD p.drops = X := ⟨_, rfl⟩
  have lT4 : (flatW T4).length ≤ 852000080 := by rw [← hT4]; simp only [flatW_app, List.length_append]; omega
  simp only [← flatW_app, hT4]
  refine VC.go_loop (fun i : Nat => [.str (flatW (T4 ++ tkE wAdd (p.adds.take i))), .int (i : Int)]) (fun i => i ≤ p.adds.length) (fun i => p.adds.length - i) 0 (by rw [List.take_zero, show tkE wAdd [] = [] from rfl, List.append_nil]; rfl) (Nat.zero_le _) fun i hi => ?_
  have lL := take_fE (w := wAdd) (by decide) ha e4 i
  simp only [VC.H_asrt, VC.H_cond, VC.H_ret, VC.H_back, VC.H_call1, ev_var, ev_int, ev_str, ev_hd, ev_tl, ev_add, ev_lss, ev_leq, ev_geq, ev_seql, ev_ite, ev_conv, ev_len, ev_slen, ev_idx, ev_ssub, ev_toStr, ev_cat, ev_fits64, ea_nil, ea_cons, env_zero, env_succ, env_cons, env_nil, List.map_cons, List.map_nil, v_int, v_bool, v_str, v_ls, v_hd, v_tl, str_ite, pres_nil, pres_cons, decide_eq_true_eq, decide_eq_false_iff_not, forall_const, and_true, Int.not_lt, List.length_map, wrapu64, flatW_app]
  refine ⟨fun hc => ?_, fun hc => ?_⟩
  · have hk : i < p.adds.length := by omega
    have hm := ha _ (List.getElem_mem hk)
    have e : p.adds.getD i El.zero = p.adds[i] := by simp [List.getD, hk]
    have j1 := numI_len (n := p.adds[i].id) (by omega)
    have j2 := qs_len2 p.adds[i].data
    simp only [Int.toNat_natCast, el_getD2 p.adds i hk, e, v_hd, v_tl, v_int, v_ls, bytesOf_ofBytes]
    refine ⟨by simp only [List.length_append, List.length_cons, List.length_nil]; omega, by omega, by omega, _, pc_num p.adds[i].id (by omega) (by omega), ?_, ?_, by omega, by omega, _, pc_ref04_Quote p.adds[i].data (by omega), ?_, by omega, i + 1, ?_, by omega, by omega⟩
    · simp only [v_str, List.length_append, List.length_cons, List.length_nil]; omega
    · simp only [v_str, List.length_append, List.length_cons, List.length_nil]; omega
    · simp only [v_str, List.length_append, List.length_cons, List.length_nil]; omega
    rw [tkE_snoc hk, e, flatW_app, ← List.append_assoc, ← flat3]
    simp only [List.append_assoc]
    rfl
  obtain rfl : i = p.adds.length := by omega
  rw [List.take_length] at lL ⊢
  obtain ⟨T5, hT5⟩ : ∃ X, T4 ++ tkE wAdd p.adds = X := ⟨_, rfl⟩
  have lT5 : (flatW T5).length ≤ 1652000080 := by rw [← hT5]; simp only [flatW_app, List.length_append]; omega
  simp only [← flatW_app, hT5]
  have hall : T5 ++ tkN p = toks p := by
    rw [← hT5, ← hT4, ← hT3, ← hT2, ← hT]
    unfold toks
    simp only [List.append_assoc]
  have hN : (if p.np = true then flatW T5 ++ [32, 110, 111, 112, 97, 100] else flatW T5) = flatW (toks p) := by
    rw [← hall, flatW_app]
    unfold tkN
    split
    · rfl
    · exact (List.append_nil _).symm
  have hlen : (flatW (toks p)).length ≤ 1652000100 := by rw [← hall, flatW_app, List.length_append]; omega
  simp only [hN]
  refine ⟨fun _ => ?_, fun h => ?_, fun h => ⟨?_, Int.le_refl _, ?_⟩⟩
  · simp only [List.length_cons, List.length_nil]; omega
  · have e : printL p = (flatW (toks p)).drop 1 := (flatW_tail _).symm
    rw [e, h]
    rfl
  · have := List.length_pos_iff.2 h
    omega
  · rw [Int.toNat_natCast, List.take_length, show Int.toNat 1 = 1 from rfl, flatW_tail]
    rfl
end Go.Vc
