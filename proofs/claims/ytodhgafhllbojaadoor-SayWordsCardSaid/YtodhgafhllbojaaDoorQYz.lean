/-
  Plain: how long a plan's text is. The contract of Print.
-/
import Derived.Test.YtodhgafhllbojaaDoorQVcs1
import Derived.Test.YtodhgafhllbojaaDoorQYy
set_option maxRecDepth 100000
namespace Go.Vc
open Go Go.Proofs Go.Plain
open Go.Lib (decDigits nDigits)
theorem qs_len2 (l : List UInt8) : (qs l).length ≤ 3 * l.length + 2 := by
  have key : ((chunks l).flatMap qc).length ≤ 3 * l.length := by
    induction l using lenInd with
    | nil => rw [chunks_nil]; simp
    | step l hne ih =>
      rw [chunks_ne hne, List.flatMap_cons, List.length_append]
      have h2 := rwid_le hne
      have hp := rwid_pos l
      have h1 : (qc (l.take (rwid l))).length ≤ 3 * rwid l := by
        rcases qc_cases hne with ⟨_, r2, _, r4⟩ | ⟨_, r2, r4⟩ | ⟨_, _, r4⟩
        · rw [r4, r2]; simp
        · rw [r4, r2]; simp
        · rw [r4, List.length_take]; omega
      rw [List.length_drop] at ih
      omega
  unfold qs
  simp only [List.length_cons, List.length_append, List.length_nil]
  omega
theorem flatW_cons (w : List UInt8) (r : Wds) : (flatW (w :: r)).length = w.length + 1 + (flatW r).length := by
  unfold flatW
  simp only [List.flatMap_cons, List.length_append, List.length_cons]
theorem flatW_nil : (flatW ([] : Wds)).length = 0 := rfl
theorem numI_len {n : Int} (h : n < 4294967296) : (numI n).length ≤ 10 := (dec_len (by omega)).2
theorem kw_len : wMarker.length = 6 ∧ wOn.length = 2 ∧ wOff.length = 3 ∧ wType.length = 4 ∧ wSeq.length = 3 ∧ wTime.length = 4 ∧ wSsrc.length = 4 ∧ wMap.length = 3 ∧ wOver.length = 4 ∧ wDrop.length = 4 ∧ wAdd.length = 3 ∧ wNopad.length = 5 := by decide
theorem fl1 (p : Pl) : (flatW (tk1 p)).length ≤ 11 := by
  obtain ⟨k1, k2, k3, _⟩ := kw_len
  unfold tk1
  split
  · split <;> simp only [flatW_cons, flatW_nil] <;> omega
  · exact by simp [flatW]
theorem fl2 (p : Pl) (h : p.ty < 4294967296) : (flatW (tk2 p)).length ≤ 16 := by
  have := numI_len h
  have := kw_len
  unfold tk2
  split
  · simp only [flatW_cons, flatW_nil]; omega
  · exact by simp [flatW]
theorem fl3 (p : Pl) (h : p.seq < 4294967296) : (flatW (tk3 p)).length ≤ 16 := by
  have := numI_len h
  have := kw_len
  unfold tk3
  split
  · simp only [flatW_cons, flatW_nil]; omega
  · exact by simp [flatW]
theorem fl4 (p : Pl) (h : p.time < 4294967296) : (flatW (tk4 p)).length ≤ 16 := by
  have := numI_len h
  have := kw_len
  unfold tk4
  split
  · simp only [flatW_cons, flatW_nil]; omega
  · exact by simp [flatW]
theorem fl5 (p : Pl) (h : p.ssrc < 4294967296) : (flatW (tk5 p)).length ≤ 16 := by
  have := numI_len h
  have := kw_len
  unfold tk5
  split
  · simp only [flatW_cons, flatW_nil]; omega
  · exact by simp [flatW]
theorem flM : ∀ (l : List Mp), (∀ m ∈ l, 1 ≤ m.fr ∧ m.fr ≤ 255 ∧ 1 ≤ m.to ∧ m.to ≤ 255) → (flatW (tkM l)).length ≤ 26 * l.length
  | [], _ => Nat.le_refl _
  | m :: l, h => by
    obtain ⟨h1, h2, h3, h4⟩ := h m (by simp)
    have := numI_len (n := m.fr) (by omega)
    have := numI_len (n := m.to) (by omega)
    have := kw_len
    have ih := flM l (fun m hm => h m (by simp [hm]))
    rw [show tkM (m :: l) = wMap :: numI m.fr :: numI m.to :: tkM l from rfl, flatW_cons, flatW_cons, flatW_cons, List.length_cons]
    omega
theorem flE (w : List UInt8) (hw : w.length ≤ 4) : ∀ (l : List El), (∀ e ∈ l, 1 ≤ e.id ∧ e.id ≤ 255 ∧ e.data.length ≤ 255) → (flatW (tkE w l)).length ≤ 800 * l.length
  | [], _ => Nat.le_refl _
  | m :: l, h => by
    obtain ⟨h1, h2, h3⟩ := h m (by simp)
    have := numI_len (n := m.id) (by omega)
    have := qs_len2 m.data
    have ih := flE w hw l (fun m hm => h m (by simp [hm]))
    rw [show tkE w (m :: l) = w :: numI m.id :: qs m.data :: tkE w l from rfl, flatW_cons, flatW_cons, flatW_cons, List.length_cons]
    omega
theorem flD : ∀ (l : List Int), (∀ d ∈ l, 1 ≤ d ∧ d ≤ 255) → (flatW (tkD l)).length ≤ 26 * l.length
  | [], _ => Nat.le_refl _
  | m :: l, h => by
    obtain ⟨h1, h2⟩ := h m (by simp)
    have := numI_len (n := m) (by omega)
    have := kw_len
    have ih := flD l (fun m hm => h m (by simp [hm]))
    rw [show tkD (m :: l) = wDrop :: numI m :: tkD l from rfl, flatW_cons, flatW_cons, List.length_cons]
    omega
theorem flN (p : Pl) : (flatW (tkN p)).length ≤ 6 := by
  unfold tkN
  split
  · exact by decide
  · exact by simp [flatW]
theorem flat_le (p : Pl) (hp : plRight p) (hn : plNum p) : (flatW (toks p)).length ≤ 100 + 26 * p.maps.length + 800 * p.over.length + 26 * p.drops.length + 800 * p.adds.length := by
  obtain ⟨⟨_, _, _, _, _, t0, t1⟩, r1, r2, r3, r4, r5, _⟩ := hp
  obtain ⟨n1, n2, n3, n4, n5, n6⟩ := hn
  have a1 := fl1 p
  have a2 := fl2 p (by omega)
  have a3 := fl3 p (by omega)
  have a4 := fl4 p (by omega)
  have a5 := fl5 p (by omega)
  have a6 := flM p.maps fun m hm => by
    have a1 := ids_lt r1 m.fr (List.mem_map.2 ⟨m, hm, rfl⟩)
    have a2 := ids_lt r2 m.to (List.mem_map.2 ⟨m, hm, rfl⟩)
    exact ⟨a1.1, a1.2, a2.1, a2.2⟩
  have a7 := flE wOver (by decide) p.over (els_lt r4)
  have a8 := flD p.drops (ids_lt r3)
  have a9 := flE wAdd (by decide) p.adds (els_lt r5)
  have a10 := flN p
  unfold toks
  simp only [flatW_app, List.length_append]
  omega
theorem print_le (p : Pl) (hp : plRight p) (hn : plNum p) : (printL p).length ≤ 100 + 26 * p.maps.length + 800 * p.over.length + 26 * p.drops.length + 800 * p.adds.length := by
  have := flat_le p hp hn
  unfold printL
  rw [← flatW_tail, List.length_drop]
  omega
theorem tkM_snoc {l : List Mp} {i : Nat} (hi : i < l.length) : tkM (l.take (i + 1)) = tkM (l.take i) ++ [wMap, numI (l.getD i Mp.zero).fr, numI (l.getD i Mp.zero).to] := by
  have e : l.getD i Mp.zero = l[i] := by simp [List.getD, hi]
  rw [e, List.take_succ_eq_append_getElem hi]
  unfold tkM
  rw [List.flatMap_append]
  rfl
theorem tkE_snoc {w : List UInt8} {l : List El} {i : Nat} (hi : i < l.length) : tkE w (l.take (i + 1)) = tkE w (l.take i) ++ [w, numI (l.getD i El.zero).id, qs (l.getD i El.zero).data] := by
  have e : l.getD i El.zero = l[i] := by simp [List.getD, hi]
  rw [e, List.take_succ_eq_append_getElem hi]
  unfold tkE
  rw [List.flatMap_append]
  rfl
theorem tkD_snoc {l : List Int} {i : Nat} (hi : i < l.length) : tkD (l.take (i + 1)) = tkD (l.take i) ++ [wDrop, numI (l.getD i 0)] := by
  have e : l.getD i 0 = l[i] := by simp [List.getD, hi]
  rw [e, List.take_succ_eq_append_getElem hi]
  unfold tkD
  rw [List.flatMap_append]
  rfl
theorem tkM_len : ∀ l : List Mp, (tkM l).length = 3 * l.length
  | [] => rfl
  | m :: l => by rw [show tkM (m :: l) = wMap :: numI m.fr :: numI m.to :: tkM l from rfl, List.length_cons, List.length_cons, List.length_cons, tkM_len l, List.length_cons]; omega
theorem tkE_len (w : List UInt8) : ∀ l : List El, (tkE w l).length = 3 * l.length
  | [] => rfl
  | m :: l => by rw [show tkE w (m :: l) = w :: numI m.id :: qs m.data :: tkE w l from rfl, List.length_cons, List.length_cons, List.length_cons, tkE_len w l, List.length_cons]; omega
theorem tkD_len : ∀ l : List Int, (tkD l).length = 2 * l.length
  | [] => rfl
  | m :: l => by rw [show tkD (m :: l) = wDrop :: numI m :: tkD l from rfl, List.length_cons, List.length_cons, tkD_len l, List.length_cons]; omega
theorem tk_lens (p : Pl) : (tk1 p).length ≤ 2 ∧ (tk2 p).length ≤ 2 ∧ (tk3 p).length ≤ 2 ∧ (tk4 p).length ≤ 2 ∧ (tk5 p).length ≤ 2 ∧ (tkN p).length ≤ 1 := by
  unfold tk1 tk2 tk3 tk4 tk5 tkN
  refine ⟨?_, ?_, ?_, ?_, ?_, ?_⟩ <;> split <;> simp
theorem pc_say_Print (p : Pl) (hf : plFew p) (hn : plNum p) : PC Tryd.prog f_say_Print [(PlSh, PlC p)] [(.str, .str (if plRight p then printL p else [])), (I64, .int (if plRight p then 0 else 1))] := by
  have hf0 := hf
  obtain ⟨e1, e2, e3, e4⟩ := hf
  have hn0 := hn
  obtain ⟨n1, n2, n3, n4, n5, n6⟩ := hn
  obtain ⟨l1, l2, l3, l4, l5, lN⟩ := tk_lens p
  apply pcv_say_Print rfl
  simp only [vc_say_Print, VC.H_cond, VC.H_ret, VC.H_call1, ev_var, ev_int, ev_str, ev_nil, ev_cons, ev_hd, ev_tl, ev_not, ea_nil, ea_cons, env_zero, env_succ, env_cons, env_nil, List.map_cons, List.map_nil, v_bool, v_ls, v_hd, v_tl, pres_nil, notT, notF, forall_const]
  refine ⟨_, pc_plan_Right p hf0, fun h => ?_, fun h => ?_⟩
  · have hr : ¬ plRight p := by simpa using h
    rw [if_neg hr, if_neg hr]
  have hp : plRight p := by simpa using h
  have hp0 := hp
  rw [if_pos hp, if_pos hp]
  obtain ⟨⟨_, _, _, _, _, t0, t1⟩, r1, r2, r3, r4, r5, _⟩ := hp
  refine VC.go_meet [.ls ((tk1 p).map .str)] ?_ ?_
  · simp only [VC.H_asrt, VC.H_cond, VC.H_back, ev_var, ev_int, ev_bool, ev_str, ev_nil, ev_cons, ev_hd, ev_tl, ev_mul, ev_leq, ev_ite, ev_len, env_zero, env_nil, List.map_cons, List.map_nil, v_int, v_bool, v_ls, v_hd, v_tl, bool_ite, pres_nil, andT, andF, decide_eq_true_eq, forall_const]
    refine ⟨fun hb => ⟨by simp only [List.length_cons, List.length_nil]; omega, ?_⟩, fun hb => ⟨fun hc => ⟨by simp only [List.length_cons, List.length_nil]; omega, ?_⟩, fun hc => ?_⟩⟩
    · unfold tk1; rw [if_pos hb.1, if_pos hb.2]; rfl
    · unfold tk1; rw [if_pos hc, if_neg (by rcases hb with hb | hb; exact absurd hc hb; simp [hb])]; rfl
    · unfold tk1; rw [if_neg (by simp [hc])]; rfl
  refine VC.go_meet [.ls ((tk1 p ++ tk2 p).map .str)] ?_ ?_
  · simp only [VC.H_asrt, VC.H_cond, VC.H_back, VC.H_call1, ev_var, ev_int, ev_str, ev_nil, ev_cons, ev_hd, ev_tl, ev_add, ev_mul, ev_leq, ev_len, ev_app, ea_nil, ea_cons, env_zero, env_succ, env_cons, env_nil, List.map_cons, List.map_nil, v_int, v_bool, v_ls, v_hd, v_tl, pres_nil, decide_eq_true_eq, forall_const, List.length_map]
    refine ⟨fun hb => ⟨_, pc_digits p.ty t0 (by omega), by simp only [List.length_cons, List.length_nil]; omega, ?_⟩, fun hb => ?_⟩
    · unfold tk2; rw [if_pos hb]; simp only [List.map_append]; rfl
    · unfold tk2; rw [if_neg (by simp [hb]), List.append_nil]
  refine VC.go_meet [.ls ((tk1 p ++ tk2 p ++ tk3 p).map .str)] ?_ ?_
  · simp only [VC.H_asrt, VC.H_cond, VC.H_back, VC.H_call1, ev_var, ev_int, ev_str, ev_nil, ev_cons, ev_hd, ev_tl, ev_add, ev_mul, ev_leq, ev_len, ev_app, ea_nil, ea_cons, env_zero, env_succ, env_cons, env_nil, List.map_cons, List.map_nil, v_int, v_bool, v_ls, v_hd, v_tl, pres_nil, decide_eq_true_eq, forall_const, List.length_map]
    refine ⟨fun hb => ⟨_, pc_digits16 p.seq n1 n2, by simp only [List.length_cons, List.length_nil, List.length_append]; omega, ?_⟩, fun hb => ?_⟩
    · unfold tk3; rw [if_pos hb]; simp only [List.map_append, List.append_assoc]; rfl
    · unfold tk3; rw [if_neg (by simp [hb]), List.append_nil]
  refine VC.go_meet [.ls ((tk1 p ++ tk2 p ++ tk3 p ++ tk4 p).map .str)] ?_ ?_
  · simp only [VC.H_asrt, VC.H_cond, VC.H_back, VC.H_call1, ev_var, ev_int, ev_str, ev_nil, ev_cons, ev_hd, ev_tl, ev_add, ev_mul, ev_leq, ev_len, ev_app, ea_nil, ea_cons, env_zero, env_succ, env_cons, env_nil, List.map_cons, List.map_nil, v_int, v_bool, v_ls, v_hd, v_tl, pres_nil, decide_eq_true_eq, forall_const, List.length_map]
    refine ⟨fun hb => ⟨_, pc_digits32 p.time n3 n4, by simp only [List.length_cons, List.length_nil, List.length_append]; omega, ?_⟩, fun hb => ?_⟩
    · unfold tk4; rw [if_pos hb]; simp only [List.map_append, List.append_assoc]; rfl
    · unfold tk4; rw [if_neg (by simp [hb]), List.append_nil]
  refine VC.go_meet [.ls ((tk1 p ++ tk2 p ++ tk3 p ++ tk4 p ++ tk5 p).map .str)] ?_ ?_
  · simp only [VC.H_asrt, VC.H_cond, VC.H_back, VC.H_call1, ev_var, ev_int, ev_str, ev_nil, ev_cons, ev_hd, ev_tl, ev_add, ev_mul, ev_leq, ev_len, ev_app, ea_nil, ea_cons, env_zero, env_succ, env_cons, env_nil, List.map_cons, List.map_nil, v_int, v_bool, v_ls, v_hd, v_tl, pres_nil, decide_eq_true_eq, forall_const, List.length_map]
    refine ⟨fun hb => ⟨_, pc_digits32 p.ssrc n5 n6, by simp only [List.length_cons, List.length_nil, List.length_append]; omega, ?_⟩, fun hb => ?_⟩
    · unfold tk5; rw [if_pos hb]; simp only [List.map_append, List.append_assoc]; rfl
    · unfold tk5; rw [if_neg (by simp [hb]), List.append_nil]
  obtain ⟨T, hT⟩ : ∃ T, tk1 p ++ tk2 p ++ tk3 p ++ tk4 p ++ tk5 p = T := ⟨_, rfl⟩
  have lT : T.length ≤ 10 := by rw [← hT]; simp only [List.length_append]; omega
  rw [hT]
  have hm : ∀ m ∈ p.maps, 1 ≤ m.fr ∧ m.fr ≤ 255 ∧ 1 ≤ m.to ∧ m.to ≤ 255 := fun m hm => by
    have a1 := ids_lt r1 m.fr (List.mem_map.2 ⟨m, hm, rfl⟩)
    have a2 := ids_lt r2 m.to (List.mem_map.2 ⟨m, hm, rfl⟩)
    exact ⟨a1.1, a1.2, a2.1, a2.2⟩
  have ho := els_lt r4
  have ha := els_lt r5
  have hd := ids_lt r3
  refine VC.go_loop (fun i : Nat => [.ls ((T ++ tkM (p.maps.take i)).map .str), .int (i : Int)]) (fun i => i ≤ p.maps.length) (fun i => p.maps.length - i) 0 (by rw [List.take_zero, show tkM [] = [] from rfl, List.append_nil]; rfl) (Nat.zero_le _) fun i hi => ?_
  have lL := tkM_len (p.maps.take i)
  rw [List.length_take] at lL
  simp only [VC.H_asrt, VC.H_cond, VC.H_back, VC.H_call1, ev_var, ev_int, ev_str, ev_nil, ev_cons, ev_hd, ev_tl, ev_add, ev_mul, ev_lss, ev_leq, ev_geq, ev_len, ev_idx, ev_app, ev_fits64, ea_nil, ea_cons, env_zero, env_succ, env_cons, env_nil, List.map_cons, List.map_nil, v_int, v_bool, v_ls, v_hd, v_tl, pres_nil, decide_eq_true_eq, decide_eq_false_iff_not, forall_const, Int.not_lt, List.length_map, List.length_append]
  refine ⟨fun hc => ?_, fun hc => ?_⟩
  · have hk : i < p.maps.length := by omega
    have hm := hm _ (List.getElem_mem hk)
    have e : p.maps.getD i Mp.zero = p.maps[i] := by simp [List.getD, hk]
    rw [Int.toNat_natCast, mp_getD p.maps i hk, e]
    refine ⟨by omega, by omega, _, pc_digits p.maps[i].fr (by omega) (by omega), _, pc_digits p.maps[i].to (by omega) (by omega), by simp only [List.length_cons, List.length_nil]; omega, by omega, i + 1, ?_, by omega, by omega⟩
    rw [tkM_snoc hk, e]
    simp only [List.map_append, List.append_assoc]
    rfl
  obtain rfl : i = p.maps.length := by omega
  rw [List.take_length] at lL ⊢
  obtain ⟨T2, hT2⟩ : ∃ T2, T ++ tkM p.maps = T2 := ⟨_, rfl⟩
  have lT2 : T2.length ≤ 3000010 := by rw [← hT2]; simp only [List.length_append]; omega
  simp only [hT2]
  refine VC.go_loop (fun i : Nat => [.ls ((T2 ++ tkE wOver (p.over.take i)).map .str), .int (i : Int)]) (fun i => i ≤ p.over.length) (fun i => p.over.length - i) 0 (by rw [List.take_zero, show tkE wOver [] = [] from rfl, List.append_nil]; rfl) (Nat.zero_le _) fun i hi => ?_
  have lL := tkE_len wOver (p.over.take i)
  rw [List.length_take] at lL
  simp only [VC.H_asrt, VC.H_cond, VC.H_back, VC.H_call1, ev_var, ev_int, ev_str, ev_nil, ev_cons, ev_hd, ev_tl, ev_add, ev_mul, ev_lss, ev_leq, ev_geq, ev_len, ev_idx, ev_app, ev_fits64, ea_nil, ea_cons, env_zero, env_succ, env_cons, env_nil, List.map_cons, List.map_nil, v_int, v_bool, v_ls, v_hd, v_tl, pres_nil, decide_eq_true_eq, decide_eq_false_iff_not, forall_const, Int.not_lt, List.length_map, List.length_append]
  refine ⟨fun hc => ?_, fun hc => ?_⟩
  · have hk : i < p.over.length := by omega
    have hm := ho _ (List.getElem_mem hk)
    have e : p.over.getD i El.zero = p.over[i] := by simp [List.getD, hk]
    rw [el_getD p.over i hk, e]
    simp only [v_hd, v_tl]
    refine ⟨by omega, by omega, _, pc_digits p.over[i].id (by omega) (by omega), _, pc_quoted p.over[i].data (by omega), by simp only [List.length_cons, List.length_nil]; omega, by omega, i + 1, ?_, by omega, by omega⟩
    rw [tkE_snoc hk, e]
    simp only [List.map_append, List.append_assoc]
    rfl
  obtain rfl : i = p.over.length := by omega
  rw [List.take_length] at lL ⊢
  obtain ⟨T3, hT3⟩ : ∃ T3, T2 ++ tkE wOver p.over = T3 := ⟨_, rfl⟩
  have lT3 : T3.length ≤ 6000010 := by rw [← hT3]; simp only [List.length_append]; omega
  simp only [hT3]
  refine VC.go_loop (fun i : Nat => [.ls ((T3 ++ tkD (p.drops.take i)).map .str), .int (i : Int)]) (fun i => i ≤ p.drops.length) (fun i => p.drops.length - i) 0 (by rw [List.take_zero, show tkD [] = [] from rfl, List.append_nil]; rfl) (Nat.zero_le _) fun i hi => ?_
  have lL := tkD_len (p.drops.take i)
  rw [List.length_take] at lL
  simp only [VC.H_asrt, VC.H_cond, VC.H_back, VC.H_call1, ev_var, ev_int, ev_str, ev_nil, ev_cons, ev_hd, ev_tl, ev_add, ev_mul, ev_lss, ev_leq, ev_geq, ev_len, ev_idx, ev_app, ev_fits64, ea_nil, ea_cons, env_zero, env_succ, env_cons, env_nil, List.map_cons, List.map_nil, v_int, v_bool, v_ls, v_hd, v_tl, pres_nil, decide_eq_true_eq, decide_eq_false_iff_not, forall_const, Int.not_lt, List.length_map, List.length_append]
  refine ⟨fun hc => ?_, fun hc => ?_⟩
  · have hk : i < p.drops.length := by omega
    have hm := hd _ (List.getElem_mem hk)
    have e : p.drops.getD i 0 = p.drops[i] := by simp [List.getD, hk]
    rw [Int.toNat_natCast, int_getD p.drops i hk, e]
    refine ⟨by omega, by omega, _, pc_digits p.drops[i] (by omega) (by omega), by simp only [List.length_cons, List.length_nil]; omega, by omega, i + 1, ?_, by omega, by omega⟩
    rw [tkD_snoc hk, e]
    simp only [List.map_append, List.append_assoc]
    rfl
  obtain rfl : i = p.drops.length := by omega
  rw [List.take_length] at lL ⊢
  obtain ⟨T4, hT4⟩ : ∃ T4, T3 ++ tkD p.drops = T4 := ⟨_, rfl⟩
  have lT4 : T4.length ≤ 8000010 := by rw [← hT4]; simp only [List.length_append]; omega
  simp only [hT4]
  refine VC.go_loop (fun i : Nat => [.ls ((T4 ++ tkE wAdd (p.adds.take i)).map .str), .int (i : Int)]) (fun i => i ≤ p.adds.length) (fun i => p.adds.length - i) 0 (by rw [List.take_zero, show tkE wAdd [] = [] from rfl, List.append_nil]; rfl) (Nat.zero_le _) fun i hi => ?_
  have lL := tkE_len wAdd (p.adds.take i)
  rw [List.length_take] at lL
  simp only [VC.H_asrt, VC.H_cond, VC.H_back, VC.H_call1, ev_var, ev_int, ev_str, ev_nil, ev_cons, ev_hd, ev_tl, ev_add, ev_mul, ev_lss, ev_leq, ev_geq, ev_len, ev_idx, ev_app, ev_fits64, ea_nil, ea_cons, env_zero, env_succ, env_cons, env_nil, List.map_cons, List.map_nil, v_int, v_bool, v_ls, v_hd, v_tl, pres_nil, decide_eq_true_eq, decide_eq_false_iff_not, forall_const, Int.not_lt, List.length_map, List.length_append]
  refine ⟨fun hc => ?_, fun hc => ?_⟩
  · have hk : i < p.adds.length := by omega
    have hm := ha _ (List.getElem_mem hk)
    have e : p.adds.getD i El.zero = p.adds[i] := by simp [List.getD, hk]
    rw [el_getD p.adds i hk, e]
    simp only [v_hd, v_tl]
    refine ⟨by omega, by omega, _, pc_digits p.adds[i].id (by omega) (by omega), _, pc_quoted p.adds[i].data (by omega), by simp only [List.length_cons, List.length_nil]; omega, by omega, i + 1, ?_, by omega, by omega⟩
    rw [tkE_snoc hk, e]
    simp only [List.map_append, List.append_assoc]
    rfl
  obtain rfl : i = p.adds.length := by omega
  rw [List.take_length] at lL ⊢
  obtain ⟨T5, hT5⟩ : ∃ T5, T4 ++ tkE wAdd p.adds = T5 := ⟨_, rfl⟩
  have lT5 : T5.length ≤ 11000010 := by rw [← hT5]; simp only [List.length_append]; omega
  simp only [hT5]
  have hall : T5 ++ tkN p = toks p := by
    rw [← hT5, ← hT4, ← hT3, ← hT2, ← hT]
    unfold toks
    simp only [List.append_assoc]
  refine VC.go_meet [.ls ((T5 ++ tkN p).map .str)] ?_ ?_
  · simp only [VC.H_asrt, VC.H_cond, VC.H_back, ev_var, ev_int, ev_str, ev_nil, ev_cons, ev_hd, ev_tl, ev_add, ev_mul, ev_leq, ev_len, ev_app, env_zero, env_succ, env_cons, env_nil, List.map_cons, List.map_nil, v_int, v_bool, v_ls, v_hd, v_tl, pres_nil, decide_eq_true_eq, forall_const, List.length_map]
    refine ⟨fun hb => ⟨by simp only [List.length_cons, List.length_nil]; omega, ?_⟩, fun hb => ?_⟩
    · unfold tkN; rw [if_pos hb]; simp only [List.map_append]; rfl
    · unfold tkN; rw [if_neg (by simp [hb]), List.append_nil]
  rw [hall]
  simp only [VC.H_ret, VC.H_call1, ev_var, ev_int, ev_str, ea_nil, ea_cons, env_zero, env_succ, env_cons, env_nil, pres_nil, forall_const]
  have hpl := print_le p hp0 hn0
  refine ⟨_, pc_Join (toks p) (by rw [← hall]; simp only [List.length_append]; omega) (by change (printL p).length ≤ _; omega), rfl⟩
end Go.Vc
