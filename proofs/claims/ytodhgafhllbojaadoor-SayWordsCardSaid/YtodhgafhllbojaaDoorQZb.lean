/-
  The contract of the reference's Parse.
-/
import Derived.Test.YtodhgafhllbojaaDoorQVcs1
import Derived.Test.YtodhgafhllbojaaDoorQZa
import Derived.Test.YtodhgafhllbojaaDoorQZb0
import Derived.Test.YtodhgafhllbojaaDoorQTg
set_option maxRecDepth 100000
namespace Go.Vc
open Go Go.Proofs Go.Plain
open Go.Lib (decDigits nDigits)
theorem pc_ref30_Parse (s : List UInt8) (hs : s.length ≤ 1000000) : PC Tryd.prog f_crossbarref30_Parse [(.str, .str s)] [(PlSh, PlC ((parseBy refS s).getD Pl.zero)), (.bool, .bool (parseBy refS s).isSome)] := by
  apply pcv_crossbarref30_Parse rfl
  simp only [vc_crossbarref30_Parse, VC.H_cond, VC.H_ret, VC.H_call2, ev_var, ev_int, ev_bool, ev_str, ev_nil, ev_nilS, ev_cons, ev_seql, ea_nil, ea_cons, env_zero, env_cons, env_nil, List.map_cons, List.map_nil, v_bool, v_str, v_ls, pres_nil, decide_eq_true_eq, decide_eq_false_iff_not, forall_const]
  refine ⟨_, _, pc_ref04_Words s hs, ?_⟩
  refine ⟨fun h => ?_, fun h => ?_⟩
  · unfold parseBy
    rw [if_pos h]
    rfl
  cases hw : wordsL s with
  | none =>
    rw [parseBy_none h hw]
    refine VC.go_loop (fun _ : Unit => encP Pl.zero 0) (fun _ => True) (fun _ => 0) () rfl trivial fun _ _ => ?_
    simp only [VC.H_asrt, VC.H_cond, VC.H_ret, VC.H_call1, ev_var, ev_int, ev_bool, ev_nil, ev_nilS, ev_cons, ev_sub', ev_lss, ev_sneq, ev_not, ev_ite, ev_len, ev_fits64, ea_nil, ea_cons, env_zero, env_succ, env_cons, env_nil, v_int, v_bool, v_str, v_ls, bool_ite, pres_nil, pres_cons, orT, orF, andT, andF, notT, notF, nnE, decide_eq_true_eq, decide_eq_false_iff_not, forall_const, and_true, true_and, Int.not_lt, encP, wdB, Option.isSome_none]
    refine ⟨fun hc => absurd hc.1 (by simp), fun _ => ?_⟩
    exact ⟨.bool false, fun hc => absurd hc (by simp), .str [], fun hc => absurd hc.1 (by simp), fun _ => rfl, fun hc => absurd (Or.inl trivial) hc.1⟩
  | some ws =>
    have hP := parseBy_some (f := refS) h hw
    rw [hP]
    obtain ⟨j1, j2, j3⟩ := words_join hw
    obtain ⟨l1, l2⟩ := joinSp_ge j3
    rw [j1] at l1 l2
    refine VC.go_loop (fun x : Pl × Nat => encP x.1 x.2) (fun x => x.2 ≤ ws.length ∧ plNum x.1 ∧ lens x.1 ≤ x.2 ∧ ∃ k, ws.length - x.2 ≤ k ∧ iter refS k x.1 (ws.drop x.2) = iter refS ws.length Pl.zero ws) (fun x => ws.length - x.2) (Pl.zero, 0) rfl ⟨Nat.zero_le _, by decide, Nat.le_refl _, _, Nat.le_refl _, rfl⟩ fun x hi => ?_
    obtain ⟨p, i⟩ := x
    obtain ⟨i1, i2, i3, k, i4, i5⟩ := hi
    simp only at i1 i2 i3 i4 i5
    simp only [VC.H_asrt, VC.H_cond, VC.H_ret, VC.H_call1, ev_var, ev_int, ev_bool, ev_nil, ev_nilS, ev_cons, ev_sub', ev_lss, ev_sneq, ev_not, ev_ite, ev_len, ev_fits64, ea_nil, ea_cons, env_zero, env_succ, env_cons, env_nil, v_int, v_bool, v_str, v_ls, bool_ite, pres_nil, pres_cons, orT, orF, andT, andF, notT, notF, nnE, decide_eq_true_eq, decide_eq_false_iff_not, forall_const, and_true, true_and, Int.not_lt, encP, wdB, Option.isSome_some, Option.getD_some, List.length_map]
    refine ⟨fun hc => ⟨by omega, ?_⟩, fun hc => ?_⟩
    · have hk : i < ws.length := by omega
      obtain ⟨w0, hw0⟩ : ∃ w0, ws.getD i [] = w0 := ⟨_, rfl⟩
      obtain ⟨x, hx⟩ : ∃ x, (ws.drop (i + 1)).headD [] = x := ⟨_, rfl⟩
      obtain ⟨y, hy⟩ : ∃ y, (ws.drop (i + 2)).headD [] = y := ⟨_, rfl⟩
      refine VC.go_meet [.int ((valueR x).1 : Nat)] ?_ ?_
      · simp only [VC.H_asrt, VC.H_cond, VC.H_back, VC.H_call2, ev_var, ev_int, ev_add, ev_sub', ev_lss, ev_gtr, ev_geq, ev_len, ev_idx, ev_fits64, ea_nil, ea_cons, env_zero, env_succ, env_cons, env_nil, List.map_cons, List.map_nil, v_int, v_bool, v_ls, pres_nil, decide_eq_true_eq, decide_eq_false_iff_not, forall_const, Int.not_lt, List.length_map]
        refine ⟨fun d => ?_, fun d => ?_⟩
        · have hk1 : i + 1 < ws.length := by omega
          have e : ws.getD (i + 1) [] = x := by rw [← hx, drop_at hk1]; rfl
          rw [show ((i : Int) + 1).toNat = i + 1 by omega, str_getD ws (i + 1) hk1, e]
          exact ⟨by omega, by omega, by omega, _, _, pc_ref30_Value x (by rw [← e]; have := l2 _ (getD_mem hk1); omega), rfl⟩
        · have e : x = [] := by rw [← hx, List.drop_eq_nil_of_le (by omega)]; rfl
          rw [e]
          rfl
      have hv := valueR_lt x
      have hv2 := valueR_lt y
      have ht : (((valueR x).1 : Nat) + (9223372036854775808 : Int)) % 18446744073709551616 - 9223372036854775808 = (((valueR x).1 : Nat) : Int) := by omega
      have ht2 : (((valueR y).1 : Nat) + (9223372036854775808 : Int)) % 18446744073709551616 - 9223372036854775808 = (((valueR y).1 : Nat) : Int) := by omega
      have x1 : i + 1 < ws.length → (ws.map C.str).getD ((i : Int) + 1).toNat default = .str x := fun h => by
        rw [show ((i : Int) + 1).toNat = i + 1 by omega, str_getD ws (i + 1) h, ← hx, drop_at h]; rfl
      have y1 : i + 2 < ws.length → (ws.map C.str).getD ((i : Int) + 2).toNat default = .str y := fun h => by
        rw [show ((i : Int) + 2).toNat = i + 2 by omega, str_getD ws (i + 2) h, ← hy, drop_at h]; rfl
      have xl : x.length ≤ 1000000 := by
        by_cases h : i + 1 < ws.length
        · have := l2 _ (getD_mem h)
          rw [← hx, drop_at h]
          simp only [List.headD_cons]
          omega
        · rw [← hx, List.drop_eq_nil_of_le (by omega)]; exact Nat.zero_le _
      have yl : y.length ≤ 1000000 := by
        by_cases h : i + 2 < ws.length
        · have := l2 _ (getD_mem h)
          rw [← hy, drop_at h]
          simp only [List.headD_cons]
          omega
        · rw [← hy, List.drop_eq_nil_of_le (by omega)]; exact Nat.zero_le _
      obtain ⟨k', rfl⟩ : ∃ k', k = k' + 1 := ⟨k - 1, by omega⟩
      have hne : ws.drop i ≠ [] := by rw [drop_at hk]; simp
      have go : ∀ (q : Pl) (c : Nat), 0 < c → i + c ≤ ws.length → refS p (ws.drop i) = some (q, ws.drop (i + c)) → lens q ≤ i + c → (i + c ≤ ws.length ∧ plNum q ∧ lens q ≤ i + c ∧ ∃ k, ws.length - (i + c) ≤ k ∧ iter refS k q (ws.drop (i + c)) = iter refS ws.length Pl.zero ws) ∧ ws.length - (i + c) < ws.length - i := fun q c h0 h1 hr hl => ⟨⟨h1, refS_num _ _ _ _ hr i2, hl, k', by omega, by rw [← i5, iter_some hne hr]⟩, by omega⟩
      have no : refS p (ws.drop i) = none → iter refS ws.length Pl.zero ws = none := fun hr => by rw [← i5, iter_none hne hr]
      have hR : refS p (ws.drop i) = (if w0 = wNopad then some ({ p with np := true }, ws.drop (i + 1))
          else if ws.drop (i + 1) = [] then none
          else if w0 = wMarker then some ({ p with sm := true, m := decide (x = wOn) }, ws.drop (i + 2))
          else if w0 = wType then some ({ p with st := true, ty := ((valueR x).1 : Nat) }, ws.drop (i + 2))
          else if w0 = wSeq then some ({ p with sq := true, seq := (((valueR x).1 % 65536 : Nat) : Int) }, ws.drop (i + 2))
          else if w0 = wTime then some ({ p with stm := true, time := (((valueR x).1 % 4294967296 : Nat) : Int) }, ws.drop (i + 2))
          else if w0 = wSsrc then some ({ p with ss := true, ssrc := (((valueR x).1 % 4294967296 : Nat) : Int) }, ws.drop (i + 2))
          else if w0 = wDrop then some ({ p with drops := p.drops ++ [(((valueR x).1 : Nat) : Int)] }, ws.drop (i + 2))
          else if ws.drop (i + 2) = [] then none
          else if w0 = wMap then some ({ p with maps := p.maps ++ [⟨((valueR x).1 : Nat), ((valueR y).1 : Nat)⟩] }, ws.drop (i + 3))
          else if w0 = wOver then if (valueR x).2 && (unqL y).isSome then some ({ p with over := p.over ++ [⟨((valueR x).1 : Nat), (unqL y).getD []⟩] }, ws.drop (i + 3)) else none
          else if w0 = wAdd then if (valueR x).2 && (unqL y).isSome then some ({ p with adds := p.adds ++ [⟨((valueR x).1 : Nat), (unqL y).getD []⟩] }, ws.drop (i + 3)) else none
          else none) := by
        unfold refS
        rw [drop_at hk, hw0]
        simp only [List.headD_cons, List.tail_cons, hx, List.tail_drop, hy]
      simp only [VC.H_asrt, VC.H_cond, VC.H_ret, VC.H_back, VC.H_call2, ev_var, ev_int, ev_bool, ev_str, ev_nil, ev_nilS, ev_cons, ev_hd, ev_tl, ev_add, ev_sub', ev_mul, ev_lss, ev_leq, ev_geq, ev_seql, ev_not, ev_conv, ev_len, ev_idx, ev_app, ev_fits64, ea_nil, ea_cons, env_zero, env_succ, env_cons, env_nil, List.map_cons, List.map_nil, v_int, v_bool, v_str, v_ls, pres_nil, notT, notF, decide_eq_true_eq, decide_eq_false_iff_not, forall_const, Int.not_lt, List.length_map, wrapi64, wrapu16, wrapu32, Int.toNat_natCast, str_getD ws i hk, v_str, hw0, ht]
      clear i5 hP
      unfold lens at i3
      refine ⟨by omega, by omega, fun c1 => ?_, fun c1 => ⟨fun d1 => ?_, fun d1 => ?_⟩⟩
      · rw [if_pos (show w0 = wNopad from c1)] at hR
        exact ⟨by omega, (_, i + 1), rfl, go _ 1 (by omega) (by omega) hR (by unfold lens; simp only; omega)⟩
      · rw [if_neg (show ¬ w0 = wNopad from c1), if_pos (List.drop_eq_nil_of_le (by omega))] at hR
        rw [no hR]
        rfl
      have n1 : ¬ ws.drop (i + 1) = [] := by rw [drop_at (show i + 1 < ws.length by omega)]; simp
      have xx := x1 (by omega)
      rw [if_neg (show ¬ w0 = wNopad from c1), if_neg n1] at hR
      rw [xx]
      refine ⟨by omega, by omega, fun c2 => ?_, fun c2 => ?_⟩
      · rw [if_pos (show w0 = wMarker from c2)] at hR
        exact ⟨by omega, by omega, by omega, by omega, (_, i + 2), rfl, go _ 2 (by omega) (by omega) hR (by unfold lens; simp only; omega)⟩
      rw [if_neg (show ¬ w0 = wMarker from c2)] at hR
      refine ⟨by omega, by omega, fun c3 => ?_, fun c3 => ?_⟩
      · rw [if_pos (show w0 = wType from c3)] at hR
        exact ⟨by omega, (_, i + 2), rfl, go _ 2 (by omega) (by omega) hR (by unfold lens; simp only; omega)⟩
      rw [if_neg (show ¬ w0 = wType from c3)] at hR
      refine ⟨by omega, by omega, fun c4 => ?_, fun c4 => ?_⟩
      · rw [if_pos (show w0 = wSeq from c4)] at hR
        exact ⟨by omega, (_, i + 2), rfl, go _ 2 (by omega) (by omega) hR (by unfold lens; simp only; omega)⟩
      rw [if_neg (show ¬ w0 = wSeq from c4)] at hR
      refine ⟨by omega, by omega, fun c5 => ?_, fun c5 => ?_⟩
      · rw [if_pos (show w0 = wTime from c5)] at hR
        exact ⟨by omega, (_, i + 2), rfl, go _ 2 (by omega) (by omega) hR (by unfold lens; simp only; omega)⟩
      rw [if_neg (show ¬ w0 = wTime from c5)] at hR
      refine ⟨by omega, by omega, fun c6 => ?_, fun c6 => ?_⟩
      · rw [if_pos (show w0 = wSsrc from c6)] at hR
        exact ⟨by omega, (_, i + 2), rfl, go _ 2 (by omega) (by omega) hR (by unfold lens; simp only; omega)⟩
      rw [if_neg (show ¬ w0 = wSsrc from c6)] at hR
      refine ⟨by omega, by omega, fun c7 => ?_, fun c7 => ?_⟩
      · rw [if_pos (show w0 = wDrop from c7)] at hR
        refine ⟨by simp only [List.length_cons, List.length_nil]; omega, by omega, (_, i + 2), ?_, go _ 2 (by omega) (by omega) hR (by unfold lens; simp only [List.length_append, List.length_singleton]; omega)⟩
        simp only [Ints, List.map_append]
        rfl
      rw [if_neg (show ¬ w0 = wDrop from c7)] at hR
      refine ⟨fun d2 => ?_, fun d2 => ?_⟩
      · rw [if_pos (List.drop_eq_nil_of_le (by omega))] at hR
        rw [no hR]
        rfl
      have n2 : ¬ ws.drop (i + 2) = [] := by rw [drop_at (show i + 2 < ws.length by omega)]; simp
      have yy := y1 (by omega)
      rw [if_neg n2] at hR
      simp only [yy]
      refine ⟨by omega, by omega, by omega, by omega, by omega, by omega, _, _, pc_ref30_pair x y xl yl, by omega, by omega, by omega, _, _, pc_ref30_Value y yl, by omega, by omega, fun c8 => ?_, fun c8 => ?_⟩
      · rw [if_pos (show w0 = wMap from c8)] at hR
        have ef : (p.maps ++ [(⟨((valueR x).1 : Nat), ((valueR y).1 : Nat)⟩ : Mp)]).map MpC = p.maps.map MpC ++ [MpC ⟨((valueR x).1 : Nat), ((valueR y).1 : Nat)⟩] := by rw [List.map_append]; rfl
        simp only [v_int, ht2]
        refine ⟨by simp only [List.length_cons, List.length_nil]; omega, fun h => absurd h (by simp), by omega, by omega, (_, i + 3), ?_, go _ 3 (by omega) (by omega) hR (by unfold lens; simp only [List.length_append, List.length_singleton]; omega)⟩
        simp only [Mps, ef]
        rfl
      rw [if_neg (show ¬ w0 = wMap from c8)] at hR
      refine ⟨fun c9 => ?_, fun c9 => ?_⟩
      · rw [if_pos (show w0 = wOver from c9)] at hR
        have ef : (p.over ++ [(⟨((valueR x).1 : Nat), (unqL y).getD []⟩ : El)]).map ElC = p.over.map ElC ++ [ElC ⟨((valueR x).1 : Nat), (unqL y).getD []⟩] := by rw [List.map_append]; rfl
        cases hb : ((valueR x).2 && (unqL y).isSome) with
        | false =>
          rw [hb, if_neg (by simp)] at hR
          exact ⟨by simp only [List.length_cons, List.length_nil]; omega, fun _ => by rw [no hR]; rfl, fun h => absurd h (by simp)⟩
        | true =>
          rw [hb, if_pos rfl] at hR
          refine ⟨by simp only [List.length_cons, List.length_nil]; omega, fun h => absurd h (by simp), fun _ => ⟨by omega, by omega, (_, i + 3), ?_, go _ 3 (by omega) (by omega) hR (by unfold lens; simp only [List.length_append, List.length_singleton]; omega)⟩⟩
          simp only [Els, ef]
          rfl
      rw [if_neg (show ¬ w0 = wOver from c9)] at hR
      refine ⟨fun c10 => ?_, fun c10 => ?_⟩
      · rw [if_pos (show w0 = wAdd from c10)] at hR
        have ef : (p.adds ++ [(⟨((valueR x).1 : Nat), (unqL y).getD []⟩ : El)]).map ElC = p.adds.map ElC ++ [ElC ⟨((valueR x).1 : Nat), (unqL y).getD []⟩] := by rw [List.map_append]; rfl
        cases hb : ((valueR x).2 && (unqL y).isSome) with
        | false =>
          rw [hb, if_neg (by simp)] at hR
          exact ⟨by simp only [List.length_cons, List.length_nil]; omega, fun _ => by rw [no hR]; rfl, fun h => absurd h (by simp)⟩
        | true =>
          rw [hb, if_pos rfl] at hR
          refine ⟨by simp only [List.length_cons, List.length_nil]; omega, fun h => absurd h (by simp), fun _ => ⟨by omega, by omega, (_, i + 3), ?_, go _ 3 (by omega) (by omega) hR (by unfold lens; simp only [List.length_append, List.length_singleton]; omega)⟩⟩
          simp only [Els, ef]
          rfl
      rw [if_neg (show ¬ w0 = wAdd from c10)] at hR
      exact ⟨by rw [no hR]; rfl, fun h => absurd h (by simp)⟩
    · have hk : i = ws.length := by simp at hc; omega
      have hE : iter refS ws.length Pl.zero ws = some p := by
        rw [← i5, hk, List.drop_eq_nil_of_le (Nat.le_refl _), iter_nil]
      have hf : plFew p := by unfold lens at i3; unfold plFew; omega
      rw [hE]
      refine ⟨_, pc_ref29_Right p hf, _, fun h => pc_ref30_Print p hf (of_decide_eq_true h.2) i2, fun h => ?_, fun h => ?_⟩
      · have hn : ¬ (plRight p ∧ printL p = s) := by
          rintro ⟨a, b⟩
          rcases h with (h | h) | h
          · cases h
          · simp [a] at h
          · exact h b
        have e : ((some p).bind fun p => if plRight p ∧ printL p = s then some p else none) = none := if_neg hn
        rw [e]
        rfl
      · have hy : plRight p ∧ printL p = s := ⟨by have := h.1; simpa using this, h.2⟩
        have e : ((some p).bind fun p => if plRight p ∧ printL p = s then some p else none) = some p := if_pos hy
        rw [e]
        rfl
end Go.Vc
