/-
  The law TextWords, out of what is asked of Quote and loosen.
-/
import Derived.Test.YtodhgafhllbojaaDoorQVtm
import Derived.Test.YtodhgafhllbojaaDoorQTu
set_option maxRecDepth 100000
namespace Go.Vc
open Go Go.Proofs Go.Plain
theorem join_snoc : ∀ (ws : List (List UInt8)) (w : List UInt8), joinSp (ws ++ [w]) = if ws = [] then w else joinSp ws ++ 32 :: w
  | [], w => rfl
  | [v], w => rfl
  | u :: v :: r, w => by
    have ih := join_snoc (v :: r) w
    rw [if_neg (by simp)] at ih ⊢
    have e1 : joinSp (u :: v :: r ++ [w]) = u ++ 32 :: joinSp (v :: r ++ [w]) := rfl
    have e2 : joinSp (u :: v :: r) = u ++ 32 :: joinSp (v :: r) := rfl
    rw [e1, e2, ih]
    simp
theorem join_le : ∀ (a b : List (List UInt8)), (joinSp a).length ≤ (joinSp (a ++ b)).length
  | [], b => by simp [joinSp]
  | [w], [] => by simp
  | [w], v :: b => by
    have e : joinSp ([w] ++ v :: b) = w ++ 32 :: joinSp (v :: b) := rfl
    rw [e]; simp [joinSp]
  | u :: v :: r, b => by
    have ih := join_le (v :: r) b
    have e1 : joinSp (u :: v :: r ++ b) = u ++ 32 :: joinSp (v :: r ++ b) := rfl
    have e2 : joinSp (u :: v :: r) = u ++ 32 :: joinSp (v :: r) := rfl
    rw [e1, e2]
    simp only [List.length_append, List.length_cons] at ih ⊢
    omega
theorem join_take (o : List (List UInt8)) (i : Nat) (h : i < o.length) : joinSp (o.take (i + 1)) = (if (0 : Int) < (i : Int) then joinSp (o.take i) ++ [32] else joinSp (o.take i)) ++ o.getD i [] := by
  rw [List.take_succ_eq_append_getElem h, join_snoc]
  have e : o.getD i [] = o[i] := by simp [List.getD, h]
  rw [e]
  by_cases h0 : i = 0
  · subst h0; simp [joinSp]
  · rw [if_neg (by intro h1; have := congrArg List.length h1; rw [List.length_take, List.length_nil] at this; omega), if_pos (by omega)]; simp
theorem ty_strs {c : C} (h : Ty (.sl .str) c) : ∃ L : List (List UInt8), c = .ls (L.map .str) ∧ L.length ≤ maxLen := by
  obtain ⟨l, rfl, hl, h⟩ := h
  refine ⟨l.map C.toStr, ?_, by simpa using hl⟩
  congr 1
  rw [List.map_map]
  conv => lhs; rw [← List.map_id l]
  apply List.map_congr_left
  intro c hc
  obtain ⟨s, rfl, _⟩ := h c hc
  rfl
theorem ty_bools {c : C} (h : Ty (.sl .bool) c) : ∃ L : List Bool, c = .ls (L.map .bool) ∧ L.length ≤ maxLen := by
  obtain ⟨l, rfl, hl, h⟩ := h
  refine ⟨l.map C.toBool, ?_, by simpa using hl⟩
  congr 1
  rw [List.map_map]
  conv => lhs; rw [← List.map_id l]
  apply List.map_congr_left
  intro c hc
  obtain ⟨s, rfl⟩ := h c hc
  rfl
theorem bools_getD (l : List Bool) (i : Nat) (h : i < l.length) : (l.map C.bool).getD i default = .bool (l.getD i false) := by
  simp [List.getD, h]
def wOf (L : List (List UInt8)) (B : List Bool) (j : Nat) : List UInt8 := if B.getD j false && tokL (L.getD j []) then L.getD j [] else qs (L.getD j [])
theorem wOf_len (L : List (List UInt8)) (B : List Bool) (j : Nat) (h : (L.getD j []).length ≤ 100) : (wOf L B j).length ≤ 302 := by
  unfold wOf
  have := qs_len (L.getD j [])
  split <;> omega
theorem wOf_word (L : List (List UInt8)) (B : List Bool) (j : Nat) : isWord (wOf L B j) := by
  unfold wOf
  split
  · rename_i h
    simp only [Bool.and_eq_true] at h
    exact .inr h.2
  · exact .inl ⟨_, rfl⟩
theorem join_step (L : List (List UInt8)) (B : List Bool) (i : Nat) : joinSp ((List.range (i + 1)).map (wOf L B)) = (if (0 : Int) < (i : Int) then joinSp ((List.range i).map (wOf L B)) ++ [32] else joinSp ((List.range i).map (wOf L B))) ++ wOf L B i := by
  rw [List.range_succ, List.map_append, List.map_singleton, join_snoc]
  by_cases h : i = 0
  · subst h; simp [joinSp]
  · rw [if_neg (by simp; exact h), if_pos (by omega)]; simp
theorem law_TextWords (cs : List C) (h : TyAll [.sl .str, .sl .bool, .str] cs) : PC Tryd.prog f_crossbarlaw04_TextWords ([.sl .str, .sl .bool, .str].zip cs) [(.bool, .bool true)] := by
  obtain ⟨_, _, rfl, hl, _, _, rfl, hb, _, _, rfl, ⟨s, rfl, hs⟩, rfl⟩ := h
  obtain ⟨L, rfl, hL⟩ := ty_strs hl
  obtain ⟨B, rfl, hB⟩ := ty_bools hb
  have hQ := quoteOk
  have hLo := loosenOk
  apply pcv_crossbarlaw04_TextWords rfl
  simp only [vc_crossbarlaw04_TextWords, VC.H_cond, VC.H_ret, VC.H_call1, ev_var, ev_int, ev_bool, ev_eql, ev_lss, ev_gtr, ev_not, ev_ite, ev_len, ev_slen, ea_nil, ea_cons, env_zero, env_succ, env_cons, env_nil, List.map_cons, List.map_nil, List.zip_cons_cons, List.zip_nil_right, v_int, v_bool, v_str, v_ls, bool_ite, pres_nil, orT, orF, notT, notF, decide_eq_true_eq, decide_eq_false_iff_not, forall_const, Int.not_lt, List.length_map]
  refine ⟨_, pc_law04_awake hQ hLo, fun h => by simp at h, fun _ => ⟨fun _ => trivial, fun hg => ?_⟩⟩
  have hn : 0 < L.length ∧ L.length ≤ 20 ∧ L.length ≤ B.length ∧ s.length ≤ 2000 := by omega
  refine VC.go_loop (fun x : C × Nat => [x.1, .str (joinSp ((List.range x.2).map (wOf L B))), .ls (((List.range x.2).map (wOf L B)).map .str), .int (x.2 : Int)])
    (fun x => x.2 ≤ L.length ∧ (joinSp ((List.range x.2).map (wOf L B))).length ≤ 400 * x.2 ∧ ∀ j, j < x.2 → isWord (wOf L B j)) (fun x => L.length - x.2) (.bool false, 0) rfl ⟨by omega, by simp [joinSp], fun j hj => by omega⟩ ?_
  rintro ⟨c, i⟩ ⟨h1, h2, h3⟩
  simp only [VC.H_asrt, VC.H_cond, VC.H_ret, VC.H_back, VC.H_call1, VC.H_call2, ev_var, ev_int, ev_bool, ev_str, ev_nil, ev_cons, ev_add, ev_mul, ev_eql, ev_neq, ev_lss, ev_leq, ev_gtr, ev_geq, ev_not, ev_ite, ev_len, ev_slen, ev_idx, ev_app, ev_cat, ev_fits64, ea_nil, ea_cons, env_zero, env_succ, env_cons, env_nil, List.map_cons, List.map_nil, v_int, v_bool, v_str, v_ls, toBool_ite, toStr_ite, bool_ite, str_ite, pres_nil, pres_cons, orT, orF, andT, notT, nnE, decide_eq_true_eq, decide_eq_false_iff_not, forall_const, and_true, Int.not_lt, List.length_map, List.length_singleton]
  simp only at h1 h2 h3
  refine ⟨fun hi => ?_, fun hi => ?_⟩
  · rw [Int.toNat_natCast, strs_getD _ _ (by omega), bools_getD _ _ (by omega), v_str, v_bool]
    have hstep := join_step L B i
    have hw : (if B.getD i false = true ∧ tokL (L.getD i []) = true then L.getD i [] else qs (L.getD i [])) = wOf L B i := by unfold wOf; simp only [Bool.and_eq_true]
    refine ⟨by omega, by omega, fun _ => trivial, fun hlen => ?_⟩
    have hwl := wOf_len L B i (by omega)
    have hjl : (joinSp ((List.range (i + 1)).map (wOf L B))).length ≤ 400 * (i + 1) := by
      rw [hstep, List.length_append]
      split
      · simp only [List.length_append, List.length_singleton]; omega
      · omega
    have hsl := hjl
    rw [hstep, List.length_append] at hsl
    refine ⟨by omega, by omega, _, hQ _ (by omega), by omega, by omega, fun _ => by omega, fun _ => by omega, _, fun _ => pc_text_Token (L.getD i []) (by omega), fun _ => by omega, fun _ => by omega, ?_, fun _ => by omega, ?_, by omega, (c, i + 1), ?_, ⟨by simp only; omega, hjl, fun j hj => wOf_word L B j⟩, by simp only; omega⟩
    · simp only [List.length_range]; omega
    · simp only [v_str, v_bool, hw]
      omega
    · simp only [v_str, v_bool, hw, hstep]
      rw [List.range_succ, List.map_append, List.map_append]
      simp only [List.map_singleton, ← hw]
      split <;> simp <;> (split <;> rfl)
  · obtain rfl : i = L.length := by omega
    have hne : (List.range L.length).map (wOf L B) ≠ [] := by simp; intro h; rw [h] at hn; simp at hn
    obtain ⟨w1, w2, w3⟩ := words_of ((List.range L.length).map (wOf L B)) hne (fun w hw => by
      obtain ⟨j, _, rfl⟩ := List.mem_map.1 hw
      exact wOf_word L B j)
    generalize hws : (List.range L.length).map (wOf L B) = ws at *
    have hwl : ws.length ≤ 20 := by rw [← hws]; simp; omega
    have p1 := pc_text_Words (joinSp ws) (by omega)
    have p2 := pc_text_Words (joinSp ws ++ [32]) (by simp only [List.length_append, List.length_singleton]; omega)
    have p3 := pc_text_Words (32 :: joinSp ws) (by simp only [List.length_cons]; omega)
    rw [w1] at p1
    rw [w2] at p2
    rw [w3] at p3
    refine ⟨_, _, p1, by omega, _, _, p2, by omega, _, _, p3, _, fun _ => pc_same ws ws (by omega), fun hc => ?_, fun _ => ⟨_, _, pc_text_Words s (by omega), fun hc => ?_, fun hc => ?_⟩⟩
    · exfalso
      simp [wdE] at hc
    · have : wordsL s = none := by
        cases hv : wordsL s with
        | none => rfl
        | some o => rw [hv] at hc; simp [wdE] at hc
      rw [this]
      simp [wdB]
    · cases hv : wordsL s with
      | none => rw [hv] at hc; simp [wdE] at hc
      | some o =>
        obtain ⟨j1, j2, j3⟩ := words_join hv
        have hj := join_le
        refine VC.go_loop (fun i : Nat => [.str (joinSp (o.take i)), .int i]) (fun i => i ≤ o.length) (fun i => o.length - i) 0 rfl (Nat.zero_le _) fun i hi => ?_
        have hol := joinSp_len o j3
        rw [j1] at hol
        simp only [VC.H_asrt, VC.H_cond, VC.H_ret, VC.H_back, ev_var, ev_int, ev_bool, ev_str, ev_add, ev_lss, ev_gtr, ev_geq, ev_seql, ev_ite, ev_len, ev_slen, ev_idx, ev_cat, ev_fits64, ea_nil, ea_cons, env_zero, env_succ, env_cons, env_nil, List.map_cons, List.map_nil, v_int, v_bool, v_str, v_ls, bool_ite, str_ite, pres_nil, pres_cons, decide_eq_true_eq, decide_eq_false_iff_not, forall_const, and_true, Int.not_lt, wdB, Option.getD_some, List.length_map]
        refine ⟨fun hc => ?_, fun hc => ?_⟩
        · have hi2 : i < o.length := by omega
          have hst := join_take o i hi2
          have hle := join_le (o.take (i + 1)) (o.drop (i + 1))
          rw [List.take_append_drop, j1] at hle
          have hle2 := hle
          rw [hst, List.length_append] at hle2
          rw [Int.toNat_natCast, strs_getD _ _ hi2, v_str]
          have hle3 := join_le (o.take i) (o.drop i)
          rw [List.take_append_drop, j1] at hle3
          refine ⟨fun _ => by simp only [List.length_singleton]; omega, by omega, by omega, by omega, by omega, i + 1, by rw [hst]; simp, by omega, by omega⟩
        · have : i = o.length := by omega
          subst this
          rw [List.take_length, j1]
          have : 0 < o.length := List.length_pos_iff.2 j2
          simp
          omega
end Go.Vc
