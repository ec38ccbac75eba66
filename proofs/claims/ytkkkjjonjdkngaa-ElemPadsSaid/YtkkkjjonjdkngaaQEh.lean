/-
  The laws of elem: each function returns true, whatever it is handed.
-/
import Derived.Test.YtkkkjjonjdkngaaQVel
import Derived.Test.YtkkkjjonjdkngaaQEg
import Derived.Test.YtkkkjjonjdkngaaQBase4
set_option maxRecDepth 100000
namespace Go.Vc
open Go Go.Proofs Go.Plain
theorem ty_u16e {c : C} (h : Ty U16 c) : ∃ n : Nat, c = .int n ∧ n < 65536 := ty_nat rfl h
theorem ty_u8e {c : C} (h : Ty U8 c) : ∃ n : Nat, c = .int n ∧ n < 256 := ty_nat rfl h
theorem ty_el {c : C} (h : Ty ElSh c) : ∃ e : El, c = ElC e := by
  obtain ⟨_, _, rfl, h1, _, _, e2, h2, e3⟩ := h
  obtain ⟨a, rfl, _⟩ := ty_int h1
  obtain ⟨b, rfl⟩ := ty_bytes h2
  simp only [Ty, C.ls.injEq] at e2 e3
  subst e3 e2
  exact ⟨⟨a, b⟩, rfl⟩
theorem ty_els {c : C} (h : Ty (.sl ElSh) c) : ∃ l : List El, c = Els l ∧ l.length ≤ maxLen := by
  obtain ⟨l, rfl, hl, hx⟩ := h
  obtain ⟨es, rfl, _⟩ := ty_list (e := ElC) (P := fun _ => True) fun x hx2 => by
    obtain ⟨e, he⟩ := ty_el (hx x hx2)
    exact ⟨e, he, trivial⟩
  exact ⟨es, rfl, by simpa using hl⟩
theorem deq_sp (s : Sp) : dataEq (.pair (.int .i64) (.pair (.int .i64) (.pair (.int .i64) .unit))) (SpC s) (SpC s) = true := by simp [dataEq]
theorem short_len {l : List El} (h : elShort l = true) : l.length ≤ 300 := (of_decide_eq_true h).2
theorem law_ElemRight (cs : List C) (h : TyAll [.sl ElSh, U16, Byt] cs) : PC Try.prog f_crossbarlaw08_ElemRight ([.sl ElSh, U16, Byt].zip cs) [(.bool, .bool true)] := by
  obtain ⟨_, _, rfl, h1, _, _, rfl, h2, _, _, rfl, h3, rfl⟩ := h
  obtain ⟨l, rfl, hl⟩ := ty_els h1
  obtain ⟨q, rfl, hq⟩ := ty_u16e h2
  obtain ⟨b, rfl⟩ := ty_bytes h3
  apply pcv_crossbarlaw08_ElemRight rfl
  simp only [vc_crossbarlaw08_ElemRight, VC.H_cond, VC.H_ret, VC.H_call1, VC.H_call2, VC.H_call3, ev_var, ev_int, ev_bool, ev_neq, ev_gtr, ev_sneq, ev_not, ev_ite, ev_len, ev_toStr, ea_nil, ea_cons, env_zero, env_succ, env_cons, env_nil, List.map_cons, List.map_nil, List.zip_cons_cons, List.zip_nil_right, v_int, v_bool, v_str, v_ls, bool_ite, pres_nil, pres_cons, orT, orF, notT, notF, nnE, decide_eq_true_eq, decide_eq_false_iff_not, forall_const, and_true, Int.not_lt, ofBytes_length]
  refine ⟨_, pc_law08_awake, fun h => by simp at h, fun _ => ?_⟩
  refine ⟨_, pc_ref08_Short l hl, fun _ => trivial, fun hs => ?_⟩
  simp only [v_bool] at hs
  obtain ⟨hs1, hs2⟩ : elShort l = true ∧ b.length ≤ 3000 := by
    cases hh : elShort l
    · simp [hh] at hs
    · simp [hh] at hs; exact ⟨rfl, by omega⟩
  have hlen := short_len hs1
  have fin : ∀ (x : Bool), PC Try.prog f_elem_Right [(.sl ElSh, Els l)] [(.bool, .bool (decide (elRight l)))] := fun _ => pc_elem_Right l (by omega)
  have rc := elRead_count q b
  have sc := spots_count q b
  refine ⟨_, _, _, pc_elem_Write l (by omega), _, pc_ref08_Right l (by omega), fun hr => ?_, fun hr => ?_⟩
  · have hr : elRight l := by simpa using hr
    obtain ⟨w1, w2⟩ := elw_right hr
    refine ⟨_, fun _ => pc_ref08_Profile l (by omega), _, fun _ => pc_ref08_Write l (by omega) hr, fun hc => ?_, fun _ => ?_⟩
    · exfalso
      simp [w1, w2] at hc
    · refine ⟨_, _, pc_elem_Read q hq b (by omega), _, _, pc_ref08_Read q hq b (by omega), _, _, pc_elem_Spots q hq b (by omega), _, _, pc_ref08_Spots q hq b (by omega), _, fun _ => pc_ref08_Same _ _ (by omega), fun hc => ?_, fun _ => ?_⟩
      · exfalso
        simp at hc
      · refine VC.go_loop (fun i : Nat => [.bool false, .int (i : Int)]) (fun i => i ≤ (spots q b).1.length) (fun i => (spots q b).1.length - i) 0 rfl (Nat.zero_le _) fun i hi => ?_
        simp only [VC.H_asrt, VC.H_cond, VC.H_ret, VC.H_back, VC.H_call1, ev_var, ev_int, ev_bool, ev_add, ev_eql, ev_lss, ev_geq, ev_beq, ev_not, ev_ite, ev_len, ev_idx, ev_deq, ev_fits64, ea_nil, ea_cons, env_zero, env_succ, env_cons, env_nil, List.map_cons, List.map_nil, v_int, v_bool, v_ls, bool_ite, pres_nil, pres_cons, andT, notT, notF, decide_eq_true_eq, decide_eq_false_iff_not, forall_const, and_true, Int.not_lt, List.length_map]
        refine ⟨fun hc => ?_, fun hc => ?_⟩
        · rw [sp_getD _ i (by omega), deq_sp]
          refine ⟨by omega, by omega, by omega, by omega, fun h => by simp at h, fun _ => ⟨by omega, i + 1, by simp, by omega, by omega⟩⟩
        · refine ⟨_, pc_elem_Right l (by omega), _, pc_ref08_Right l (by omega), _, fun _ => pc_elem_Profile l (by omega), _, fun _ => pc_ref08_Profile l (by omega), _, fun _ => pc_elem_Canon q hq b (by omega), _, fun _ => pc_ref08_Canon q hq b (by omega), ?_⟩
          simp
  · have hr : ¬ elRight l := by simpa using hr
    have w1 : elwB l = [] := if_neg hr
    have w2 : elwE l = 1 := if_neg hr
    have w3 : elProfile l = 0 := if_neg hr
    refine ⟨fun hc => ?_, fun _ => ?_⟩
    · exfalso
      simp [w1, w2, w3] at hc
    · refine ⟨_, _, pc_elem_Read q hq b (by omega), _, _, pc_ref08_Read q hq b (by omega), _, _, pc_elem_Spots q hq b (by omega), _, _, pc_ref08_Spots q hq b (by omega), _, fun _ => pc_ref08_Same _ _ (by omega), fun hc => ?_, fun _ => ?_⟩
      · exfalso
        simp at hc
      · refine VC.go_loop (fun i : Nat => [.bool false, .int (i : Int)]) (fun i => i ≤ (spots q b).1.length) (fun i => (spots q b).1.length - i) 0 rfl (Nat.zero_le _) fun i hi => ?_
        simp only [VC.H_asrt, VC.H_cond, VC.H_ret, VC.H_back, VC.H_call1, ev_var, ev_int, ev_bool, ev_add, ev_eql, ev_lss, ev_geq, ev_beq, ev_not, ev_ite, ev_len, ev_idx, ev_deq, ev_fits64, ea_nil, ea_cons, env_zero, env_succ, env_cons, env_nil, List.map_cons, List.map_nil, v_int, v_bool, v_ls, bool_ite, pres_nil, pres_cons, andT, notT, notF, decide_eq_true_eq, decide_eq_false_iff_not, forall_const, and_true, Int.not_lt, List.length_map]
        refine ⟨fun hc => ?_, fun hc => ?_⟩
        · rw [sp_getD _ i (by omega), deq_sp]
          refine ⟨by omega, by omega, by omega, by omega, fun h => by simp at h, fun _ => ⟨by omega, i + 1, by simp, by omega, by omega⟩⟩
        · refine ⟨_, pc_elem_Right l (by omega), _, pc_ref08_Right l (by omega), _, fun _ => pc_elem_Profile l (by omega), _, fun _ => pc_ref08_Profile l (by omega), _, fun _ => pc_elem_Canon q hq b (by omega), _, fun _ => pc_ref08_Canon q hq b (by omega), ?_⟩
          simp
theorem elBytes_len {l : List El} (h : elRight l) (hl : l.length ≤ 300) : (elBytes l).length ≤ 80000 := by
  have := elRaw_len (elNarrow l) l (fun e he => (right_mem h e he).2.2)
  unfold elBytes fill4
  simp only [List.length_append, List.length_replicate]
  omega
theorem prof_lt (l : List El) : elProfile l < 65536 := by unfold elProfile; split <;> (try split) <;> omega
theorem canon_of {l : List El} (h : elRight l) : elCanon (elProfile l) (elBytes l) = true := by
  obtain ⟨x1, x2, _⟩ := read_bytes h
  unfold elCanon
  rw [x1, x2]
  simp
theorem law_ElemBack (cs : List C) (h : TyAll [.sl ElSh, .sl ElSh, U16, Byt] cs) : PC Try.prog f_crossbarlaw08_ElemBack ([.sl ElSh, .sl ElSh, U16, Byt].zip cs) [(.bool, .bool true)] := by
  obtain ⟨_, _, rfl, h1, _, _, rfl, h1', _, _, rfl, h2, _, _, rfl, h3, rfl⟩ := h
  obtain ⟨l, rfl, hl⟩ := ty_els h1
  obtain ⟨m, rfl, hm⟩ := ty_els h1'
  obtain ⟨q, rfl, hq⟩ := ty_u16e h2
  obtain ⟨b, rfl⟩ := ty_bytes h3
  apply pcv_crossbarlaw08_ElemBack rfl
  simp only [vc_crossbarlaw08_ElemBack, VC.H_cond, VC.H_ret, VC.H_call1, VC.H_call2, VC.H_call3, ev_var, ev_int, ev_bool, ev_bin, ev_eql, ev_neq, ev_gtr, ev_seql, ev_beq, ev_not, ev_ite, ev_len, ev_toStr, ea_nil, ea_cons, env_zero, env_succ, env_cons, env_nil, List.map_cons, List.map_nil, List.zip_cons_cons, List.zip_nil_right, v_int, v_bool, v_str, v_ls, toBool_ite, bool_ite, pres_nil, pres_cons, orT, orF, andT, andF, notT, notF, nnE, decide_eq_true_eq, decide_eq_false_iff_not, forall_const, and_true, Int.not_lt, ofBytes_length]
  refine ⟨_, pc_law08_awake, fun h => by simp at h, fun _ => ?_⟩
  refine ⟨_, pc_ref08_Short l hl, _, fun _ => pc_ref08_Short m hm, fun _ => trivial, fun hs => ?_⟩
  simp only [v_bool] at hs
  obtain ⟨hs1, hs3, hs2⟩ : elShort l = true ∧ elShort m = true ∧ b.length ≤ 3000 := by
    cases hh : elShort l
    · simp [hh] at hs
    · cases hh2 : elShort m
      · simp [hh, hh2] at hs
      · simp [hh, hh2] at hs; exact ⟨rfl, rfl, by omega⟩
  have hlen := short_len hs1
  have hlen2 := short_len hs3
  have rc := elRead_count q b
  obtain ⟨_, sg, rr⟩ := spots_good q b
  obtain ⟨rw1, rw2⟩ := elw_right rr
  obtain ⟨x1, x2, _⟩ := read_bytes rr
  have xl := elBytes_len rr (by omega)
  have wr := pc_elem_Write (elRead q b) (by omega)
  rw [rw1, rw2] at wr
  have rd := pc_elem_Read _ (prof_lt (elRead q b)) (elBytes (elRead q b)) (by omega)
  rw [x1, x2] at rd
  -- the second half is the same on both ways
  have half : ∀ (sp : Int), sp = (spots q b).2 → sp ≠ 0 → (elRead q b) = [] := by
    rintro _ rfl h
    rcases sg with h0 | ⟨h0, _⟩
    · exact absurd h0 h
    · unfold elRead; rw [h0]; rfl
  refine ⟨_, _, _, pc_elem_Write l (by omega), _, _, _, pc_elem_Write m (by omega), fun he => ?_, fun he => ?_⟩
  · have hr : elRight l := by
      apply Classical.byContradiction
      intro hn
      rw [show elwE l = 1 from if_neg hn] at he
      simp at he
    obtain ⟨w1, w2⟩ := elw_right hr
    obtain ⟨y1, y2, _⟩ := read_bytes hr
    have yl := elBytes_len hr (by omega)
    have rdl := pc_elem_Read _ (prof_lt l) (elBytes l) (by omega)
    rw [y1, y2] at rdl
    have cl := pc_elem_Canon _ (prof_lt l) (elBytes l) (by omega)
    rw [canon_of hr] at cl
    have sl := pc_ref08_Same l l (by omega)
    rw [decide_eq_true rfl] at sl
    rw [w1]
    refine ⟨_, _, rdl, _, fun _ => sl, _, fun _ => cl, fun hc => ?_, fun _ => ?_⟩
    · exfalso
      have h4 : arith .rem .i64 (((elBytes l).length : Nat) : Int) 4 = 0 := by
        rw [arith_rem _ _ _ (by omega)]
        have := fill4_len (elRaw (elNarrow l) l)
        unfold elBytes
        omega
      simp [h4] at hc
    · refine ⟨_, fun _ => pc_ref08_Same l m (by omega), fun hc => ?_, fun _ => ?_⟩
      · exfalso
        by_cases hm2 : elRight m
        · obtain ⟨z1, z2⟩ := elw_right hm2
          rw [z1, z2] at hc
          by_cases hlm : l = m
          · subst hlm
            simp at hc
          · have : ¬ (elProfile l = elProfile m ∧ elBytes l = elBytes m) := fun h => hlm (elBytes_inj hr hm2 h.1 h.2)
            by_cases hp : elProfile l = elProfile m
            · have hb2 : ¬ elBytes l = elBytes m := fun h => this ⟨hp, h⟩
              simp [hlm, hp, hb2] at hc
            · have hp2 : ¬ ((elProfile l : Nat) : Int) = ((elProfile m : Nat) : Int) := by omega
              simp [hlm, hp2] at hc
        · rw [show elwE m = 1 from if_neg hm2] at hc
          simp at hc
      · refine ⟨_, _, pc_elem_Read q hq b (by omega), fun h0 => ?_, fun h0 => ?_⟩
        · have h0 : (spots q b).2 ≠ 0 := h0
          refine ⟨_, fun _ => pc_elem_Canon q hq b (by omega), ?_⟩
          have : elCanon q b = false := decide_eq_false fun h => h0 h.1
          rw [this, half _ rfl h0]
          rfl
        · have h0 : (spots q b).2 = 0 := h0
          refine ⟨_, _, _, wr, _, _, rd, _, fun _ => pc_elem_Right (elRead q b) (by omega), _, fun _ => pc_ref08_Same (elRead q b) (elRead q b) (by omega), _, fun _ => pc_elem_Canon q hq b (by omega), ?_⟩
          simp only [v_int, v_bool, v_ls, bytesOf_ofBytes]
          unfold elCanon
          by_cases h1 : elProfile (elRead q b) = q
          · simp [h0, h1, rr]
          · have : ¬ ((elProfile (elRead q b) : Nat) : Int) = (q : Int) := by omega
            simp [h0, h1, this, rr]
  · refine ⟨_, _, pc_elem_Read q hq b (by omega), fun h0 => ?_, fun h0 => ?_⟩
    · have h0 : (spots q b).2 ≠ 0 := h0
      refine ⟨_, fun _ => pc_elem_Canon q hq b (by omega), ?_⟩
      have : elCanon q b = false := decide_eq_false fun h => h0 h.1
      rw [this, half _ rfl h0]
      rfl
    · have h0 : (spots q b).2 = 0 := h0
      refine ⟨_, _, _, wr, _, _, rd, _, fun _ => pc_elem_Right (elRead q b) (by omega), _, fun _ => pc_ref08_Same (elRead q b) (elRead q b) (by omega), _, fun _ => pc_elem_Canon q hq b (by omega), ?_⟩
      simp only [v_int, v_bool, v_ls, bytesOf_ofBytes]
      unfold elCanon
      by_cases h1 : elProfile (elRead q b) = q
      · simp [h0, h1, rr]
      · have : ¬ ((elProfile (elRead q b) : Nat) : Int) = (q : Int) := by omega
        simp [h0, h1, this, rr]
end Go.Vc
