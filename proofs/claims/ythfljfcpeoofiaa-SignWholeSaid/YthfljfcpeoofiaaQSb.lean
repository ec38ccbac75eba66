/-
  The contracts of sign, each out of its condition.
-/
import Derived.Test.YthfljfcpeoofiaaQVp
import Derived.Test.YthfljfcpeoofiaaQSa
set_option maxRecDepth 100000
namespace Go.Vc
open Go Go.Proofs Go.Plain
theorem pc_form_w {k : Int} (h : sgWord k) : PC Try.prog f_sign_formOf [(I64, .int k)] [(.ifc 146 .unit, .ls []), (.bool, .bool true)] := by
  apply pcv_sign_formOf rfl
  unfold sgWord at h
  simp only [vc_sign_formOf, VC.H_cond, VC.H_ret, ev_var, ev_int, ev_bool, ev_nil, ev_cons, ev_eql, ev_ite, ea_nil, ea_cons, env_zero, List.map_cons, List.map_nil, v_int, v_bool, v_ls, bool_ite, decide_eq_true_eq, decide_eq_false_iff_not, iteB, iteF]
  refine ⟨fun _ => trivial, fun h2 => ?_⟩
  exfalso; omega
theorem pc_form_n {k : Int} (h : sgNum k) : PC Try.prog f_sign_formOf [(I64, .int k)] [(.ifc 148 (.pair I64 .unit), .ls [.int (sgMany k : Nat)]), (.bool, .bool true)] := by
  apply pcv_sign_formOf rfl
  unfold sgNum at h
  simp only [vc_sign_formOf, VC.H_cond, VC.H_ret, ev_var, ev_int, ev_bool, ev_nil, ev_cons, ev_eql, ev_ite, ea_nil, ea_cons, env_zero, List.map_cons, List.map_nil, v_int, v_bool, v_ls, bool_ite, decide_eq_true_eq, decide_eq_false_iff_not, iteB, iteF]
  rcases h with rfl | rfl
  · simp [sgMany]
  · simp [sgMany]
theorem pc_form_l : PC Try.prog f_sign_formOf [(I64, .int 4)] [(.ifc 149 .unit, .ls []), (.bool, .bool true)] := by
  apply pcv_sign_formOf rfl
  simp [vc_sign_formOf, VC.H_cond, VC.H_ret, ev_var, ev_int, ev_bool, ev_nil, ev_cons, ev_eql, ev_ite, ea_nil, ea_cons, List.map_cons, List.map_nil, and_true]
theorem pc_form_t : PC Try.prog f_sign_formOf [(I64, .int 6)] [(.ifc 150 .unit, .ls []), (.bool, .bool true)] := by
  apply pcv_sign_formOf rfl
  simp [vc_sign_formOf, VC.H_cond, VC.H_ret, ev_var, ev_int, ev_bool, ev_nil, ev_cons, ev_eql, ev_ite, ea_nil, ea_cons, List.map_cons, List.map_nil, and_true]
theorem pc_form_z {k : Int} (h1 : ¬ sgWord k) (h2 : ¬ sgNum k) (h3 : k ≠ 4) (h4 : k ≠ 6) : PC Try.prog f_sign_formOf [(I64, .int k)] [(.nili, .ls []), (.bool, .bool false)] := by
  apply pcv_sign_formOf rfl
  unfold sgWord at h1
  unfold sgNum at h2
  simp only [vc_sign_formOf, VC.H_cond, VC.H_ret, ev_var, ev_int, ev_bool, ev_nil, ev_cons, ev_eql, ev_ite, ea_nil, ea_cons, env_zero, List.map_cons, List.map_nil, v_int, v_bool, v_ls, bool_ite, decide_eq_true_eq, decide_eq_false_iff_not, iteB, iteF]
  refine ⟨fun _ => ?_, fun _ => ⟨fun _ => ?_, fun _ => ⟨fun _ => ?_, fun _ => ⟨fun _ => ?_, fun _ => ⟨fun _ => ?_, fun _ => trivial⟩⟩⟩⟩⟩ <;> exfalso <;> omega
theorem deq_sg (k k' n n' u u' : Int) (t t' : List UInt8) (a a' b b' : Bool) : dataEq SgSh (.ls [.int k, .str t, .int n, .bool a, .bool b, .int u]) (.ls [.int k', .str t', .int n', .bool a', .bool b', .int u']) = decide (k = k' ∧ t = t' ∧ n = n' ∧ a = a' ∧ b = b' ∧ u = u') := by
  rw [Bool.eq_iff_iff]
  simp [dataEq]
abbrev f_sign_put : FuncId := f_sign_putw
abbrev f_sign_Read : FuncId := f_sign_Readw
def sgOwn (s : Sg) : Prop := s.num = 0 ∧ s.a = false ∧ s.b = false ∧ s.turns = 0
instance (s : Sg) : Decidable (sgOwn s) := by unfold sgOwn; exact inferInstance
def sgPutB (s : Sg) : List UInt8 := if s.right then s.bytes else if sgWord s.kind ∧ sgOwn s then s.text else []
theorem put_w (s : Sg) (h : sgWord s.kind) (hs : s.text.length ≤ 1000000) : PC Try.prog f_sign_put [(SgSh, SgC s)] [(Byt, B (sgPutB s)), (.bool, .bool (decide s.right))] := by
  have hr : s.right ↔ sgOwn s ∧ tokL s.text = true := by
    unfold Sg.right sgOwn
    rw [if_pos h]
    constructor
    · rintro ⟨x, y⟩; exact ⟨y, x⟩
    · rintro ⟨x, y⟩; exact ⟨y, x⟩
  apply pcv_sign_putw rfl
  simp only [vc_sign_putw, SgC, VC.H_cond, VC.H_ret, VC.H_call1, VC.H_call2, ev_var, ev_bool, ev_nil, ev_nilS, ev_cons, ev_hd, ev_tl, ev_not, ev_deq, ea_nil, ea_cons, env_zero, env_succ, env_cons, env_nil, List.map_cons, List.map_nil, v_bool, v_ls, v_hd, v_tl, pres_nil, notT, notF, forall_const]
  refine ⟨_, _, pc_form_w h, ?_⟩
  simp only [v_bool, forall_const]
  refine ⟨fun h => absurd h (by simp), _, pc_word_own s, ?_⟩
  simp only [SgC, deq_sg, v_hd, v_tl, decide_eq_true_eq, decide_eq_false_iff_not, true_and]
  refine ⟨fun hc => ?_, fun hc => ⟨_, _, pc_word_write s hs, ?_⟩⟩
  · have ho : ¬ sgOwn s := fun ⟨o1, o2, o3, o4⟩ => hc ⟨by omega, o2.symm, o3.symm, o4.symm⟩
    have hn : ¬ s.right := fun h2 => ho (hr.1 h2).1
    unfold sgPutB
    rw [if_neg hn, if_neg (show ¬ (sgWord s.kind ∧ sgOwn s) from fun h2 => ho h2.2), decide_eq_false hn]
    rfl
  · have ho : sgOwn s := ⟨by omega, hc.2.1.symm, hc.2.2.1.symm, hc.2.2.2.symm⟩
    have e1 : sgPutB s = s.text := by
      unfold sgPutB
      by_cases hx : s.right
      · rw [if_pos hx]
        unfold Sg.bytes
        rw [if_pos h]
      · rw [if_neg hx, if_pos (show sgWord s.kind ∧ sgOwn s from ⟨h, ho⟩)]
    have e2 : decide s.right = tokL s.text := by
      rw [Bool.eq_iff_iff, decide_eq_true_eq, hr]
      exact ⟨fun h2 => h2.2, fun h2 => ⟨ho, h2⟩⟩
    rw [e1, e2]
theorem put_n (s : Sg) (h0 : ¬ sgWord s.kind) (h : sgNum s.kind) (hn : s.num < 4294967296) : PC Try.prog f_sign_put [(SgSh, SgC s)] [(Byt, B (sgPutB s)), (.bool, .bool (decide s.right))] := by
  have hm : 1 ≤ ((sgMany s.kind : Nat) : Int) ∧ ((sgMany s.kind : Nat) : Int) ≤ 8 := by unfold sgMany; split <;> omega
  have hr : s.right ↔ s.text = [] ∧ putE s.num (sgMany s.kind : Nat) = 0 ∧ s.a = false ∧ s.b = false ∧ s.turns = 0 := by
    unfold Sg.right
    rw [if_neg h0, if_pos h, putE_zero, Int.toNat_natCast]
    constructor
    · rintro ⟨x, y, z⟩; exact ⟨x, ⟨hm.1, hm.2, y⟩, z⟩
    · rintro ⟨x, y, z⟩; exact ⟨x, y.2.2, z⟩
  have hp : sgPutB s = if s.right then toBE (sgMany s.kind) s.num else [] := by
    unfold sgPutB Sg.bytes
    rw [if_neg h0, if_pos h, if_neg (show ¬ (sgWord s.kind ∧ sgOwn s) from fun h2 => h0 h2.1)]
  apply pcv_sign_putn rfl
  simp only [vc_sign_putn, SgC, VC.H_cond, VC.H_ret, VC.H_call1, VC.H_call2, ev_var, ev_bool, ev_nil, ev_nilS, ev_cons, ev_hd, ev_tl, ev_not, ev_deq, ea_nil, ea_cons, env_zero, env_succ, env_cons, env_nil, List.map_cons, List.map_nil, v_bool, v_ls, v_hd, v_tl, pres_nil, notT, notF, forall_const]
  refine ⟨_, _, pc_form_n h, ?_⟩
  simp only [v_bool, forall_const]
  refine ⟨fun h => absurd h (by simp), _, pc_number_own _ s, ?_⟩
  simp only [SgC, deq_sg, v_hd, v_tl, decide_eq_true_eq, decide_eq_false_iff_not, true_and]
  refine ⟨fun hc => ?_, fun hc => ⟨_, _, pc_number_write _ s hn, ?_⟩⟩
  · have hn : ¬ s.right := fun h2 => by
      obtain ⟨o1, _, o2, o3, o4⟩ := hr.1 h2
      exact hc ⟨o1.symm, o2.symm, o3.symm, o4.symm⟩
    rw [hp, if_neg hn, decide_eq_false hn]
    rfl
  · have hr2 : s.right ↔ putE s.num (sgMany s.kind : Nat) = 0 := by
      rw [hr]
      exact ⟨fun h2 => h2.2.1, fun h2 => ⟨hc.1.symm, h2, hc.2.1.symm, hc.2.2.1.symm, hc.2.2.2.symm⟩⟩
    rw [hp]
    unfold putB
    by_cases hx : s.right
    · rw [if_pos hx, if_pos (hr2.1 hx), decide_eq_true hx, decide_eq_true (hr2.1 hx), Int.toNat_natCast]
    · rw [if_neg hx, if_neg (fun h2 => hx (hr2.2 h2)), decide_eq_false hx, decide_eq_false (fun h2 => hx (hr2.2 h2))]
theorem put_l (s : Sg) (h : s.kind = 4) : PC Try.prog f_sign_put [(SgSh, SgC s)] [(Byt, B (sgPutB s)), (.bool, .bool (decide s.right))] := by
  have h0 : ¬ sgWord s.kind := by unfold sgWord; omega
  have h1 : ¬ sgNum s.kind := by unfold sgNum; omega
  have hr : s.right ↔ s.text = [] ∧ s.num < 128 ∧ s.b = false ∧ s.turns = 0 := by
    unfold Sg.right
    rw [if_neg h0, if_neg h1, if_pos h]
  have hp : sgPutB s = if s.right then [UInt8.ofNat (s.num + 128 * s.a.toNat)] else [] := by
    unfold sgPutB Sg.bytes
    rw [if_neg h0, if_neg h1, if_pos h, if_neg (show ¬ (sgWord s.kind ∧ sgOwn s) from fun h2 => h0 h2.1)]
  apply pcv_sign_putl rfl
  simp only [vc_sign_putl, SgC, VC.H_cond, VC.H_ret, VC.H_call1, VC.H_call2, ev_var, ev_bool, ev_nil, ev_nilS, ev_cons, ev_hd, ev_tl, ev_not, ev_deq, ea_nil, ea_cons, env_zero, env_succ, env_cons, env_nil, List.map_cons, List.map_nil, v_bool, v_ls, v_hd, v_tl, pres_nil, notT, notF, forall_const]
  rw [h]
  refine ⟨_, _, pc_form_l, ?_⟩
  simp only [v_bool, forall_const]
  have e : (C.ls [.int 4, .str s.text, .int s.num, .bool s.a, .bool s.b, .int s.turns]) = SgC s := by unfold SgC; rw [h]
  rw [e]
  refine ⟨fun h => absurd h (by simp), _, pc_level_own s, ?_⟩
  simp only [SgC, deq_sg, v_hd, v_tl, decide_eq_true_eq, decide_eq_false_iff_not, true_and, h]
  rw [← h]
  refine ⟨fun hc => ?_, fun hc => ⟨_, _, pc_level_write s, ?_⟩⟩
  · have hn : ¬ s.right := fun h2 => by
      obtain ⟨o1, _, o2, o3⟩ := hr.1 h2
      exact hc ⟨o1.symm, o2.symm, o3.symm⟩
    rw [hp, if_neg hn, decide_eq_false hn]
    rfl
  · have hr2 : s.right ↔ s.num < 128 := by
      rw [hr]
      exact ⟨fun h2 => h2.2.1, fun h2 => ⟨hc.1.symm, h2, hc.2.1.symm, hc.2.2.symm⟩⟩
    rw [hp]
    by_cases hx : s.right
    · rw [if_pos hx, if_pos (hr2.1 hx), decide_eq_true hx, decide_eq_true (hr2.1 hx)]
    · rw [if_neg hx, if_neg (fun h2 => hx (hr2.2 h2)), decide_eq_false hx, decide_eq_false (fun h2 => hx (hr2.2 h2))]
theorem put_t (s : Sg) (h : s.kind = 6) : PC Try.prog f_sign_put [(SgSh, SgC s)] [(Byt, B (sgPutB s)), (.bool, .bool (decide s.right))] := by
  have h0 : ¬ sgWord s.kind := by unfold sgWord; omega
  have h1 : ¬ sgNum s.kind := by unfold sgNum; omega
  have h2 : ¬ s.kind = 4 := by omega
  have hr : s.right ↔ s.text = [] ∧ s.num = 0 ∧ 0 ≤ s.turns ∧ s.turns < 4 := by
    unfold Sg.right
    rw [if_neg h0, if_neg h1, if_neg h2, if_pos h]
  have hp : sgPutB s = if s.right then [UInt8.ofNat (sgTurn s)] else [] := by
    unfold sgPutB Sg.bytes
    rw [if_neg h0, if_neg h1, if_neg h2, if_pos h, if_neg (show ¬ (sgWord s.kind ∧ sgOwn s) from fun h2 => h0 h2.1)]
  apply pcv_sign_putt rfl
  simp only [vc_sign_putt, SgC, VC.H_cond, VC.H_ret, VC.H_call1, VC.H_call2, ev_var, ev_bool, ev_nil, ev_nilS, ev_cons, ev_hd, ev_tl, ev_not, ev_deq, ea_nil, ea_cons, env_zero, env_succ, env_cons, env_nil, List.map_cons, List.map_nil, v_bool, v_ls, v_hd, v_tl, pres_nil, notT, notF, forall_const]
  rw [h]
  refine ⟨_, _, pc_form_t, ?_⟩
  simp only [v_bool, forall_const]
  have e : (C.ls [.int 6, .str s.text, .int s.num, .bool s.a, .bool s.b, .int s.turns]) = SgC s := by unfold SgC; rw [h]
  rw [e]
  refine ⟨fun h => absurd h (by simp), _, pc_turn_own s, ?_⟩
  simp only [SgC, deq_sg, v_hd, v_tl, decide_eq_true_eq, decide_eq_false_iff_not, and_true, true_and, h]
  rw [← h]
  refine ⟨fun hc => ?_, fun hc => ⟨_, _, pc_turn_write s, ?_⟩⟩
  · have hn : ¬ s.right := fun h2 => by
      obtain ⟨o1, o2, _⟩ := hr.1 h2
      exact hc ⟨o1.symm, by omega⟩
    rw [hp, if_neg hn, decide_eq_false hn]
    rfl
  · have hr2 : s.right ↔ 0 ≤ s.turns ∧ s.turns < 4 := by
      rw [hr]
      exact ⟨fun h2 => h2.2.2, fun h2 => ⟨hc.1.symm, by omega, h2⟩⟩
    rw [hp]
    by_cases hx : s.right
    · rw [if_pos hx, if_pos (hr2.1 hx), decide_eq_true hx, decide_eq_true (hr2.1 hx)]
    · rw [if_neg hx, if_neg (fun h2 => hx (hr2.2 h2)), decide_eq_false hx, decide_eq_false (fun h2 => hx (hr2.2 h2))]
theorem put_z (s : Sg) (h1 : ¬ sgWord s.kind) (h2 : ¬ sgNum s.kind) (h3 : s.kind ≠ 4) (h4 : s.kind ≠ 6) : PC Try.prog f_sign_put [(SgSh, SgC s)] [(Byt, B (sgPutB s)), (.bool, .bool (decide s.right))] := by
  have hn : ¬ s.right := by unfold Sg.right; rw [if_neg h1, if_neg h2, if_neg h3, if_neg h4]; exact id
  have hp : sgPutB s = [] := by unfold sgPutB; rw [if_neg hn, if_neg (show ¬ (sgWord s.kind ∧ sgOwn s) from fun h => h1 h.1)]
  apply pcv_sign_putz rfl
  simp only [vc_sign_putz, SgC, VC.H_cond, VC.H_ret, VC.H_call2, ev_var, ev_bool, ev_nilS, ev_hd, ev_not, ea_nil, ea_cons, env_zero, env_succ, env_cons, env_nil, List.map_cons, List.map_nil, v_bool, v_hd, pres_nil, notT, notF, forall_const]
  refine ⟨_, _, pc_form_z h1 h2 h3 h4, ?_⟩
  simp only [v_bool, forall_const]
  rw [hp, decide_eq_false hn]
  exact ⟨rfl, fun h => absurd h (by simp)⟩
theorem pc_sign_put (s : Sg) (hs : s.text.length ≤ 1000000) (hn : s.num < 4294967296) : PC Try.prog f_sign_put [(SgSh, SgC s)] [(Byt, B (sgPutB s)), (.bool, .bool (decide s.right))] := by
  rcases kinds s.kind with ⟨h1, _⟩ | ⟨h1, h2, _⟩ | ⟨_, _, h3⟩ | ⟨_, _, h4⟩ | ⟨h1, h2, h3, h4⟩
  · exact put_w s h1 hs
  · exact put_n s h1 h2 hn
  · exact put_l s h3
  · exact put_t s h4
  · exact put_z s h1 h2 h3 h4
theorem pc_sign_Right (s : Sg) (hs : s.text.length ≤ 1000000) (hn : s.num < 4294967296) : PC Try.prog f_sign_Right [(SgSh, SgC s)] [(.bool, .bool (decide s.right))] := by
  apply pcv_sign_Right rfl
  simp only [vc_sign_Right, SgC, VC.H_ret, VC.H_call2, ev_var, ev_nil, ev_cons, ev_hd, ev_tl, ea_nil, ea_cons, env_zero, env_succ, env_cons, env_nil, List.map_cons, List.map_nil, v_ls, v_hd, v_tl, pres_nil, forall_const]
  refine ⟨_, _, pc_sign_put s hs hn, ?_⟩
  simp only []
theorem pc_sign_Write (s : Sg) (hs : s.text.length ≤ 1000000) (hn : s.num < 4294967296) : PC Try.prog f_sign_Write [(SgSh, SgC s)] [(Byt, B (if s.right then s.bytes else [])), (I64, .int (if s.right then 0 else 1))] := by
  apply pcv_sign_Write rfl
  simp only [vc_sign_Write, SgC, VC.H_cond, VC.H_ret, VC.H_call2, ev_var, ev_int, ev_nil, ev_nilS, ev_cons, ev_hd, ev_tl, ev_not, ea_nil, ea_cons, env_zero, env_succ, env_cons, env_nil, List.map_cons, List.map_nil, v_bool, v_ls, v_hd, v_tl, pres_nil, notT, notF, forall_const]
  refine ⟨_, _, pc_sign_put s hs hn, ?_⟩
  simp only [v_bool, decide_eq_true_eq, decide_eq_false_iff_not]
  refine ⟨fun h => ?_, fun h => ?_⟩
  · have h : ¬ s.right := by simpa using h
    rw [if_neg h, if_neg h]
    rfl
  · have h : s.right := by simpa using h
    rw [if_pos h, if_pos h]
    unfold sgPutB
    rw [if_pos h]
theorem pc_read_w {k : Int} (h : sgWord k) (b : List UInt8) (hb : b.length ≤ 1000000) : PC Try.prog f_sign_Read [(I64, .int k), (Byt, B b)] [(SgSh, SgC (sgR k b)), (I64, .int (sgE k b))] := by
  have he : sgE k b = wdE b := by unfold sgE wdE; rw [if_pos h]
  apply pcv_sign_Readw rfl
  simp only [vc_sign_Readw, VC.H_cond, VC.H_ret, VC.H_call2, ev_var, ev_int, ev_bool, ev_str, ev_nil, ev_cons, ev_hd, ev_tl, ev_neq, ev_not, ea_nil, ea_cons, env_zero, env_succ, env_cons, env_nil, List.map_cons, List.map_nil, v_int, v_bool, v_ls, pres_nil, notT, notF, nnE, decide_eq_true_eq, decide_eq_false_iff_not, forall_const]
  refine ⟨_, _, pc_form_w h, ?_⟩
  simp only [v_bool, forall_const]
  refine ⟨fun h => absurd h (by simp), _, _, pc_word_read b hb, ?_⟩
  simp only [SgC, v_int, v_hd, v_tl]
  unfold sgR
  rw [he]
  refine ⟨fun hc => ?_, fun hc => ?_⟩
  · rw [if_neg hc]
    rfl
  · have hc : wdE b = 0 := by simpa using hc
    rw [if_pos hc, if_pos hc, hc]
    unfold sgV
    rw [if_pos h]
theorem pc_read_n {k : Int} (h0 : ¬ sgWord k) (h : sgNum k) (b : List UInt8) (hb : b.length ≤ 1000000) : PC Try.prog f_sign_Read [(I64, .int k), (Byt, B b)] [(SgSh, SgC (sgR k b)), (I64, .int (sgE k b))] := by
  have hm : 1 ≤ ((sgMany k : Nat) : Int) ∧ ((sgMany k : Nat) : Int) ≤ 4 := by unfold sgMany; split <;> omega
  have he : sgE k b = if b.length = sgMany k then 0 else 4 := by unfold sgE; rw [if_neg h0, if_pos h]
  apply pcv_sign_Readn rfl
  simp only [vc_sign_Readn, VC.H_cond, VC.H_ret, VC.H_call1, VC.H_call2, ev_var, ev_int, ev_bool, ev_str, ev_nil, ev_cons, ev_hd, ev_tl, ev_neq, ev_not, ev_ite, ev_len, ea_nil, ea_cons, env_zero, env_succ, env_cons, env_nil, List.map_cons, List.map_nil, v_int, v_bool, v_ls, bool_ite, pres_nil, pres_cons, andT, andF, notT, notF, nnE, decide_eq_true_eq, decide_eq_false_iff_not, forall_const, and_true, true_and, ofBytes_length]
  refine ⟨_, _, pc_form_n h, ?_⟩
  simp only [v_bool, forall_const]
  refine ⟨fun h => absurd h (by simp), _, pc_number_size _, ?_⟩
  simp only [v_int]
  refine ⟨fun hc => ?_, fun hc => ⟨_, _, pc_number_read _ b hb hm, ?_⟩⟩
  · unfold sgR
    rw [he, if_neg (show ¬ b.length = sgMany k by first | omega | (simp at hc; omega)), if_neg (by decide)]
    rfl
  · have hl : b.length = sgMany k := by first | omega | (simp at hc; omega)
    have hg : getE b.length 0 (sgMany k : Nat) = 0 := by rw [getE_zero]; omega
    have hv : getV b 0 (sgMany k : Nat) = be b := by
      unfold getV cut
      rw [if_pos hg, Int.toNat_natCast, ← hl]
      simp
    rw [hg, hv]
    simp only [SgC, v_int, v_hd, v_tl, forall_const]
    unfold sgR
    rw [he, if_pos hl]
    rw [if_pos rfl]
    unfold sgV
    rw [if_neg h0, if_pos h]
    exact ⟨fun h => absurd rfl h, rfl⟩
theorem pc_read_l (b : List UInt8) (hb : b.length ≤ 1000000) : PC Try.prog f_sign_Read [(I64, .int 4), (Byt, B b)] [(SgSh, SgC (sgR 4 b)), (I64, .int (sgE 4 b))] := by
  have h0 : ¬ sgWord 4 := by decide
  have h1 : ¬ sgNum 4 := by decide
  have he : sgE 4 b = if b.length = 1 then 0 else 4 := by unfold sgE; rw [if_neg h0, if_neg h1, if_pos (.inl rfl)]
  apply pcv_sign_Readl rfl
  simp only [vc_sign_Readl, VC.H_cond, VC.H_ret, VC.H_call1, VC.H_call2, ev_var, ev_int, ev_bool, ev_str, ev_nil, ev_cons, ev_hd, ev_tl, ev_neq, ev_not, ev_ite, ev_len, ea_nil, ea_cons, env_zero, env_succ, env_cons, env_nil, List.map_cons, List.map_nil, v_int, v_bool, v_ls, bool_ite, pres_nil, pres_cons, andT, andF, notT, notF, nnE, decide_eq_true_eq, decide_eq_false_iff_not, forall_const, and_true, true_and, ofBytes_length]
  refine ⟨_, _, pc_form_l, ?_⟩
  simp only [v_bool, forall_const]
  refine ⟨fun h => absurd h (by simp), _, pc_level_size, ?_⟩
  simp only [v_int]
  refine ⟨fun hc => ?_, fun hc => ⟨_, _, pc_level_read b (by first | omega | (simp at hc; omega)), ?_⟩⟩
  · unfold sgR
    rw [he, if_neg (show ¬ b.length = 1 by first | omega | (simp at hc; omega)), if_neg (by decide)]
    rfl
  · have hl : b.length = 1 := by first | omega | (simp at hc; omega)
    simp only [SgC, v_int, v_hd, v_tl, forall_const]
    unfold sgR
    rw [he, if_pos hl]
    rw [if_pos rfl]
    unfold sgV
    rw [if_neg h0, if_neg h1, if_pos rfl]
    exact ⟨fun h => absurd rfl h, rfl⟩
theorem pc_read_t (b : List UInt8) (hb : b.length ≤ 1000000) : PC Try.prog f_sign_Read [(I64, .int 6), (Byt, B b)] [(SgSh, SgC (sgR 6 b)), (I64, .int (sgE 6 b))] := by
  have h0 : ¬ sgWord 6 := by decide
  have h1 : ¬ sgNum 6 := by decide
  have he : sgE 6 b = if b.length = 1 then 0 else 4 := by unfold sgE; rw [if_neg h0, if_neg h1, if_pos (.inr rfl)]
  apply pcv_sign_Readt rfl
  simp only [vc_sign_Readt, VC.H_cond, VC.H_ret, VC.H_call1, VC.H_call2, ev_var, ev_int, ev_bool, ev_str, ev_nil, ev_cons, ev_hd, ev_tl, ev_neq, ev_not, ev_ite, ev_len, ea_nil, ea_cons, env_zero, env_succ, env_cons, env_nil, List.map_cons, List.map_nil, v_int, v_bool, v_ls, bool_ite, pres_nil, pres_cons, andT, andF, notT, notF, nnE, decide_eq_true_eq, decide_eq_false_iff_not, forall_const, and_true, true_and, ofBytes_length]
  refine ⟨_, _, pc_form_t, ?_⟩
  simp only [v_bool, forall_const]
  refine ⟨fun h => absurd h (by simp), _, pc_turn_size, ?_⟩
  simp only [v_int]
  refine ⟨fun hc => ?_, fun hc => ⟨_, _, pc_turn_read b (by first | omega | (simp at hc; omega)), ?_⟩⟩
  · unfold sgR
    rw [he, if_neg (show ¬ b.length = 1 by first | omega | (simp at hc; omega)), if_neg (by decide)]
    rfl
  · have hl : b.length = 1 := by first | omega | (simp at hc; omega)
    simp only [SgC, v_int, v_hd, v_tl, forall_const]
    unfold sgR
    rw [he, if_pos hl]
    rw [if_pos rfl]
    unfold sgV
    rw [if_neg h0, if_neg h1, if_neg (by decide)]
    exact ⟨fun h => absurd rfl h, rfl⟩
theorem pc_read_z {k : Int} (h1 : ¬ sgWord k) (h2 : ¬ sgNum k) (h3 : k ≠ 4) (h4 : k ≠ 6) (b : List UInt8) : PC Try.prog f_sign_Read [(I64, .int k), (Byt, B b)] [(SgSh, SgC (sgR k b)), (I64, .int (sgE k b))] := by
  have he : sgE k b = 1 := by unfold sgE; rw [if_neg h1, if_neg h2, if_neg (by omega)]
  apply pcv_sign_Readz rfl
  simp only [vc_sign_Readz, VC.H_cond, VC.H_ret, VC.H_call2, ev_var, ev_int, ev_bool, ev_str, ev_nil, ev_cons, ev_not, ea_nil, ea_cons, env_zero, env_succ, env_cons, env_nil, List.map_cons, List.map_nil, v_bool, v_ls, pres_nil, notT, notF, forall_const]
  refine ⟨_, _, pc_form_z h1 h2 h3 h4, ?_⟩
  simp only [v_bool, forall_const]
  unfold sgR
  rw [he, if_neg (by decide)]
  exact ⟨rfl, fun h => absurd h (by simp)⟩
theorem pc_sign_Read (k : Int) (b : List UInt8) (hb : b.length ≤ 1000000) : PC Try.prog f_sign_Read [(I64, .int k), (Byt, B b)] [(SgSh, SgC (sgR k b)), (I64, .int (sgE k b))] := by
  rcases kinds k with ⟨h1, _⟩ | ⟨h1, h2, _⟩ | ⟨_, _, rfl⟩ | ⟨_, _, rfl⟩ | ⟨h1, h2, h3, h4⟩
  · exact pc_read_w h1 b hb
  · exact pc_read_n h1 h2 b hb
  · exact pc_read_l b hb
  · exact pc_read_t b hb
  · exact pc_read_z h1 h2 h3 h4 b
theorem sgR_len (k : Int) (b : List UInt8) : (sgR k b).text.length ≤ b.length := by
  unfold sgR
  split
  · unfold sgV
    split
    · exact Nat.le_refl _
    · split
      · exact Nat.zero_le _
      · split <;> exact Nat.zero_le _
  · exact Nat.zero_le _
theorem sgR_num (k : Int) (b : List UInt8) : (sgR k b).num < 4294967296 := by
  unfold sgR
  split
  · rename_i he
    unfold sgE at he
    unfold sgV
    have := at0_lt b
    split
    · exact (show (0 : Nat) < 4294967296 by decide)
    · rename_i h0
      rw [if_neg h0] at he
      split
      · rename_i h1
        rw [if_pos h1] at he
        split at he
        · rename_i hl
          refine Nat.lt_of_lt_of_le (be_lt _) ?_
          have : b.length ≤ 4 := by rw [hl]; unfold sgMany; split <;> omega
          exact Nat.le_trans (Nat.pow_le_pow_right (by decide) this) (by decide)
        · cases he
      · split
        · show at0 b % 128 < 4294967296
          omega
        · exact (show (0 : Nat) < 4294967296 by decide)
  · exact (show (0 : Nat) < 4294967296 by decide)
theorem pc_sign_Canon (k : Int) (b : List UInt8) (hb : b.length ≤ 1000000) : PC Try.prog f_sign_Canon [(I64, .int k), (Byt, B b)] [(.bool, .bool (sgCanon k b))] := by
  apply pcv_sign_Canon rfl
  simp only [vc_sign_Canon, VC.H_cond, VC.H_ret, VC.H_call1, VC.H_call2, ev_var, ev_int, ev_bool, ev_nil, ev_cons, ev_hd, ev_tl, ev_eql, ev_neq, ev_ite, ea_nil, ea_cons, env_zero, env_succ, env_cons, env_nil, List.map_cons, List.map_nil, v_int, v_bool, v_ls, pres_nil, pres_cons, nnE, decide_eq_true_eq, decide_eq_false_iff_not, forall_const, and_true]
  refine ⟨_, _, pc_sign_Read k b hb, ?_⟩
  simp only [SgC, v_int, v_hd, v_tl]
  unfold sgCanon
  refine ⟨fun h => ?_, fun h => ?_⟩
  · rw [decide_eq_false (fun h2 => h h2.1)]
  · have h : sgE k b = 0 := by simpa using h
    obtain ⟨hr, _⟩ := sg_right h
    have hl := sgR_len k b
    refine ⟨_, _, pc_sign_Write (sgR k b) (by omega) (sgR_num k b), _, fun _ => pc_bytes_Equal _ _, ?_⟩
    simp only [v_int, bool_ite]
    rw [if_pos hr, if_pos hr]
    simp [h]
end Go.Vc
