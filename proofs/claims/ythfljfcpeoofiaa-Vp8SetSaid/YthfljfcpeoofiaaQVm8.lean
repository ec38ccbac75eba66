/-
  The law of vp8's setting of numbers: it returns true, whatever it is handed.
-/
import Derived.Test.YthfljfcpeoofiaaQVl8
import Derived.Test.YthfljfcpeoofiaaQBase3
set_option maxRecDepth 100000
namespace Go.Vc
open Go Go.Proofs Go.Plain
theorem law_Vp8Set (cs : List C) (h : TyAll [Byt, I64, I64, I64] cs) : PC Try.prog f_crossbarlaw23_Vp8Set ([Byt, I64, I64, I64].zip cs) [(.bool, .bool true)] := by
  obtain ⟨_, _, rfl, h2, _, _, rfl, h3, _, _, rfl, h4, _, _, rfl, h5, rfl⟩ := h
  obtain ⟨b, rfl⟩ := ty_bytes h2
  obtain ⟨p, rfl, _⟩ := ty_i64v h3
  obtain ⟨l, rfl, _⟩ := ty_i64v h4
  obtain ⟨k, rfl, _⟩ := ty_i64v h5
  apply pcv_crossbarlaw23_Vp8Set rfl
  simp only [vc_crossbarlaw23_Vp8Set, VC.H_asrt, VC.H_cond, VC.H_ret, VC.H_call1, VC.H_call2, VC.H_call3, ev_var, ev_int, ev_bool, ev_nil, ev_cons, ev_hd, ev_tl, ev_eql, ev_neq, ev_lss, ev_leq, ev_gtr, ev_geq, ev_sneq, ev_not, ev_ite, ev_len, ev_sub, ev_toStr, ev_deq, ea_nil, ea_cons, env_zero, env_succ, env_cons, env_nil, List.map_cons, List.map_nil, List.zip_cons_cons, List.zip_nil_right, v_int, v_bool, v_str, v_ls, bool_ite, pres_nil, pres_cons, orT, orF, andT, notT, notF, nnE, decide_eq_true_eq, decide_eq_false_iff_not, forall_const, and_true, Int.not_lt, ofBytes_length]
  refine ⟨_, pc_crossbarlaw23_awake, fun h => by simp at h, fun _ => ⟨fun _ => trivial, fun hb => ?_⟩⟩
  refine ⟨_, _, _, pc_vp8_Read b (by omega), _, _, pc_vp8_Set b p l k (by omega), fun hc => ?_, fun hc => ?_⟩
  · have hS : ¬ v8setE b p l k = 0 := by
      simp only [v_int] at hc
      rcases hc with hc | hc
      · exact fun h => hc (v8setE_zero.1 h).1
      · exact hc
    have e : v8setB b p l k = [] := if_neg hS
    simp [e, hS]
  · simp only [v_int] at hc
    obtain ⟨hE, hS⟩ := hc
    have S := v8_sets b p l k hS
    have hf := (v8E_zero hE).1
    have h1 : 1 ≤ v8fin b := by rw [v8fin_eq, v8key_eq, v8lev_eq]; (repeat' split) <;> omega
    have e1 : v8D b = V8.of b := if_pos hE
    have e2 : v8N b = v8fin b := if_pos hE
    generalize hx : v8setB b p l k = x at S
    generalize ho : v8setB b p (-1) (-1) = one at S
    have e3 : v8D x = (V8.of b).upd p l k := by rw [v8D, if_pos S.e, S.of]
    have e4 : v8N x = v8fin b := by rw [v8N, if_pos S.e, S.fin]
    have hl := S.len
    have t := S.two
    have bk := S.back
    have no := S.none
    rw [ho] at t
    rw [e1, e2]
    simp only [v_hd, v_tl, v_int, v_bool, v_ls, ofBytes_length]
    refine ⟨_, _, _, pc_vp8_Read x (by omega), _, _, pc_vp8_Set x (V8.of b).pic (V8.of b).level (V8.of b).key (by omega), _, _, pc_vp8_Set b (-1) (-1) (-1) (by omega), _, _, pc_vp8_Set b p (-1) (-1) (by omega), ?_⟩
    rw [ho]
    refine ⟨_, _, pc_vp8_Set one (-1) l k (by omega), ?_⟩
    rw [e3, e4, S.e, bk.1, bk.2, no.1, no.2, t.1, t.2.1, t.2.2.1]
    have e5 : List.drop ((v8fin b : Nat) : Int).toNat (List.take ((x.length : Nat) : Int).toNat (ofBytes x)) = ofBytes (b.drop (v8fin b)) := by
      rw [Int.toNat_natCast, Int.toNat_natCast, ofBytes_take, List.take_length, ofBytes_drop, S.rest]
    have e6 : List.drop ((v8fin b : Nat) : Int).toNat (List.take ((b.length : Nat) : Int).toNat (ofBytes b)) = ofBytes (b.drop (v8fin b)) := by
      rw [Int.toNat_natCast, Int.toNat_natCast, ofBytes_take, List.take_length, ofBytes_drop]
    simp only [v_hd, v_tl, v_int, v_ls, e5, e6]
    refine ⟨fun _ => by omega, fun _ => by omega, fun _ => by omega, fun _ => by omega, fun _ => by omega, fun _ => by omega, fun hc => ?_, fun _ => ?_⟩
    · exfalso
      have g1 : ¬ ((v8fin b : Nat) : Int) < 1 := by omega
      have g2 : ¬ ((x.length : Nat) : Int) < ((v8fin b : Nat) : Int) := by omega
      have g3 : ((x.length : Nat) : Int) = ((b.length : Nat) : Int) := by omega
      simp [g1, g3] at hc
      all_goals omega
    · have g := v8_deq ((V8.of b).upd p l k) ((V8.of b).upd p l k)
      simp only [decide_true] at g
      rw [← apply_ite C.int, ← apply_ite C.int, ← apply_ite C.int]
      exact congrArg (fun z => [(Sh.bool, C.bool z)]) g
end Go.Vc
