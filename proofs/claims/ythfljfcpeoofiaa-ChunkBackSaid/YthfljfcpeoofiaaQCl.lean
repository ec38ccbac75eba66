/-
  The laws of chunk: each function returns true, whatever it is handed.
-/
import Derived.Test.YthfljfcpeoofiaaQVcl
import Derived.Test.YthfljfcpeoofiaaQCg
import Derived.Test.YthfljfcpeoofiaaQBase3
set_option maxRecDepth 100000
namespace Go.Vc
open Go Go.Proofs Go.Plain
theorem ty_i64' {c : C} (h : Ty I64 c) : ∃ n : Int, c = .int n ∧ -9223372036854775808 ≤ n ∧ n ≤ 9223372036854775807 := ty_int h
theorem ty_u8' {c : C} (h : Ty (.int .u8) c) : ∃ n : Nat, c = .int n ∧ n < 256 := ty_nat rfl h
theorem ty_u16 {c : C} (h : Ty U16 c) : ∃ n : Nat, c = .int n ∧ n < 65536 := ty_nat rfl h
theorem ty_u16s {c : C} (h : Ty (.sl U16) c) : ∃ l : List Nat, c = Ns l ∧ l.length ≤ 9223372036854775807 ∧ ∀ x ∈ l, x < 65536 := by
  obtain ⟨l, rfl, hl, hx⟩ := h
  obtain ⟨ns, rfl, ha⟩ := ty_list (e := fun n : Nat => C.int (n : Int)) (P := fun n => n < 65536) fun x hxl => ty_u16 (hx x hxl)
  exact ⟨ns, rfl, by simpa [maxLen] using hl, ha⟩
theorem ty_ints {c : C} (h : Ty (.sl I64) c) : ∃ l : List Int, c = Ints l := by
  obtain ⟨l, rfl, hl, hx⟩ := h
  obtain ⟨ns, rfl, ha⟩ := ty_list (e := C.int) (P := fun _ => True) fun x hxl => by
    obtain ⟨n, hn, _⟩ := ty_i64' (hx x hxl)
    exact ⟨n, hn, trivial⟩
  exact ⟨ns, rfl⟩
theorem ckr_len (c : List Nat) (count : Int) (hc : okC c) : (rL (ckr c count)).length ≤ 4000 := by
  by_cases h : rE (ckr c count) = 0
  · obtain ⟨l, k, h1, h2, h3, h4, h5⟩ := ckr_ok hc h
    rw [h1]
    exact h5
  · cases hr : ckr c count with
    | ok x => rw [hr] at h; exact absurd rfl h
    | error e => simp [rL]
theorem law_ChunkRight (cs : List C) (h : TyAll [.sl I64, .sl U16, I64] cs) : PC Try.prog f_crossbarlaw18_ChunkRight ([.sl I64, .sl U16, I64].zip cs) [(.bool, .bool true)] := by
  obtain ⟨_, _, rfl, h1, _, _, rfl, h2, _, _, rfl, h3, rfl⟩ := h
  obtain ⟨l, rfl⟩ := ty_ints h1
  obtain ⟨c, rfl, hcl, hco⟩ := ty_u16s h2
  obtain ⟨count, rfl, _⟩ := ty_i64' h3
  apply pcv_crossbarlaw18_ChunkRight rfl
  simp only [vc_crossbarlaw18_ChunkRight, VC.H_cond, VC.H_ret, VC.H_call1, VC.H_call2, VC.H_call3, ev_var, ev_int, ev_bool, ev_eql, ev_neq, ev_gtr, ev_beq, ev_not, ev_ite, ev_len, ea_nil, ea_cons, env_zero, env_succ, env_cons, env_nil, List.map_cons, List.map_nil, List.zip_cons_cons, List.zip_nil_right, v_int, v_bool, v_ls, toBool_ite, bool_ite, pres_nil, pres_cons, orT, orF, andT, notT, notF, nnE, decide_eq_true_eq, decide_eq_false_iff_not, forall_const, and_true, Int.not_lt, List.length_map]
  refine ⟨_, pc_crossbarlaw18_awake, fun h => by simp at h, fun _ => ⟨fun _ => trivial, fun hb => ?_⟩⟩
  have hc : okC c := ⟨by omega, hco⟩
  have hrl := ckr_len c count hc
  refine ⟨_, _, pc_chunk_Write l (by omega), _, pc_crossbarref18_May l (by omega), fun hm => ?_, fun hm => ?_⟩
  · have hm : mayI l := by simpa using hm
    obtain ⟨ho, he⟩ := natsI_ok hm
    have hnl : (natsI l).length = l.length := by simp [natsI]
    have e1 : cwL l = ckW (natsI l) := if_pos hm
    have e2 : cwE l = 0 := if_pos hm
    have hwl := ckW_len _ ho
    have hw := pc_crossbarref18_Write (natsI l) ho (by omega)
    rw [← he] at hw
    rw [e1, e2]
    refine ⟨_, fun _ => hw, _, fun _ => pc_crossbarref18_Same _ _ (by omega), fun hx => by simp at hx, fun _ => ?_⟩
    refine ⟨_, _, _, pc_chunk_Read c count hc, _, _, _, pc_crossbarref18_Read c count hc, _, fun _ => ints_nats _ _ (by omega), _, fun _ => pc_chunk_Canon c count hc, _, fun _ => pc_crossbarref18_Canon c count hc, ?_⟩
    simp
  · have hm : ¬ mayI l := by simpa using hm
    have e1 : cwL l = [] := if_neg hm
    have e2 : cwE l = 1 := if_neg hm
    rw [e1, e2]
    refine ⟨fun hx => by simp at hx, fun _ => ?_⟩
    refine ⟨_, _, _, pc_chunk_Read c count hc, _, _, _, pc_crossbarref18_Read c count hc, _, fun _ => ints_nats _ _ (by omega), _, fun _ => pc_chunk_Canon c count hc, _, fun _ => pc_crossbarref18_Canon c count hc, ?_⟩
    simp
end Go.Vc
