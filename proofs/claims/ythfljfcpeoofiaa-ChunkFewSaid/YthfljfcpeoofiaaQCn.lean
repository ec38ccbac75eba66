/-
  The law ChunkFew: the function returns true, whatever it is handed.
-/
import Derived.Test.YthfljfcpeoofiaaQCl
set_option maxRecDepth 100000
namespace Go.Vc
open Go Go.Proofs Go.Plain
theorem rep_set_all (x : C) (n i : Nat) (z : C) (h : i < n) : (List.replicate i x ++ List.replicate (n - i) z).set i x = List.replicate (i + 1) x ++ List.replicate (n - (i + 1)) z := by
  rw [List.set_append_right _ _ (by simp), List.length_replicate, Nat.sub_self]
  obtain ⟨k, hk⟩ : ∃ k, n - i = k + 1 := ⟨n - i - 1, by omega⟩
  rw [hk, List.replicate_succ, List.set_cons_zero, List.replicate_succ', List.append_assoc]
  congr 2
  congr 1
  omega
theorem law_ChunkFew (cs : List C) (h : TyAll [.sl I64, .int .u8, U16] cs) : PC Try.prog f_crossbarlaw18_ChunkFew ([.sl I64, .int .u8, U16].zip cs) [(.bool, .bool true)] := by
  obtain ⟨_, _, rfl, h1, _, _, rfl, h2, _, _, rfl, h3, rfl⟩ := h
  obtain ⟨l, rfl⟩ := ty_ints h1
  obtain ⟨what, rfl, hwh⟩ := ty_u8' h2
  obtain ⟨many, rfl, hmn⟩ := ty_u16 h3
  apply pcv_crossbarlaw18_ChunkFew rfl
  have n1 : arith .rem .i64 (IntKind.i64.wrap (many : Int)) 20000 = ((many % 20000 : Nat) : Int) := by
    rw [wrapi64_in (by omega), arith_rem _ _ _ (by omega)]
    omega
  have n2 : arith .rem .i64 (IntKind.i64.wrap (what : Int)) 3 = ((what % 3 : Nat) : Int) := by
    rw [wrapi64_in (by omega), arith_rem _ _ _ (by omega)]
    omega
  simp only [vc_crossbarlaw18_ChunkFew, VC.H_asrt, VC.H_cond, VC.H_ret, VC.H_call1, VC.H_call2, ev_var, ev_int, ev_bool, ev_bin, ev_add, ev_mul, ev_eql, ev_leq, ev_gtr, ev_geq, ev_beq, ev_not, ev_ite, ev_conv, ev_len, ev_fits64, ea_nil, ea_cons, env_zero, env_succ, env_cons, env_nil, List.map_cons, List.map_nil, List.zip_cons_cons, List.zip_nil_right, v_int, v_bool, v_ls, bool_ite, pres_nil, pres_cons, orT, orF, andT, andF, notT, notF, decide_eq_true_eq, decide_eq_false_iff_not, forall_const, and_true, Int.not_lt, List.length_map, n1]
  refine ⟨_, pc_crossbarlaw18_awake, fun h => by simp at h, fun _ => ⟨fun _ => trivial, fun hb => ?_⟩⟩
  refine ⟨_, _, pc_chunk_Write l (by omega), fun _ => by omega, fun hbad => ?_, fun _ => ?_⟩
  · exfalso
    obtain ⟨b1, b2⟩ := hbad
    have hm : mayI l := by
      by_cases hm : mayI l
      · exact hm
      · rw [v_int, cwE, if_neg hm] at b1
        exact absurd b1 (by decide)
    obtain ⟨ho, he⟩ := natsI_ok hm
    have hnl : (natsI l).length = l.length := by simp [natsI]
    have e1 : cwL l = ckW (natsI l) := if_pos hm
    have hf := ck_few _ (natsI l) rfl ho
    have hq : arith .quo .i64 ((l.length : Int) + 6) 7 = (((l.length + 6) / 7 : Nat) : Int) := by
      rw [arith_quo _ _ _ (by omega), wrapi64_in (by omega)]
      omega
    have hz : (ckW (natsI l)).length = 0 ↔ l.length = 0 := by
      rw [List.length_eq_zero_iff, ckW_eq_nil, ← hnl, List.length_eq_zero_iff]
    rw [hq, e1] at b2
    simp only [v_ls, List.length_map] at b2
    rcases b2 with b2 | b2
    · omega
    · simp only [decide_eq_decide] at b2
      apply b2
      omega
  · refine ⟨by omega, by omega, by omega, ?_⟩
    have t1 : (((many % 20000 : Nat) : Int)).toNat = many % 20000 := Int.toNat_natCast _
    have ho3 : ckOk (List.replicate (many % 20000) (what % 3)) := fun x hx => by rw [(List.mem_replicate.1 hx).2]; omega
    have hsame := ck_same (what % 3) (by omega) (many % 20000)
    have hW := write_nats (List.replicate (many % 20000) (what % 3)) ho3 (by rw [List.length_replicate]; omega)
    have hq2 : arith .quo .i64 (((many % 20000 : Nat) : Int) + 8190) 8191 = (((many % 20000 + 8190) / 8191 : Nat) : Int) := by
      rw [arith_quo _ _ _ (by omega), wrapi64_in (by omega)]
      omega
    have hn20 : many % 20000 < 20000 := by omega
    generalize many % 20000 = n at *
    refine VC.go_loop (fun i : Nat => [.int i, .ls (List.replicate i (C.int ((what % 3 : Nat) : Int)) ++ List.replicate (n - i) (C.int 0))]) (fun i => i ≤ n) (fun i => n - i) 0 ?_ (Nat.zero_le _) fun i hi => ?_
    · simp only [ev_var, ev_int, ev_bin, ev_conv, ev_rep, env_zero, env_succ, List.map_cons, List.map_nil, v_int, n1, Int.toNat_natCast]
      simp
    · simp only [VC.H_asrt, VC.H_cond, VC.H_ret, VC.H_back, VC.H_call2, ev_var, ev_int, ev_bool, ev_bin, ev_add, ev_eql, ev_lss, ev_geq, ev_ite, ev_conv, ev_len, ev_set, ev_fits64, ea_nil, ea_cons, env_zero, env_succ, env_cons, env_nil, List.map_cons, List.map_nil, v_int, v_bool, v_ls, bool_ite, pres_nil, pres_cons, decide_eq_true_eq, decide_eq_false_iff_not, forall_const, and_true, Int.not_lt, n1, n2, Int.toNat_natCast]
      refine ⟨fun hc => ⟨by omega, by omega, by omega, i + 1, ?_, by omega, by omega⟩, fun hc => ?_⟩
      · rw [rep_set_all _ n i _ (by omega)]
        simp
      · have hi2 : i = n := by omega
        subst hi2
        have e4 : C.ls (List.replicate i (C.int ((what % 3 : Nat) : Int)) ++ List.replicate (i - i) (C.int 0)) = Ns (List.replicate i (what % 3)) := by simp [Ns]
        rw [e4]
        refine ⟨_, _, hW, fun _ => by omega, ?_⟩
        rw [hq2]
        simp [hsame]
end Go.Vc
