/-
  The law ChunkBack: the function returns true, whatever it is handed.
-/
import Derived.Test.YthfljfcpeoofiaaQCl
set_option maxRecDepth 100000
namespace Go.Vc
open Go Go.Proofs Go.Plain
theorem ck_t1 (c : List Nat) (count : Int) (h : ¬ rE (ckr c count) = 0) : rL (ckr c count) = [] ∧ rN (ckr c count) = 0 ∧ ¬ ckCan c count := by
  refine ⟨?_, ?_, fun hc => h hc.1⟩
  all_goals
    cases hr : ckr c count with
    | ok x => rw [hr] at h; exact absurd rfl h
    | error e => rfl
theorem ck_t2 (y : List Nat) (count : Int) (h : (y.length : Int) = count) (ho : ckOk y) (hl : y.length ≤ 4000) : okC (ckW y) ∧ ckr (ckW y) count = .ok (y, (ckW y).length) ∧ (ckW y).length ≤ 4000 := by
  have h1 := ckW_len y ho
  refine ⟨⟨by omega, ckW_lt _ y rfl ho⟩, ?_, by omega⟩
  have h2 := rd_ckW [] _ y rfl ho
  rw [List.append_nil] at h2
  rw [ckr, if_neg (by omega), ← h, Int.toNat_natCast, h2]
theorem law_ChunkBack (cs : List C) (h : TyAll [.sl I64, .sl U16, I64, .sl U16] cs) : PC Try.prog f_crossbarlaw18_ChunkBack ([.sl I64, .sl U16, I64, .sl U16].zip cs) [(.bool, .bool true)] := by
  obtain ⟨_, _, rfl, h1, _, _, rfl, h2, _, _, rfl, h3, _, _, rfl, h4, rfl⟩ := h
  obtain ⟨l, rfl⟩ := ty_ints h1
  obtain ⟨c, rfl, hcl, hco⟩ := ty_u16s h2
  obtain ⟨count, rfl, _⟩ := ty_i64' h3
  obtain ⟨more, rfl, hml, hmo⟩ := ty_u16s h4
  by_cases hm : mayI l
  · obtain ⟨ho, he⟩ := natsI_ok hm
    rw [he]
    generalize natsI l = n at ho
    apply pcv_crossbarlaw18_ChunkBack rfl
    simp only [vc_crossbarlaw18_ChunkBack, VC.H_asrt, VC.H_cond, VC.H_ret, VC.H_call1, VC.H_call2, VC.H_call3, ev_var, ev_int, ev_bool, ev_nil, ev_add, ev_sub', ev_mul, ev_eql, ev_neq, ev_leq, ev_gtr, ev_geq, ev_beq, ev_not, ev_ite, ev_len, ev_sub, ev_app, ev_fits64, ea_nil, ea_cons, env_zero, env_succ, env_cons, env_nil, List.map_cons, List.map_nil, List.zip_cons_cons, List.zip_nil_right, v_int, v_bool, v_ls, toBool_ite, bool_ite, pres_nil, pres_cons, orT, orF, andT, andF, notT, notF, nnE, decide_eq_true_eq, decide_eq_false_iff_not, forall_const, and_true, Int.not_lt, List.length_map]
    refine ⟨_, pc_crossbarlaw18_awake, fun h => by simp at h, fun _ => ⟨fun _ => trivial, fun hb => ?_⟩⟩
    have hc : okC c := ⟨by omega, hco⟩
    obtain ⟨x1, x2, x3⟩ := ck_t2 n n.length rfl ho (by omega)
    have hxm : okC (ckW n ++ more) := ⟨by rw [List.length_append]; omega, fun x hx => (List.mem_append.1 hx).elim (x1.2 x) (hmo x)⟩
    have hrm : ckr (ckW n ++ more) n.length = .ok (n, (ckW n).length) := by
      rw [ckr, if_neg (by omega), Int.toNat_natCast, rd_ckW more _ n rfl ho]
    have hcan : ckCan (ckW n) n.length := by unfold ckCan; rw [x2]; exact ⟨rfl, rfl⟩
    refine ⟨_, _, write_nats n ho (by omega), fun _ => ?_, fun hx => by simp at hx⟩
    refine ⟨_, _, _, pc_chunk_Read (ckW n) n.length x1, ?_⟩
    rw [x2]
    simp only [v_ls, List.length_map]
    have e3 : C.ls (List.map (fun n : Nat => C.int (n : Int)) (ckW n) ++ List.map (fun n : Nat => C.int (n : Int)) more) = Ns (ckW n ++ more) := by simp [Ns]
    rw [e3]
    refine ⟨by omega, by omega, _, _, _, pc_chunk_Read (ckW n ++ more) n.length hxm, ?_⟩
    rw [hrm]
    refine ⟨_, fun _ => ints_nats n n (by omega), _, fun _ => ints_nats n n (by omega), _, fun _ => pc_chunk_Canon (ckW n) n.length x1, fun hx => ?_, fun _ => ?_⟩
    · exfalso
      simp [rN, rE, hcan] at hx
    · refine ⟨_, pc_chunk_Canon (ckW n) count x1, fun hy => ?_, fun hy => ⟨fun hp => ?_, fun hp => ?_⟩⟩
      · simp only [v_bool, decide_eq_true_eq] at hy
        obtain ⟨y1, y2⟩ := hy
        obtain ⟨y, k, k1, k2, k3, k4, k5⟩ := ckr_ok x1 y1.1
        have hw := y1.2
        rw [k1] at hw
        simp only [rL] at hw
        obtain ⟨o1, o2, o3, o4⟩ := ck_overlap _ n y rfl ho k4 hw.symm (by omega)
        have hov := pc_crossbarlaw18_overlap (ckW n) y.length n.length o1 o2 (by omega) (by omega) (by omega) (by omega) (by omega)
        rw [k2] at hov
        exact ⟨_, hov, rfl⟩
      · have hne : n ≠ [] := fun h0 => by subst h0; rw [ckW_nil] at hp; simp at hp
        have hsh := rd_short _ n rfl ho hne
        have hdl : okC (ckW n).dropLast := ⟨by rw [List.length_dropLast]; omega, fun x hx => x1.2 x (List.dropLast_subset _ hx)⟩
        have hrs : ckr (ckW n).dropLast n.length = .error 2 := by rw [ckr, if_neg (by omega), Int.toNat_natCast, hsh]
        have t1 : (((ckW n).length : Int) - 1).toNat = (ckW n).length - 1 := by omega
        have e5 : C.ls (List.drop (Int.toNat 0) (List.take ((ckW n).length - 1) (List.map (fun n : Nat => C.int (n : Int)) (ckW n)))) = Ns (ckW n).dropLast := by
          rw [Int.toNat_zero, List.drop_zero, List.dropLast_eq_take]
          simp [Ns]
        rw [t1, e5]
        refine ⟨by omega, by omega, by omega, _, _, _, pc_chunk_Read (ckW n).dropLast n.length hdl, ?_⟩
        rw [hrs]
        refine ⟨fun hx => by simp [rE] at hx, fun _ => ?_⟩
        refine ⟨_, _, _, pc_chunk_Read c count hc, fun hx => ⟨_, fun _ => pc_chunk_Canon c count hc, ?_⟩, fun hx => ?_⟩
        · obtain ⟨k1, k2, k3⟩ := ck_t1 c count (by simpa using hx)
          simp [k1, k2, k3]
        · obtain ⟨y, k, k1, k2, k3, k4, k5⟩ := ckr_ok hc (by simpa using hx)
          obtain ⟨k6, k7, k8⟩ := ck_t2 y count k2 k4 k5
          have k9 : ckCan c count ↔ ckW y = c := by unfold ckCan; rw [k1]; simp [rE, rL]
          rw [k1]
          refine ⟨_, _, write_nats y k4 (by omega), _, _, _, pc_chunk_Read (ckW y) count k6, ?_⟩
          rw [k7]
          refine ⟨_, fun _ => ints_nats _ _ (by simp only [rL]; omega), _, fun _ => pc_chunk_Canon c count hc, _, fun _ => pc_crossbarref18_Same _ _ (by omega), ?_⟩
          simp [rL, rN, rE, k2, k3, k9]
      · skip
        refine ⟨_, _, _, pc_chunk_Read c count hc, fun hx => ⟨_, fun _ => pc_chunk_Canon c count hc, ?_⟩, fun hx => ?_⟩
        · obtain ⟨k1, k2, k3⟩ := ck_t1 c count (by simpa using hx)
          simp [k1, k2, k3]
        · obtain ⟨y, k, k1, k2, k3, k4, k5⟩ := ckr_ok hc (by simpa using hx)
          obtain ⟨k6, k7, k8⟩ := ck_t2 y count k2 k4 k5
          have k9 : ckCan c count ↔ ckW y = c := by unfold ckCan; rw [k1]; simp [rE, rL]
          rw [k1]
          refine ⟨_, _, write_nats y k4 (by omega), _, _, _, pc_chunk_Read (ckW y) count k6, ?_⟩
          rw [k7]
          refine ⟨_, fun _ => ints_nats _ _ (by simp only [rL]; omega), _, fun _ => pc_chunk_Canon c count hc, _, fun _ => pc_crossbarref18_Same _ _ (by omega), ?_⟩
          simp [rL, rN, rE, k2, k3, k9]
  · have e1 : cwL l = [] := if_neg hm
    have e2 : cwE l = 1 := if_neg hm
    apply pcv_crossbarlaw18_ChunkBack rfl
    simp only [vc_crossbarlaw18_ChunkBack, VC.H_asrt, VC.H_cond, VC.H_ret, VC.H_call1, VC.H_call2, VC.H_call3, ev_var, ev_int, ev_bool, ev_nil, ev_add, ev_sub', ev_mul, ev_eql, ev_neq, ev_leq, ev_gtr, ev_geq, ev_beq, ev_not, ev_ite, ev_len, ev_sub, ev_app, ev_fits64, ea_nil, ea_cons, env_zero, env_succ, env_cons, env_nil, List.map_cons, List.map_nil, List.zip_cons_cons, List.zip_nil_right, v_int, v_bool, v_ls, toBool_ite, bool_ite, pres_nil, pres_cons, orT, orF, andT, andF, notT, notF, nnE, decide_eq_true_eq, decide_eq_false_iff_not, forall_const, and_true, Int.not_lt, List.length_map]
    refine ⟨_, pc_crossbarlaw18_awake, fun h => by simp at h, fun _ => ⟨fun _ => trivial, fun hb => ?_⟩⟩
    have hc : okC c := ⟨by omega, hco⟩
    refine ⟨_, _, pc_chunk_Write l (by omega), fun hx => ?_, fun _ => ?_⟩
    · exfalso
      rw [v_int, e2] at hx
      exact absurd hx (by decide)
    · skip
      refine ⟨_, _, _, pc_chunk_Read c count hc, fun hx => ⟨_, fun _ => pc_chunk_Canon c count hc, ?_⟩, fun hx => ?_⟩
      · obtain ⟨k1, k2, k3⟩ := ck_t1 c count (by simpa using hx)
        simp [k1, k2, k3]
      · obtain ⟨y, k, k1, k2, k3, k4, k5⟩ := ckr_ok hc (by simpa using hx)
        obtain ⟨k6, k7, k8⟩ := ck_t2 y count k2 k4 k5
        have k9 : ckCan c count ↔ ckW y = c := by unfold ckCan; rw [k1]; simp [rE, rL]
        rw [k1]
        refine ⟨_, _, write_nats y k4 (by omega), _, _, _, pc_chunk_Read (ckW y) count k6, ?_⟩
        rw [k7]
        refine ⟨_, fun _ => ints_nats _ _ (by simp only [rL]; omega), _, fun _ => pc_chunk_Canon c count hc, _, fun _ => pc_crossbarref18_Same _ _ (by omega), ?_⟩
        simp [rL, rN, rE, k2, k3, k9]
end Go.Vc
