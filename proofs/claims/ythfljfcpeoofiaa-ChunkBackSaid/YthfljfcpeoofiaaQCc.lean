/-
  The contracts of the functions of chunk, each out of its condition.
-/
import Derived.Test.YthfljfcpeoofiaaQCb
set_option maxRecDepth 100000
namespace Go.Vc
open Go Go.Proofs Go.Plain
theorem pc_chunk_next (l : List Nat) (hne : l ≠ []) (ho : ckOk l) : PC Try.prog 55 [(.sl I64, Ns l)] [(U16, .int (ckC l : Nat)), (I64, .int (ckM l : Nat))] := by
  refine PC.of0 (by decide) ⟨⟨_, Try.func55, rfl, by kernel_rfl⟩, fun w N vs hvs => ?_⟩
  obtain ⟨v1, r, rfl, hv1, rfl⟩ := hvs
  refine (ck_next w N v1 l hv1 hne ho).mono ?_
  rintro e W' ⟨rfl, hbel⟩
  exact ⟨_, rfl, ⟨[.int .u16 (ckC l : Nat), .int .i64 (ckM l : Nat)], ⟨_, _, rfl, ⟨_, rfl, rfl⟩, _, _, rfl, ⟨_, rfl, rfl⟩, rfl⟩, rfl⟩, hbel⟩
/-- A list that may be, of whatever numbers. -/
def mayI (l : List Int) : Prop := ∀ x ∈ l, 0 ≤ x ∧ x ≤ 2
instance (l : List Int) : Decidable (mayI l) := by unfold mayI; exact inferInstance
def natsI (l : List Int) : List Nat := l.map Int.toNat
theorem natsI_ok {l : List Int} (h : mayI l) : ckOk (natsI l) ∧ Ints l = Ns (natsI l) := by
  refine ⟨fun x hx => ?_, ?_⟩
  · simp only [natsI, List.mem_map] at hx
    obtain ⟨y, hy, rfl⟩ := hx
    have := h y hy
    omega
  · simp only [Ints, Ns, natsI, List.map_map]
    congr 1
    apply List.map_congr_left
    intro x hx
    have := h x hx
    simp only [Function.comp]
    congr 1
    omega
def cwE (l : List Int) : Int := if mayI l then 0 else 1
def cwL (l : List Int) : List Nat := if mayI l then ckW (natsI l) else []
theorem int_getD (l : List Int) (i : Nat) (h : i < l.length) : (l.map C.int).getD i default = C.int (l.getD i 0) := by simp [List.getD, h]
theorem int_mem {l : List Int} {i : Nat} (h : i < l.length) : l.getD i 0 ∈ l := by simp [List.getD, h]
theorem pc_chunk_Write (l : List Int) (hl : l.length ≤ 1000000) : PC Try.prog f_chunk_Write [(.sl I64, Ints l)] [(.sl U16, Ns (cwL l)), (I64, .int (cwE l))] := by
  apply pcv_chunk_Write rfl
  simp only [vc_chunk_Write, List.map_cons, List.map_nil]
  refine VC.go_loop (fun i : Nat => [.ls [], .int 0, .int i]) (fun i => i ≤ l.length ∧ ∀ j, j < i → 0 ≤ l.getD j 0 ∧ l.getD j 0 ≤ 2) (fun i => l.length - i) 0 rfl ⟨Nat.zero_le _, fun j hj => by omega⟩ fun i hi => ?_
  simp only [VC.H_asrt, VC.H_cond, VC.H_ret, VC.H_back, ev_var, ev_int, ev_bool, ev_nilS, ev_add, ev_lss, ev_gtr, ev_geq, ev_ite, ev_len, ev_idx, ev_fits64, ea_nil, ea_cons, env_zero, env_succ, env_cons, env_nil, List.map_cons, List.map_nil, v_int, v_bool, v_ls, bool_ite, pres_nil, orT, orF, decide_eq_true_eq, decide_eq_false_iff_not, forall_const, Int.not_lt, List.length_map, Int.toNat_natCast]
  refine ⟨fun hc => ?_, fun hc => ?_⟩
  · rw [int_getD _ _ (by omega)]
    simp only [v_int]
    refine ⟨by omega, by omega, fun hbad => ?_, fun hgood => ⟨by omega, i + 1, by simp, ⟨by omega, fun j hj => ?_⟩, by omega⟩⟩
    · have hn : ¬ mayI l := fun h => by have := h _ (int_mem (l := l) (i := i) (by omega)); omega
      rw [cwL, cwE, if_neg hn, if_neg hn]
      rfl
    · by_cases hji : j = i
      · subst hji; omega
      · exact hi.2 j (by omega)
  · have hm : mayI l := fun x hx => by
      obtain ⟨j, hj, rfl⟩ := List.getElem_of_mem hx
      have := hi.2 j (by omega)
      simpa [List.getD, hj] using this
    obtain ⟨ho, he⟩ := natsI_ok hm
    have hnl : (natsI l).length = l.length := by simp [natsI]
    rw [cwL, cwE, if_pos hm, if_pos hm]
    generalize natsI l = n at ho he hnl
    have he2 : List.map C.int l = List.map (fun n : Nat => C.int (n : Int)) n := by simpa [Ints, Ns] using he
    refine VC.go_loop (fun s : List Nat × Nat => [Ns s.1, .int s.2]) (fun s => s.2 ≤ n.length ∧ s.1 ++ ckW (n.drop s.2) = ckW n ∧ s.1.length ≤ s.2) (fun s => n.length - s.2) ([], 0) rfl ⟨Nat.zero_le _, rfl, Nat.le_refl _⟩ fun s hs => ?_
    obtain ⟨out, at_⟩ := s
    simp only [VC.H_asrt, VC.H_cond, VC.H_ret, VC.H_back, VC.H_call2, ev_var, ev_int, ev_nil, ev_cons, ev_add, ev_mul, ev_lss, ev_leq, ev_geq, ev_len, ev_sub, ev_app, ev_fits64, ea_nil, ea_cons, env_zero, env_succ, env_cons, env_nil, List.map_cons, List.map_nil, v_int, v_bool, v_ls, pres_nil, decide_eq_true_eq, decide_eq_false_iff_not, forall_const, Int.not_lt, List.length_map, List.length_cons, List.length_nil, Int.toNat_natCast, he2] at hs ⊢
    refine ⟨fun hc => ?_, fun hc => ?_⟩
    · have hne : n.drop at_ ≠ [] := by
        intro h
        have := congrArg List.length h
        simp at this
        omega
      have hmp := ckM_pos hne
      rw [List.length_drop] at hmp
      have e1 : (List.map (fun n : Nat => C.int (n : Int)) n |>.take n.length).drop at_ = List.map (fun n : Nat => C.int (n : Int)) (n.drop at_) := by
        rw [List.take_of_length_le (by simp), List.map_drop]
      rw [e1]
      refine ⟨by omega, by omega, by omega, _, _, pc_chunk_next (n.drop at_) hne (drop_ok ho _), by omega, ?_⟩
      simp only [v_int]
      refine ⟨by omega, (out ++ [ckC (n.drop at_)], at_ + ckM (n.drop at_)), ?_, ⟨by simp only; omega, ?_, by simp; omega⟩, by simp only; omega⟩
      · simp
      · simp only
        have := hs.2.1
        rw [ckW_cons hne, List.drop_drop] at this
        rw [← this]
        simp
    · have : n.drop at_ = [] := List.drop_eq_nil_of_le (by omega)
      have h2 := hs.2.1
      rw [this, ckW_nil, List.append_nil] at h2
      rw [h2]
theorem shr32 (n : Nat) (h : n < 4294967296) : arith .shr .u64 (n : Int) 32 = 0 := by
  rw [arith_shr]
  simp [IntKind.bits]
  omega
theorem mask32 (n : Nat) (h : n < 4294967296) : arith .and .u64 (n : Int) 4294967295 = n := by
  rw [show (4294967295 : Int) = ((4294967295 : Nat) : Int) from rfl, arith_andU rfl (by show _ < 2 ^ 64; omega) (by decide)]
  have := Nat.and_two_pow_sub_one_eq_mod n 32
  rw [show (4294967295 : Nat) = 2 ^ 32 - 1 from rfl, this]
  omega
theorem pc_math_bits_Mul64 (n : Nat) (h : n < 4294967296) : PC Try.prog f_math_bits_Mul64 [(U64, .int 1), (U64, .int n)] [(U64, .int 0), (U64, .int n)] := by
  apply pcv_math_bits_Mul64 rfl
  have a1 : arith .shr .u64 1 32 = 0 := shr32 1 (by decide)
  have a2 : arith .and .u64 1 4294967295 = 1 := mask32 1 (by decide)
  have a3 := shr32 n h
  have a4 := mask32 n h
  have a5 : arith .mul .u64 1 (n : Int) = n := by simp only [arith, wrapu64]; omega
  have a6 : arith .mul .u64 0 (n : Int) = 0 := by simp only [arith, wrapu64]; omega
  have a7 : arith .mul .u64 0 0 = 0 := rfl
  have a8 : arith .add .u64 0 0 = 0 := rfl
  have a9 : arith .shr .u64 0 32 = 0 := shr32 0 (by decide)
  have a10 : arith .and .u64 0 4294967295 = 0 := mask32 0 (by decide)
  have a11 : arith .mul .u64 1 0 = 0 := rfl
  simp only [vc_math_bits_Mul64, VC.H_ret, ev_var, ev_int, ev_bin, ea_nil, ea_cons, env_zero, env_succ, List.map_cons, List.map_nil, v_int, a1, a2, a3, a4, a5, a6, a7, a8, a9, a10, a11]
theorem pc_math_bits_Mul (n : Nat) (h : n < 4294967296) : PC Try.prog f_math_bits_Mul [(U64, .int 1), (U64, .int n)] [(U64, .int 0), (U64, .int n)] := by
  apply pcv_math_bits_Mul rfl
  simp only [vc_math_bits_Mul, VC.H_ret, VC.H_call2, ev_var, ea_nil, ea_cons, env_zero, env_succ, env_cons, env_nil, List.map_cons, List.map_nil, pres_nil, forall_const]
  exact ⟨_, _, pc_math_bits_Mul64 n h, rfl⟩
theorem least_at {x : Nat} : ∀ {l : List Nat}, x ∈ l → ∃ m, m < l.length ∧ l.getD m 0 = x ∧ ∀ j, j < m → l.getD j 0 ≠ x
  | [], h => by cases h
  | y :: l, h => by
    by_cases hy : y = x
    · exact ⟨0, by simp, hy, fun j hj => by omega⟩
    · have hl : x ∈ l := (List.mem_cons.1 h).resolve_left (fun e => hy e.symm)
      obtain ⟨m, h1, h2, h3⟩ := least_at hl
      refine ⟨m + 1, by simp; omega, by simpa using h2, fun j hj => ?_⟩
      cases j with
      | zero => exact hy
      | succ j => exact h3 j (by omega)
theorem pc_slices_Index (l : List Nat) (x : Nat) (hl : l.length ≤ 1000000) : ∃ r : Int, PC Try.prog f_slices_Index___int_int_ [(.sl I64, Ns l), (I64, .int x)] [(I64, .int r)] ∧ (0 ≤ r ↔ x ∈ l) := by
  by_cases hx : x ∈ l
  · obtain ⟨m, f1, f2, f3⟩ := least_at hx
    refine ⟨(m : Nat), ?_, by simp [hx]⟩
    apply pcv_slices_Index___int_int_ rfl
    simp only [vc_slices_Index___int_int_, List.map_cons, List.map_nil]
    refine VC.go_loop (fun i : Nat => [.int 0, .int i]) (fun i => i ≤ m) (fun i => m - i) 0 rfl (Nat.zero_le _) fun i hi => ?_
    simp only [VC.H_asrt, VC.H_cond, VC.H_ret, VC.H_back, ev_var, ev_int, ev_add, ev_eql, ev_lss, ev_geq, ev_len, ev_idx, ev_fits64, ea_nil, ea_cons, env_zero, env_succ, env_cons, env_nil, List.map_cons, List.map_nil, v_int, v_bool, v_ls, pres_nil, decide_eq_true_eq, decide_eq_false_iff_not, forall_const, Int.not_lt, List.length_map, Int.toNat_natCast]
    refine ⟨fun hc => ?_, fun hc => by omega⟩
    rw [nat_getD _ _ (by omega), v_int]
    refine ⟨by omega, by omega, fun heq => ?_, fun hne => ⟨by omega, i + 1, by simp, ?_, ?_⟩⟩
    · have : i = m := by
        by_cases him : i = m
        · exact him
        · exact absurd (show l.getD i 0 = x by omega) (f3 i (by omega))
      rw [this]
    · by_cases him : i = m
      · subst him; omega
      · omega
    · by_cases him : i = m
      · subst him; omega
      · omega
  · refine ⟨-1, ?_, by simp [hx]⟩
    apply pcv_slices_Index___int_int_ rfl
    simp only [vc_slices_Index___int_int_, List.map_cons, List.map_nil]
    refine VC.go_loop (fun i : Nat => [.int 0, .int i]) (fun i => i ≤ l.length) (fun i => l.length - i) 0 rfl (Nat.zero_le _) fun i hi => ?_
    simp only [VC.H_asrt, VC.H_cond, VC.H_ret, VC.H_back, ev_var, ev_int, ev_add, ev_eql, ev_lss, ev_geq, ev_len, ev_idx, ev_fits64, ea_nil, ea_cons, env_zero, env_succ, env_cons, env_nil, List.map_cons, List.map_nil, v_int, v_bool, v_ls, pres_nil, decide_eq_true_eq, decide_eq_false_iff_not, forall_const, Int.not_lt, List.length_map, Int.toNat_natCast]
    refine ⟨fun hc => ?_, fun hc => ?_⟩
    · rw [nat_getD _ _ (by omega), v_int]
      refine ⟨by omega, by omega, fun heq => ?_, fun hne => ⟨by omega, i + 1, by simp, by omega, by omega⟩⟩
      exact absurd (by have := nat_mem (l := l) (i := i) (by omega); rwa [show l.getD i 0 = x by omega] at this) hx
    · trivial
theorem pc_slices_Contains (l : List Nat) (x : Nat) (hl : l.length ≤ 1000000) : PC Try.prog f_slices_Contains___int_int_ [(.sl I64, Ns l), (I64, .int x)] [(.bool, .bool (decide (x ∈ l)))] := by
  apply pcv_slices_Contains___int_int_ rfl
  simp only [vc_slices_Contains___int_int_, VC.H_ret, VC.H_call1, ev_var, ev_int, ev_geq, ea_nil, ea_cons, env_zero, env_succ, env_cons, env_nil, List.map_cons, List.map_nil, v_int, pres_nil, forall_const]
  obtain ⟨r, h1, h2⟩ := pc_slices_Index l x hl
  refine ⟨_, h1, ?_⟩
  rw [v_int, show decide (0 ≤ r) = decide (x ∈ l) by rw [Bool.eq_iff_iff, decide_eq_true_eq, decide_eq_true_eq]; exact h2]
theorem pc_slices_Equal (a b : List Nat) (ha : a.length ≤ 1000000) : PC Try.prog f_slices_Equal___uint16_uint16_ [(.sl U16, Ns a), (.sl U16, Ns b)] [(.bool, .bool (decide (a = b)))] := by
  apply pcv_slices_Equal___uint16_uint16_ rfl
  simp only [vc_slices_Equal___uint16_uint16_, VC.H_cond, VC.H_ret, ev_var, ev_bool, ev_neq, ev_len, ea_nil, ea_cons, env_zero, env_succ, List.map_cons, List.map_nil, v_int, v_bool, v_ls, nnE, decide_eq_true_eq, decide_eq_false_iff_not, List.length_map]
  refine ⟨fun h => ?_, fun h => ?_⟩
  · have : ¬ a = b := fun e => h (by rw [e])
    simp [this]
  · refine VC.go_loop (fun i : Nat => [.bool false, .int i]) (fun i => i ≤ a.length ∧ a.take i = b.take i) (fun i => a.length - i) 0 rfl ⟨Nat.zero_le _, rfl⟩ fun i hi => ?_
    simp only [VC.H_asrt, VC.H_cond, VC.H_ret, VC.H_back, ev_var, ev_int, ev_bool, ev_add, ev_neq, ev_lss, ev_geq, ev_len, ev_idx, ev_fits64, ea_nil, ea_cons, env_zero, env_succ, env_cons, env_nil, List.map_cons, List.map_nil, v_int, v_bool, v_ls, pres_nil, nnE, decide_eq_true_eq, decide_eq_false_iff_not, forall_const, Int.not_lt, List.length_map, Int.toNat_natCast]
    refine ⟨fun hc => ?_, fun hc => ?_⟩
    · rw [nat_getD _ _ (by omega), nat_getD _ _ (by omega)]
      simp only [v_int]
      refine ⟨by omega, by omega, by omega, by omega, fun hne => ?_, fun heq => ⟨by omega, i + 1, by simp, ⟨by omega, ?_⟩, by omega⟩⟩
      · have : ¬ a = b := fun e => hne (by rw [e])
        simp [this]
      · have heq : a.getD i 0 = b.getD i 0 := by omega
        have ha2 : i < a.length := by omega
        have hb2 : i < b.length := by omega
        rw [List.take_succ_eq_append_getElem ha2, List.take_succ_eq_append_getElem hb2, hi.2]
        have : a[i] = b[i] := by simpa [List.getD, ha2, hb2] using heq
        rw [this]
    · have : a = b := by
        have := hi.2
        rwa [List.take_of_length_le (by omega), List.take_of_length_le (by omega)] at this
      simp [this]
end Go.Vc
