/-
  The contracts of the functions of nack and of its reference, each out of its condition.
-/
import Derived.Test.YtoijaooechdemaaQVk
import Derived.Test.YtoijaooechdemaaQNr
set_option maxRecDepth 100000
namespace Go.Vc
open Go Go.Proofs Go.Plain
abbrev U16 : Sh := .int .u16
abbrev PrSh : Sh := .pair U16 (.pair U16 .unit)
abbrev PrC (p : Pr) : C := .ls [.int p.pid, .int p.mask]
abbrev Prs (l : List Pr) : C := .ls (l.map PrC)
theorem pr_getD (l : List Pr) (i : Nat) (h : i < l.length) : (l.map PrC).getD i default = PrC (l.getD i Pr.zero) := by simp [List.getD, h]
theorem pr_mem {l : List Pr} {i : Nat} (h : i < l.length) : l.getD i Pr.zero ∈ l := by simp [List.getD, h]
theorem Ns_getD (l : List Nat) (i : Nat) (h : i < l.length) : ((l.map fun n : Nat => C.int (n : Int))).getD i default = C.int ((l.getD i 0 : Nat) : Int) := by simp [List.getD, h]
theorem n_mem {l : List Nat} {i : Nat} (h : i < l.length) : l.getD i 0 ∈ l := by simp [List.getD, h]
theorem pr_take (l : List Pr) (i : Nat) (h : i < l.length) : l.take (i + 1) = l.take i ++ [l.getD i Pr.zero] := by rw [List.take_succ_eq_append_getElem h]; simp [List.getD, h]
theorem n_take (l : List Nat) (i : Nat) (h : i < l.length) : l.take (i + 1) = l.take i ++ [l.getD i 0] := by rw [List.take_succ_eq_append_getElem h]; simp [List.getD, h]
theorem seqs_take (l : List Pr) (i : Nat) (h : i < l.length) : seqs (l.take (i + 1)) = seqs (l.take i) ++ ((l.getD i Pr.zero).pid :: told (l.getD i Pr.zero) 16) := by
  rw [pr_take l i h, seqs_append]
  simp [seqs]
theorem shrN (k : IntKind) (n j : Nat) (hj : j ≤ k.bits) : arith .shr k ((n : Nat) : Int) ((j : Nat) : Int) = ((n / 2 ^ j : Nat) : Int) := by
  rw [arith_shr, Int.toNat_natCast, Nat.min_eq_left hj]
  simp
theorem add16 (a b : Int) : arith .add .u16 a b = (a + b) % 65536 := by simp only [arith, wrapu16]
theorem add16N (a b : Nat) (h : a + b < 65536) : arith .add .u16 (a : Int) (b : Int) = ((a + b : Nat) : Int) := by rw [add16]; omega
theorem sub16 (a b : Int) : arith .sub .u16 a b = (a - b) % 65536 := by simp only [arith, wrapu16]
theorem bit16 (m k : Nat) (hm : m < 65536) (hk : k < 16) : arith .and .u16 (arith .shr .u16 ((m : Nat) : Int) ((k : Nat) : Int)) 1 = ((m / 2 ^ k % 2 : Nat) : Int) := by
  rw [shrN .u16 m k (by simp only [IntKind.bits]; omega)]
  have h1 : m / 2 ^ k ≤ m := Nat.div_le_self _ _
  generalize m / 2 ^ k = q at h1
  rw [show (1 : Int) = ((1 : Nat) : Int) by rfl, arith_andU rfl (by show _ < 2 ^ 16; omega) (by decide), Nat.and_one_is_mod]
theorem told_step (p : Pr) (k : Nat) : Ns (told p (k + 1)) = .ls ((Ns (told p k)).toList ++ if p.mask / 2 ^ k % 2 = 1 then [.int (((p.pid + k + 1) % 65536 : Nat) : Int)] else []) := by
  rw [told]
  split <;> simp [Ns]
theorem seqs_bound (l : List Pr) (i : Nat) (hl : l.length ≤ 1000000) : (seqs (l.take i)).length ≤ 17000000 := by
  have := (seqs_length (l.take i)).2
  rw [List.length_take] at this
  omega
theorem pc_nack_Seqs (l : List Pr) (hl : l.length ≤ 1000000) (ho : ∀ p ∈ l, p.ok) : PC Try.prog f_nack_Seqs [(.sl PrSh, Prs l)] [(.sl U16, Ns (seqs l))] := by
  apply pcv_nack_Seqs rfl
  simp only [vc_nack_Seqs, List.map_cons, List.map_nil]
  refine VC.go_loop (fun i : Nat => [Ns (seqs (l.take i)), .int i]) (fun i => i ≤ l.length) (fun i => l.length - i) 0 rfl (Nat.zero_le _) fun i hi => ?_
  simp only [VC.H_asrt, VC.H_cond, VC.H_ret, ev_var, ev_int, ev_nil, ev_cons, ev_hd, ev_add, ev_mul, ev_lss, ev_leq, ev_geq, ev_len, ev_idx, ea_nil, ea_cons, env_zero, env_succ, env_cons, env_nil, v_int, v_bool, v_ls, pres_nil, decide_eq_true_eq, decide_eq_false_iff_not, forall_const, Int.not_lt, List.length_map, List.length_cons, List.length_nil]
  have hb := seqs_bound l i hl
  refine ⟨fun hc => ?_, fun hc => ?_⟩
  · have hp := ho _ (pr_mem (l := l) (i := i) (by omega))
    have hg := pr_getD l i (by omega)
    generalize hq : l.getD i Pr.zero = p at hp hg
    refine ⟨by omega, by omega, by omega, ?_⟩
    refine VC.go_loop (fun k : Nat => [Ns (seqs (l.take i) ++ (p.pid :: told p k)), .int k]) (fun k => k ≤ 16) (fun k => 16 - k) 0 ?_ (Nat.zero_le _) fun k hk => ?_
    · simp only [ev_var, ev_int, ev_nil, ev_cons, ev_hd, ev_idx, ev_app, env_zero, env_succ, List.map_cons, List.map_nil, v_int, v_ls, v_hd, Int.toNat_natCast, hg]
      simp [told, Ns]
    · simp only [VC.H_asrt, VC.H_cond, VC.H_back, ev_var, ev_int, ev_nil, ev_cons, ev_hd, ev_tl, ev_bin, ev_add, ev_mul, ev_eql, ev_lss, ev_leq, ev_geq, ev_len, ev_idx, ev_app, ev_fits64, env_zero, env_succ, env_cons, env_nil, List.map_cons, List.map_nil, v_int, v_bool, v_ls, v_hd, v_tl, pres_nil, decide_eq_true_eq, decide_eq_false_iff_not, forall_const, Int.not_lt, List.length_map, List.length_append, List.length_cons, List.length_nil, Int.toNat_natCast, hg]
      have ht := told_length p k
      have e1 : arith .add .u16 ((k : Nat) : Int) 1 = ((k + 1 : Nat) : Int) := by rw [add16]; omega
      refine ⟨fun hk2 => ⟨by omega, ?_⟩, fun hk2 => ⟨by omega, i + 1, ?_, by omega, by omega⟩⟩
      · rw [bit16 _ _ hp.2 (by omega), e1]
        refine ⟨fun hbit => ⟨by omega, k + 1, ?_, by omega, by omega⟩, fun hbit => ⟨k + 1, ?_, by omega, by omega⟩⟩
        · rw [add16, add16, told, if_pos (by omega)]
          simp [Ns]
        · rw [told, if_neg (by omega)]
          simp [Ns]
      · have : k = 16 := by omega
        subst this
        rw [seqs_take _ _ (by omega), hq]
        simp
  · have : i = l.length := by omega
    subst this
    rw [List.take_length]
theorem pc_crossbarref15_Seqs (l : List Pr) (hl : l.length ≤ 1000000) (ho : ∀ p ∈ l, p.ok) : PC Try.prog f_crossbarref15_Seqs [(.sl PrSh, Prs l)] [(.sl U16, Ns (seqs l))] := by
  apply pcv_crossbarref15_Seqs rfl
  simp only [vc_crossbarref15_Seqs, List.map_cons, List.map_nil]
  refine VC.go_loop (fun i : Nat => [Ns (seqs (l.take i)), .int i]) (fun i => i ≤ l.length) (fun i => l.length - i) 0 rfl (Nat.zero_le _) fun i hi => ?_
  simp only [VC.H_asrt, VC.H_cond, VC.H_ret, ev_var, ev_int, ev_nil, ev_cons, ev_hd, ev_add, ev_mul, ev_lss, ev_leq, ev_geq, ev_len, ev_idx, ea_nil, ea_cons, env_zero, env_succ, env_cons, env_nil, v_int, v_bool, v_ls, pres_nil, decide_eq_true_eq, decide_eq_false_iff_not, forall_const, Int.not_lt, List.length_map, List.length_cons, List.length_nil]
  have hb := seqs_bound l i hl
  refine ⟨fun hc => ?_, fun hc => ?_⟩
  · have hp := ho _ (pr_mem (l := l) (i := i) (by omega))
    have hg := pr_getD l i (by omega)
    generalize hq : l.getD i Pr.zero = p at hp hg
    refine ⟨by omega, by omega, by omega, by omega, by omega, ?_⟩
    refine VC.go_loop (fun k : Nat => [Ns (seqs (l.take i) ++ (p.pid :: told p k)), .int ((p.mask / 2 ^ k : Nat) : Int), .int k]) (fun k => k ≤ 16) (fun k => 16 - k) 0 ?_ (Nat.zero_le _) fun k hk => ?_
    · simp only [ev_var, ev_int, ev_nil, ev_cons, ev_hd, ev_tl, ev_idx, ev_app, env_zero, env_succ, List.map_cons, List.map_nil, v_int, v_ls, v_hd, v_tl, Int.toNat_natCast, hg]
      simp [told, Ns]
    · simp only [VC.H_asrt, VC.H_cond, VC.H_back, ev_var, ev_int, ev_nil, ev_cons, ev_hd, ev_bin, ev_add, ev_mul, ev_eql, ev_lss, ev_leq, ev_geq, ev_len, ev_idx, ev_app, ev_fits64, env_zero, env_succ, env_cons, env_nil, List.map_cons, List.map_nil, v_int, v_bool, v_ls, v_hd, pres_nil, decide_eq_true_eq, decide_eq_false_iff_not, forall_const, Int.not_lt, List.length_map, List.length_append, List.length_cons, List.length_nil, Int.toNat_natCast, hg]
      have ht := told_length p k
      have e1 : arith .add .u16 ((k : Nat) : Int) 1 = ((k + 1 : Nat) : Int) := by rw [add16]; omega
      have e2 : arith .quo .u16 ((p.mask / 2 ^ k : Nat) : Int) 2 = ((p.mask / 2 ^ (k + 1) : Nat) : Int) := by
        have h1 : p.mask / 2 ^ k ≤ p.mask := Nat.div_le_self _ _
        have h2 := hp.2
        rw [Nat.pow_succ, ← Nat.div_div_eq_div_mul]
        generalize p.mask / 2 ^ k = q at h1
        rw [arith_quo _ _ _ (by omega), wrapu16]
        omega
      have e3 : arith .rem .u16 ((p.mask / 2 ^ k : Nat) : Int) 2 = ((p.mask / 2 ^ k % 2 : Nat) : Int) := by
        generalize p.mask / 2 ^ k = q
        rw [arith_rem _ _ _ (by omega)]
        omega
      refine ⟨fun hk2 => ?_, fun hk2 => ⟨by omega, i + 1, ?_, by omega, by omega⟩⟩
      · rw [e1, e2, e3]
        refine ⟨fun hbit => ⟨by omega, by omega, by omega, k + 1, ?_, by omega, by omega⟩, fun hbit => ⟨k + 1, ?_, by omega, by omega⟩⟩
        · rw [add16, add16, told, if_pos (by omega)]
          simp [Ns]
        · rw [told, if_neg (by omega)]
          simp [Ns]
      · have : k = 16 := by omega
        subst this
        rw [seqs_take _ _ (by omega), hq]
        simp
  · have : i = l.length := by omega
    subst this
    rw [List.take_length]
theorem out_last (out : List Pr) (h : 0 < out.length) : ∃ p, out.getLast? = some p ∧ (out.map PrC).getD (out.length - 1) default = PrC p ∧ p ∈ out ∧ ∀ q, (out.map PrC).set (out.length - 1) (PrC q) = (out.dropLast ++ [q]).map PrC := by
  rcases List.eq_nil_or_concat out with rfl | ⟨m, x, rfl⟩
  · simp at h
  · refine ⟨x, by simp, by simp [List.getD], by simp, fun q => by simp⟩
theorem fset1 (p : Pr) (m : Nat) : (PrC p).fset 1 (.int (m : Int)) = PrC ⟨p.pid, m⟩ := rfl
theorem prs_len (l : List Nat) : (prsS l).1.length ≤ l.length := by
  induction l using snocInd with
  | nil => simp [prsS]
  | snoc l x ih =>
    rw [prsS_snoc]
    have := (stp_len (prsS l) x).2
    simp
    omega
theorem gap16 (s p : Nat) (hs : s < 65536) (hp : p < 65536) : arith .sub .u16 ((s : Nat) : Int) ((p : Nat) : Int) = (((s + 65536 - p) % 65536 : Nat) : Int) := by rw [sub16]; omega
theorem or16 (m g h : Nat) (hm : m < 2 ^ h) (hg : h < g) (hg2 : g ≤ 16) : arith .or .u16 ((m : Nat) : Int) (arith .shl .u16 1 ((g : Nat) - 1 : Int)) = ((m + 2 ^ (g - 1) : Nat) : Int) := by
  have h1 : 2 ^ h ≤ 2 ^ (g - 1) := Nat.pow_le_pow_right (by decide) (by omega)
  have h2 : 2 ^ (g - 1) ≤ 2 ^ 15 := Nat.pow_le_pow_right (by decide) (by omega)
  have e1 : arith .shl .u16 1 ((g : Nat) - 1 : Int) = ((2 ^ (g - 1) : Nat) : Int) := by
    rw [arith_shl, show ((g : Nat) - 1 : Int).toNat = g - 1 by omega, show min (g - 1) (IntKind.bits .u16) = g - 1 by simp only [IntKind.bits]; omega, wrapu16]
    have e : (1 : Int) * 2 ^ (g - 1) = ((2 ^ (g - 1) : Nat) : Int) := by simp
    rw [e]
    omega
  rw [e1, arith_orU rfl (by show _ < 2 ^ 16; omega) (by show _ < 2 ^ 16; omega), Nat.or_comm]
  have := or_add 1 (g - 1) m (by omega)
  rw [Nat.one_mul] at this
  rw [this, Nat.add_comm]
theorem pc_nack_Pairs (l : List Nat) (hl : l.length ≤ 1000000) (ho : ∀ s ∈ l, s < 65536) : PC Try.prog f_nack_Pairs [(.sl U16, Ns l)] [(.sl PrSh, Prs (prs l))] := by
  apply pcv_nack_Pairs rfl
  simp only [vc_nack_Pairs, List.map_cons, List.map_nil]
  refine VC.go_loop (fun i : Nat => [Prs (prsS (l.take i)).1, .int ((prsS (l.take i)).2 : Nat), .int i]) (fun i => i ≤ l.length) (fun i => l.length - i) 0 rfl (Nat.zero_le _) fun i hi => ?_
  simp only [VC.H_asrt, VC.H_cond, VC.H_ret, VC.H_back, ev_var, ev_int, ev_bool, ev_nil, ev_cons, ev_hd, ev_tl, ev_fset, ev_bin, ev_add, ev_sub', ev_mul, ev_lss, ev_leq, ev_gtr, ev_geq, ev_ite, ev_len, ev_idx, ev_app, ev_set, ev_fits64, ea_nil, ea_cons, env_zero, env_succ, env_cons, env_nil, List.map_cons, List.map_nil, v_int, v_bool, v_ls, bool_ite, pres_nil, andT, andF, decide_eq_true_eq, decide_eq_false_iff_not, forall_const, Int.not_lt, Int.not_le, List.length_map, List.length_cons, List.length_nil, Int.toNat_natCast]
  have hn := prs_len (l.take i)
  rw [List.length_take] at hn
  have hinv := prsS_inv (l.take i) (fun s hs => ho s (List.mem_of_mem_take hs))
  refine ⟨fun hc => ?_, fun hc => ?_⟩
  · have hs := ho _ (n_mem (l := l) (i := i) (by omega))
    have hg := Ns_getD l i (by omega)
    have ht := n_take l i (by omega)
    have hst : prsS (l.take (i + 1)) = stp (prsS (l.take i)) (l.getD i 0) := by rw [ht, prsS_snoc]
    generalize l.getD i 0 = x at hs hg hst
    generalize prsS (l.take i) = st at hn hinv hst
    simp only [hg, v_int]
    refine ⟨by omega, by omega, fun hpos => ⟨by omega, by omega, by omega, ?_⟩, fun hz => ⟨by omega, by omega, i + 1, ?_, by omega, by omega⟩⟩
    · obtain ⟨p, h1, h2, h3, h4⟩ := out_last st.1 (by omega)
      have e0 : ((st.1.length : Int) - 1).toNat = st.1.length - 1 := by omega
      obtain ⟨o1, o2⟩ := hinv.1 p h3
      rw [e0, h2]
      simp only [v_hd, v_tl, v_int, gap16 x p.pid hs o1]
      have e1 : arith .sub .u16 (((x + 65536 - p.pid) % 65536 : Nat) : Int) 1 = (((x + 65536 - p.pid) % 65536 : Nat) : Int) - 1 ∨ ((x + 65536 - p.pid) % 65536 = 0) := by
        rw [sub16]
        omega
      refine ⟨fun hy => ⟨?_, by omega, i + 1, ?_, by omega, by omega⟩, fun hn2 => ⟨by omega, by omega, i + 1, ?_, by omega, by omega⟩⟩
      · rw [sub16]
        omega
      · have e2 := e1.resolve_right (by omega)
        rw [e2, or16 p.mask _ st.2 (hinv.2.2 p h1) (by omega) (by omega), hst, stp_old st x p h1 (by omega)]
        rw [fset1, h4]
        simp
      · rw [hst, stp_new st x (fun q hq => by rw [h1] at hq; cases hq; omega)]
        simp
    · have hnil : st.1 = [] := List.length_eq_zero_iff.1 (by omega)
      rw [hst, stp_new st x (fun q hq => by rw [hnil] at hq; cases hq)]
      simp
  · have : i = l.length := by omega
    subst this
    rw [List.take_length]
    rfl
theorem pc_crossbarref15_power (n : Nat) (hn : n ≤ 15) : PC Try.prog f_crossbarref15_power [(I64, .int n)] [(U16, .int ((2 ^ n : Nat) : Int))] := by
  apply pcv_crossbarref15_power rfl
  simp only [vc_crossbarref15_power, List.map_cons, List.map_nil]
  refine VC.go_loop (fun i : Nat => [.int ((2 ^ i : Nat) : Int), .int i]) (fun i => i ≤ n) (fun i => n - i) 0 rfl (Nat.zero_le _) fun i hi => ?_
  simp only [VC.H_asrt, VC.H_cond, VC.H_ret, VC.H_back, ev_var, ev_int, ev_bin, ev_add, ev_lss, ev_fits64, ea_nil, ea_cons, env_zero, env_succ, env_cons, env_nil, List.map_cons, List.map_nil, v_int, v_bool, pres_nil, decide_eq_true_eq, decide_eq_false_iff_not, forall_const, Int.not_lt]
  refine ⟨fun hc => ⟨by omega, i + 1, ?_, by omega, by omega⟩, fun hc => ?_⟩
  · have h2 : 2 ^ (i + 1) ≤ 2 ^ 15 := Nat.pow_le_pow_right (by decide) (by omega)
    have e : arith .mul .u16 2 ((2 ^ i : Nat) : Int) = ((2 ^ (i + 1) : Nat) : Int) := by
      simp only [arith, wrapu16]
      rw [Nat.pow_succ] at h2 ⊢
      omega
    rw [e]
    simp
  · rw [show i = n by omega]
theorem pc_crossbarref15_Pairs (l : List Nat) (hl : l.length ≤ 1000000) (ho : ∀ s ∈ l, s < 65536) : PC Try.prog f_crossbarref15_Pairs [(.sl U16, Ns l)] [(.sl PrSh, Prs (prs l))] := by
  apply pcv_crossbarref15_Pairs rfl
  simp only [vc_crossbarref15_Pairs, List.map_cons, List.map_nil]
  refine VC.go_loop (fun i : Nat => [Prs (prsS (l.take i)).1, .int ((prsS (l.take i)).2 : Nat), .int i]) (fun i => i ≤ l.length) (fun i => l.length - i) 0 rfl (Nat.zero_le _) fun i hi => ?_
  simp only [VC.H_asrt, VC.H_cond, VC.H_ret, VC.H_back, VC.H_call1, ev_var, ev_int, ev_bool, ev_nil, ev_cons, ev_hd, ev_tl, ev_fset, ev_bin, ev_add, ev_sub', ev_mul, ev_lss, ev_leq, ev_gtr, ev_geq, ev_ite, ev_conv, ev_len, ev_idx, ev_app, ev_set, ev_fits64, ea_nil, ea_cons, env_zero, env_succ, env_cons, env_nil, List.map_cons, List.map_nil, v_int, v_bool, v_ls, bool_ite, pres_nil, andT, andF, decide_eq_true_eq, decide_eq_false_iff_not, forall_const, Int.not_lt, Int.not_le, List.length_map, List.length_cons, List.length_nil, Int.toNat_natCast]
  have hn := prs_len (l.take i)
  rw [List.length_take] at hn
  have hinv := prsS_inv (l.take i) (fun s hs => ho s (List.mem_of_mem_take hs))
  refine ⟨fun hc => ?_, fun hc => ?_⟩
  · have hs := ho _ (n_mem (l := l) (i := i) (by omega))
    have hg := Ns_getD l i (by omega)
    have ht := n_take l i (by omega)
    have hst : prsS (l.take (i + 1)) = stp (prsS (l.take i)) (l.getD i 0) := by rw [ht, prsS_snoc]
    generalize l.getD i 0 = x at hs hg hst
    generalize prsS (l.take i) = st at hn hinv hst
    simp only [hg, v_int]
    refine ⟨fun hpos => ?_, fun hz => ⟨by omega, by omega, by omega, by omega, i + 1, ?_, by omega, by omega⟩⟩
    · obtain ⟨p, h1, h2, h3, h4⟩ := out_last st.1 (by omega)
      have e0 : ((st.1.length : Int) - 1).toNat = st.1.length - 1 := by omega
      obtain ⟨o1, o2⟩ := hinv.1 p h3
      rw [e0, h2]
      have w1 : IntKind.i64.wrap ((x : Nat) : Int) = x := wrapi64_in (by omega)
      have w2 : IntKind.i64.wrap ((p.pid : Nat) : Int) = p.pid := wrapi64_in (by omega)
      have e1 : arith .rem .i64 ((x : Int) - (p.pid : Int) + 65536) 65536 = (((x + 65536 - p.pid) % 65536 : Nat) : Int) := by
        rw [arith_rem _ _ _ (by omega)]
        omega
      simp only [v_hd, v_tl, v_int, w1, w2, e1]
      refine ⟨by omega, by omega, by omega, by omega, by omega, by omega, by omega, fun hy => ?_, fun hn2 => ⟨by omega, by omega, by omega, by omega, i + 1, ?_, by omega, by omega⟩⟩
      · have e3 : (((x + 65536 - p.pid) % 65536 : Nat) : Int) - 1 = (((x + 65536 - p.pid) % 65536 - 1 : Nat) : Int) := by omega
        rw [e3]
        refine ⟨by omega, by omega, by omega, by omega, by omega, _, pc_crossbarref15_power _ (by omega), ?_⟩
        · refine ⟨by omega, by omega, by omega, i + 1, ?_, by omega, by omega⟩
          obtain ⟨t1, t2⟩ := told_add (hinv.2.2 p h1) (g := (x + 65536 - p.pid) % 65536) (by omega) (by omega)
          have t3 : 2 ^ ((x + 65536 - p.pid) % 65536) ≤ 2 ^ 16 := Nat.pow_le_pow_right (by decide) (by omega)
          have e4 : arith .add .u16 ((p.mask : Nat) : Int) ((2 ^ ((x + 65536 - p.pid) % 65536 - 1) : Nat) : Int) = ((p.mask + 2 ^ ((x + 65536 - p.pid) % 65536 - 1) : Nat) : Int) := add16N _ _ (by omega)
          rw [v_int, e4, hst, stp_old st x p h1 (by omega)]
          rw [fset1, h4]
          simp
      · rw [hst, stp_new st x (fun q hq => by rw [h1] at hq; cases hq; omega)]
        simp
    · have hnil : st.1 = [] := List.length_eq_zero_iff.1 (by omega)
      rw [hst, stp_new st x (fun q hq => by rw [hnil] at hq; cases hq)]
      simp
  · have : i = l.length := by omega
    subst this
    rw [List.take_length]
    rfl
theorem pr_bytes (p : Pr) (h : p.ok) : [C.int (IntKind.u8.wrap (arith .shr .u16 (p.pid : Nat) 8)), C.int (IntKind.u8.wrap (p.pid : Nat)), C.int (IntKind.u8.wrap (arith .shr .u16 (p.mask : Nat) 8)), C.int (IntKind.u8.wrap (p.mask : Nat))] = ofBytes p.bytes := by
  have e1 : arith .shr .u16 (p.pid : Nat) 8 = ((p.pid / 256 : Nat) : Int) := shrN .u16 p.pid 8 (by decide)
  have e2 : arith .shr .u16 (p.mask : Nat) 8 = ((p.mask / 256 : Nat) : Int) := shrN .u16 p.mask 8 (by decide)
  rw [e1, e2]
  simp only [byte_nat, ofBytes, Pr.bytes, List.map_cons, List.map_nil]
theorem pr_bytes2 (p : Pr) (h : p.ok) : [C.int (IntKind.u8.wrap (arith .quo .u16 (p.pid : Nat) 256)), C.int (IntKind.u8.wrap (arith .rem .u16 (p.pid : Nat) 256)), C.int (IntKind.u8.wrap (arith .quo .u16 (p.mask : Nat) 256)), C.int (IntKind.u8.wrap (arith .rem .u16 (p.mask : Nat) 256))] = ofBytes p.bytes := by
  obtain ⟨h1, h2⟩ := h
  have q : ∀ n : Nat, n < 65536 → arith .quo .u16 (n : Int) 256 = ((n / 256 : Nat) : Int) := fun n hn => by rw [arith_quo _ _ _ (by omega), wrapu16]; omega
  have r : ∀ n : Nat, arith .rem .u16 (n : Int) 256 = ((n % 256 : Nat) : Int) := fun n => by rw [arith_rem _ _ _ (by omega)]; omega
  have m : ∀ n : Nat, UInt8.ofNat (n % 256) = UInt8.ofNat n := fun n => by apply UInt8.toNat_inj.1; simp
  rw [q _ h1, q _ h2, r, r]
  simp only [byte_nat, ofBytes, Pr.bytes, List.map_cons, List.map_nil, m]
theorem prB_take (l : List Pr) (i : Nat) (h : i < l.length) : prB (l.take (i + 1)) = prB (l.take i) ++ (l.getD i Pr.zero).bytes := by rw [pr_take l i h, prB_snoc]
theorem prB_tlen (l : List Pr) (i : Nat) (h : i ≤ l.length) : (prB (l.take i)).length = 4 * i := by rw [prB_length, List.length_take]; omega
theorem pc_nack_Write (l : List Pr) (ho : ∀ p ∈ l, p.ok) (hl : l.length ≤ 1000000) : PC Try.prog f_nack_Write [(.sl PrSh, Prs l)] [(Byt, B (nkwB l)), (I64, .int (nkwE l))] := by
  apply pcv_nack_Write rfl
  simp only [vc_nack_Write, VC.H_asrt, VC.H_cond, VC.H_ret, ev_var, ev_int, ev_bool, ev_nilS, ev_mul, ev_eql, ev_leq, ev_gtr, ev_ite, ev_len, ev_fits64, ea_nil, ea_cons, env_zero, List.map_cons, List.map_nil, v_int, v_bool, v_ls, bool_ite, pres_nil, orT, orF, decide_eq_true_eq, decide_eq_false_iff_not, forall_const, Int.not_lt, List.length_map]
  refine ⟨fun hc => ?_, fun hc => ⟨by omega, by omega, by omega, ?_⟩⟩
  · rw [nkwB, nkwE, if_pos (by omega), if_pos (by omega)]
    rfl
  · rw [nkwB, nkwE, if_neg (by omega), if_neg (by omega)]
    refine VC.go_loop (fun i : Nat => [B (prB (l.take i)), .int i]) (fun i => i ≤ l.length) (fun i => l.length - i) 0 rfl (Nat.zero_le _) fun i hi => ?_
    simp only [VC.H_asrt, VC.H_cond, VC.H_ret, VC.H_back, ev_var, ev_int, ev_nil, ev_cons, ev_hd, ev_tl, ev_bin, ev_add, ev_mul, ev_lss, ev_leq, ev_geq, ev_conv, ev_len, ev_idx, ev_app, ev_fits64, ea_nil, ea_cons, env_zero, env_succ, env_cons, env_nil, List.map_cons, List.map_nil, v_int, v_bool, v_ls, pres_nil, decide_eq_true_eq, decide_eq_false_iff_not, forall_const, Int.not_lt, List.length_map, ofBytes_length, prB_tlen l i hi, List.length_cons, List.length_nil, Int.toNat_natCast]
    refine ⟨fun hc => ?_, fun hc => ?_⟩
    · rw [pr_getD _ _ (by omega)]
      simp only [v_hd, v_tl, v_int]
      refine ⟨by omega, by omega, by omega, by omega, i + 1, ?_, by omega, by omega⟩
      rw [pr_bytes _ (ho _ (pr_mem (by omega))), ofBytes_append, ← prB_take _ _ (by omega)]
      simp
    · rw [show i = l.length by omega, List.take_length]
theorem pn_nack_Write (l : List Pr) (ho : ∀ p ∈ l, p.ok) (hl : l.length ≤ 1000000) : PC Try.prog n_nack_Write [(.sl PrSh, Prs l)] [(Byt, B (nkwB l)), (I64, .int (nkwE l))] := by
  apply pcn_nack_Write rfl
  simp only [vn_nack_Write, VC.H_asrt, VC.H_cond, VC.H_ret, ev_var, ev_int, ev_bool, ev_nilS, ev_mul, ev_eql, ev_leq, ev_gtr, ev_ite, ev_len, ev_fits64, ea_nil, ea_cons, env_zero, List.map_cons, List.map_nil, v_int, v_bool, v_ls, bool_ite, pres_nil, orT, orF, decide_eq_true_eq, decide_eq_false_iff_not, forall_const, Int.not_lt, List.length_map]
  refine ⟨fun hc => ?_, fun hc => ⟨by omega, by omega, by omega, ?_⟩⟩
  · rw [nkwB, nkwE, if_pos (by omega), if_pos (by omega)]
    rfl
  · rw [nkwB, nkwE, if_neg (by omega), if_neg (by omega)]
    refine VC.go_loop (fun i : Nat => [B (prB (l.take i)), .int i]) (fun i => i ≤ l.length) (fun i => l.length - i) 0 rfl (Nat.zero_le _) fun i hi => ?_
    simp only [VC.H_asrt, VC.H_cond, VC.H_ret, VC.H_back, ev_var, ev_int, ev_nil, ev_cons, ev_hd, ev_tl, ev_bin, ev_add, ev_mul, ev_lss, ev_leq, ev_geq, ev_conv, ev_len, ev_idx, ev_app, ev_fits64, ea_nil, ea_cons, env_zero, env_succ, env_cons, env_nil, List.map_cons, List.map_nil, v_int, v_bool, v_ls, pres_nil, decide_eq_true_eq, decide_eq_false_iff_not, forall_const, Int.not_lt, List.length_map, ofBytes_length, prB_tlen l i hi, List.length_cons, List.length_nil, Int.toNat_natCast]
    refine ⟨fun hc => ?_, fun hc => ?_⟩
    · rw [pr_getD _ _ (by omega)]
      simp only [v_hd, v_tl, v_int]
      refine ⟨by omega, by omega, by omega, by omega, i + 1, ?_, by omega, by omega⟩
      rw [pr_bytes _ (ho _ (pr_mem (by omega))), ofBytes_append, ← prB_take _ _ (by omega)]
      simp
    · rw [show i = l.length by omega, List.take_length]
theorem pc_crossbarref15_Write (l : List Pr) (ho : ∀ p ∈ l, p.ok) (hl : l.length ≤ 1000000) : PC Try.prog f_crossbarref15_Write [(.sl PrSh, Prs l)] [(Byt, B (prB l))] := by
  apply pcv_crossbarref15_Write rfl
  simp only [vc_crossbarref15_Write, List.map_cons, List.map_nil]
  refine VC.go_loop (fun i : Nat => [B (prB (l.take i)), .int i]) (fun i => i ≤ l.length) (fun i => l.length - i) 0 rfl (Nat.zero_le _) fun i hi => ?_
  simp only [VC.H_asrt, VC.H_cond, VC.H_ret, VC.H_back, ev_var, ev_int, ev_nil, ev_cons, ev_hd, ev_tl, ev_bin, ev_add, ev_mul, ev_lss, ev_leq, ev_geq, ev_conv, ev_len, ev_idx, ev_app, ev_fits64, ea_nil, ea_cons, env_zero, env_succ, env_cons, env_nil, List.map_cons, List.map_nil, v_int, v_bool, v_ls, pres_nil, decide_eq_true_eq, decide_eq_false_iff_not, forall_const, Int.not_lt, List.length_map, ofBytes_length, prB_tlen l i hi, List.length_cons, List.length_nil, Int.toNat_natCast]
  refine ⟨fun hc => ?_, fun hc => ?_⟩
  · rw [pr_getD _ _ (by omega)]
    simp only [v_hd, v_tl, v_int]
    refine ⟨by omega, by omega, by omega, by omega, by omega, by omega, by omega, by omega, by omega, by omega, i + 1, ?_, by omega, by omega⟩
    rw [pr_bytes2 _ (ho _ (pr_mem (by omega))), ofBytes_append, ← prB_take _ _ (by omega)]
    simp
  · rw [show i = l.length by omega, List.take_length]
theorem atD (b : List UInt8) (i : Nat) : (((b.getD i 0).toNat : Nat) : Int) = (at_ b i : Int) := rfl
theorem rem4 (n : Nat) : arith .rem .i64 (n : Int) 4 = ((n % 4 : Nat) : Int) := by rw [arith_rem _ _ _ (by omega)]; omega
theorem pc_crossbarref15_Read (b : List UInt8) (hb : b.length ≤ 140737488355328) : PC Try.prog f_crossbarref15_Read [(Byt, B b)] [(.sl PrSh, Prs (nkR b)), (I64, .int (nkE b))] := by
  apply pcv_crossbarref15_Read rfl
  simp only [vc_crossbarref15_Read, VC.H_cond, VC.H_ret, ev_var, ev_int, ev_bool, ev_nilS, ev_bin, ev_eql, ev_neq, ev_gtr, ev_ite, ev_len, ea_nil, ea_cons, env_zero, List.map_cons, List.map_nil, v_int, v_bool, v_ls, bool_ite, orT, orF, nnE, decide_eq_true_eq, decide_eq_false_iff_not, Int.not_lt, ofBytes_length, rem4]
  refine ⟨fun h1 => ?_, fun h1 => ⟨fun h2 => ?_, fun h2 => ?_⟩⟩
  · have e : nkE b = 4 := by unfold nkE; rw [if_pos (by omega)]
    rw [nkR, e, if_neg (by decide)]
    rfl
  · have e : nkE b = 2 := by unfold nkE; rw [if_neg (by omega), if_pos (by omega)]
    rw [nkR, e, if_neg (by decide)]
    rfl
  · have e : nkE b = 0 := by rw [nkE_zero]; omega
    rw [nkR, if_pos e, e]
    refine VC.go_loop (fun i : Nat => [Prs ((List.range i).map fun j => Pr.at b (4 * j)), .int ((4 * i : Nat) : Int)]) (fun i => 4 * i ≤ b.length) (fun i => b.length - i) 0 rfl (Nat.zero_le _) fun i hi => ?_
    simp only [VC.H_asrt, VC.H_cond, VC.H_ret, VC.H_back, ev_var, ev_int, ev_nil, ev_cons, ev_bin, ev_add, ev_mul, ev_lss, ev_leq, ev_geq, ev_conv, ev_len, ev_idx, ev_app, ev_fits64, ea_nil, ea_cons, env_zero, env_succ, env_cons, env_nil, List.map_cons, List.map_nil, v_int, v_bool, v_ls, pres_nil, decide_eq_true_eq, decide_eq_false_iff_not, forall_const, Int.not_lt, ofBytes_length, List.length_map, List.length_range, List.length_cons, List.length_nil]
    refine ⟨fun hc => ?_, fun hc => ?_⟩
    · have t0 : (((4 * i : Nat) : Int)).toNat = 4 * i := by omega
      have t1 : (((4 * i : Nat) : Int) + 1).toNat = 4 * i + 1 := by omega
      have t2 : (((4 * i : Nat) : Int) + 2).toNat = 4 * i + 2 := by omega
      have t3 : (((4 * i : Nat) : Int) + 3).toNat = 4 * i + 3 := by omega
      simp only [t0, t1, t2, t3, ofBytes_getD, atD, v_int]
      refine ⟨by omega, by omega, by omega, by omega, by omega, by omega, by omega, by omega, by omega, by omega, by omega, by omega, by omega, i + 1, ?_, by omega, by omega⟩
      have a0 := at_lt b (4 * i)
      have a1 := at_lt b (4 * i + 1)
      have a2 := at_lt b (4 * i + 2)
      have a3 := at_lt b (4 * i + 3)
      have m : ∀ x y : Nat, x < 256 → y < 256 → arith .add .u16 (arith .mul .u16 256 (IntKind.u16.wrap (x : Int))) (IntKind.u16.wrap (y : Int)) = ((256 * x + y : Nat) : Int) := fun x y hx hy => by
        simp only [arith, wrapu16]
        omega
      rw [m _ _ a0 a1, m _ _ a2 a3, List.range_succ, List.map_append]
      simp [Pr.at]
      omega
    · rw [prOf, show i = b.length / 4 by omega]
theorem pr_deq (p q : Pr) : dataEq PrSh (PrC p) (PrC q) = decide (p = q) := by
  obtain ⟨a, b⟩ := p
  obtain ⟨c, d⟩ := q
  simp only [dataEq, v_hd, v_tl, v_int, Bool.and_true, Pr.mk.injEq]
  rw [Bool.eq_iff_iff]
  simp
  omega
theorem take_eq_succ {α : Type} {a b : List α} {i : Nat} (ha : i < a.length) (hb : i < b.length) (h : a.take i = b.take i) (h2 : a[i] = b[i]) : a.take (i + 1) = b.take (i + 1) := by
  rw [List.take_succ_eq_append_getElem ha, List.take_succ_eq_append_getElem hb, h, h2]
theorem pc_crossbarref15_Same (a b : List Pr) (ha : a.length ≤ 9223372036854775806) : PC Try.prog f_crossbarref15_Same [(.sl PrSh, Prs a), (.sl PrSh, Prs b)] [(.bool, .bool (decide (a = b)))] := by
  apply pcv_crossbarref15_Same rfl
  simp only [vc_crossbarref15_Same, VC.H_cond, VC.H_ret, ev_var, ev_bool, ev_neq, ev_len, ea_nil, ea_cons, env_zero, env_succ, List.map_cons, List.map_nil, v_int, v_bool, v_ls, nnE, decide_eq_true_eq, decide_eq_false_iff_not, List.length_map]
  refine ⟨fun h => ?_, fun h => ?_⟩
  · have : ¬ a = b := fun e => h (by rw [e])
    simp [this]
  · refine VC.go_loop (fun i : Nat => [.bool false, .int i]) (fun i => i ≤ a.length ∧ a.take i = b.take i) (fun i => a.length - i) 0 rfl ⟨Nat.zero_le _, rfl⟩ fun i hi => ?_
    simp only [VC.H_asrt, VC.H_cond, VC.H_ret, VC.H_back, ev_var, ev_int, ev_bool, ev_add, ev_lss, ev_geq, ev_not, ev_len, ev_idx, ev_deq, ev_fits64, ea_nil, ea_cons, env_zero, env_succ, env_cons, env_nil, List.map_cons, List.map_nil, v_int, v_bool, v_ls, pres_nil, notT, notF, decide_eq_true_eq, decide_eq_false_iff_not, forall_const, Int.not_lt, List.length_map, Int.toNat_natCast]
    refine ⟨fun hc => ?_, fun hc => ?_⟩
    · rw [pr_getD _ _ (by omega), pr_getD _ _ (by omega), pr_deq]
      refine ⟨by omega, by omega, by omega, by omega, fun hne => ?_, fun heq => ⟨by omega, i + 1, by simp, ⟨by omega, take_eq_succ (by omega) (by omega) hi.2 ?_⟩, by omega⟩⟩
      · have : ¬ a = b := fun e => by simp [e] at hne
        simp [this]
      · simp only [decide_eq_true_eq] at heq
        simpa [List.getD, show i < a.length by omega, show i < b.length by omega] using heq
    · have : a = b := by
        have := hi.2
        rwa [List.take_of_length_le (by omega), List.take_of_length_le (by omega)] at this
      simp [this]
theorem pc_crossbarref15_Numbers (a b : List Nat) (ha : a.length ≤ 9223372036854775806) : PC Try.prog f_crossbarref15_Numbers [(.sl U16, Ns a), (.sl U16, Ns b)] [(.bool, .bool (decide (a = b)))] := by
  apply pcv_crossbarref15_Numbers rfl
  simp only [vc_crossbarref15_Numbers, VC.H_cond, VC.H_ret, ev_var, ev_bool, ev_neq, ev_len, ea_nil, ea_cons, env_zero, env_succ, List.map_cons, List.map_nil, v_int, v_bool, v_ls, nnE, decide_eq_true_eq, decide_eq_false_iff_not, List.length_map]
  refine ⟨fun h => ?_, fun h => ?_⟩
  · have : ¬ a = b := fun e => h (by rw [e])
    simp [this]
  · refine VC.go_loop (fun i : Nat => [.bool false, .int i]) (fun i => i ≤ a.length ∧ a.take i = b.take i) (fun i => a.length - i) 0 rfl ⟨Nat.zero_le _, rfl⟩ fun i hi => ?_
    simp only [VC.H_asrt, VC.H_cond, VC.H_ret, VC.H_back, ev_var, ev_int, ev_bool, ev_add, ev_neq, ev_lss, ev_geq, ev_len, ev_idx, ev_fits64, ea_nil, ea_cons, env_zero, env_succ, env_cons, env_nil, List.map_cons, List.map_nil, v_int, v_bool, v_ls, pres_nil, nnE, decide_eq_true_eq, decide_eq_false_iff_not, forall_const, Int.not_lt, List.length_map, Int.toNat_natCast]
    refine ⟨fun hc => ?_, fun hc => ?_⟩
    · rw [Ns_getD _ _ (by omega), Ns_getD _ _ (by omega)]
      simp only [v_int]
      refine ⟨by omega, by omega, by omega, by omega, fun hne => ?_, fun heq => ⟨by omega, i + 1, by simp, ⟨by omega, take_eq_succ (by omega) (by omega) hi.2 ?_⟩, by omega⟩⟩
      · have : ¬ a = b := fun e => hne (by rw [e])
        simp [this]
      · have heq : a.getD i 0 = b.getD i 0 := by omega
        simpa [List.getD, show i < a.length by omega, show i < b.length by omega] using heq
    · have : a = b := by
        have := hi.2
        rwa [List.take_of_length_le (by omega), List.take_of_length_le (by omega)] at this
      simp [this]
theorem nk_flat (l : List Pr) : (l.flatMap fun p => [Value.int .u16 p.pid, Value.int .u16 p.mask]).length = l.length * 2 := by
  induction l with
  | nil => rfl
  | cons p l ih => simp only [List.flatMap_cons, List.length_append, ih, List.length_cons, List.length_nil]; omega
theorem nk_row (w : World) (N : Nat → Prop) : ∀ l : List Pr, RdRow w N PrSh (l.flatMap fun p => [Value.int .u16 p.pid, Value.int .u16 p.mask]) (l.map PrC)
  | [] => rfl
  | p :: l => ⟨[.int .u16 p.pid, .int .u16 p.mask], _, rfl, ⟨rfl, [.int .u16 p.pid], [.int .u16 p.mask], rfl, rfl, rfl, [.int .u16 p.mask], [], rfl, rfl, rfl⟩, nk_row w N l⟩
theorem pc_nack_Read (b : List UInt8) (hb : b.length ≤ 140737488355328) : PC Try.prog 36 [(Byt, B b)] [(.sl PrSh, Prs (nkR b)), (I64, .int (nkE b))] := by
  refine PC.of0 (by decide) ⟨⟨_, Try.func36, rfl, by kernel_rfl⟩, fun w N vs hvs => ?_⟩
  obtain ⟨v, r, rfl, hv, rfl⟩ := hvs
  refine (callsIn_wide.1 (nk_read w N v b hv hb)).mono ?_
  rintro e W' ⟨v, rfl, hown, hbel⟩
  refine ⟨_, rfl, ⟨[v, .int .i64 (nkE b)], ⟨_, _, rfl, ⟨[v], ?_, rfl⟩, _, _, rfl, ⟨_, rfl, rfl⟩, rfl⟩, rfl⟩, hbel⟩
  have hown' : W'.ownsR (fun g => w.heap.size ≤ g) 62 PrSh.size v (Prs (nkR b)).toList.length ((nkR b).flatMap fun p => [Value.int .u16 p.pid, Value.int .u16 p.mask]) := by
    rw [v_ls, List.length_map]
    exact hown
  refine rd_own (c := Prs (nkR b)) hown' (nk_row _ _ _) (fun g hg => .inr ?_)
  rcases hown'.2 with ⟨rfl, _⟩ | ⟨g', cap, cur, rfl, hb, _⟩
  · cases hg
  · cases hg
    exact hb
end Go.Vc
