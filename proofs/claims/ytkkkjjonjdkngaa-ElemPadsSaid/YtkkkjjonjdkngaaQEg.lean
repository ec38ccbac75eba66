/-
  The contracts of elem.Canon and of the reference's functions, each out of its condition; the fixed answer.
-/
import Derived.Test.YtkkkjjonjdkngaaQEf
set_option maxRecDepth 100000
namespace Go.Vc
open Go Go.Proofs Go.Plain
theorem elw_right {l : List El} (h : elRight l) : elwB l = elBytes l ∧ elwE l = 0 := ⟨if_pos h, if_pos h⟩
theorem pc_elem_Canon (q : Nat) (hq : q < 65536) (b : List UInt8) (hb : b.length ≤ 1000000) : PC Try.prog f_elem_Canon [(U16, .int (q : Int)), (Byt, B b)] [(.bool, .bool (elCanon q b))] := by
  obtain ⟨_, _, hr⟩ := spots_good q b
  have hc := elRead_count q b
  obtain ⟨w1, w2⟩ := elw_right hr
  apply pcv_elem_Canon rfl
  simp only [vc_elem_Canon, VC.H_cond, VC.H_ret, VC.H_call1, VC.H_call2, VC.H_call3, ev_var, ev_int, ev_bool, ev_eql, ev_neq, ev_ite, ea_nil, ea_cons, env_zero, env_succ, env_cons, env_nil, List.map_cons, List.map_nil, v_int, v_bool, bool_ite, pres_nil, pres_cons, andT, nnE, decide_eq_true_eq, decide_eq_false_iff_not, forall_const, and_true]
  refine ⟨_, _, pc_elem_Read q hq b hb, ?_⟩
  simp only [v_int]
  unfold elCanon
  refine ⟨fun h => ?_, fun h => ?_⟩
  · have h : ¬ (spots q b).2 = 0 := h
    simp [h]
  · refine ⟨_, _, _, pc_elem_Write (elRead q b) (by omega), _, fun _ => pc_bytes_Equal _ _, ?_⟩
    simp only [v_int, bool_ite]
    rw [w1, w2, h]
    by_cases h1 : elProfile (elRead q b) = q
    · simp [h1]
    · have : ¬ ((elProfile (elRead q b) : Nat) : Int) = (q : Int) := by omega
      simp [h1, this]
theorem pc_ref08_Right (l : List El) (hl : l.length ≤ 1000000) : PC Try.prog f_crossbarref08_Right [(.sl ElSh, Els l)] [(.bool, .bool (decide (elRight l)))] := by
  apply pcv_crossbarref08_Right rfl
  simp only [vc_crossbarref08_Right, List.map_cons, List.map_nil]
  refine VC.go_loop (fun i : Nat => [.bool false, .int (i : Int)]) (fun i => i ≤ l.length ∧ ∀ j, j < i → elAt l j) (fun i => l.length - i) 0 rfl ⟨Nat.zero_le _, fun j hj => absurd hj (Nat.not_lt_zero j)⟩ fun i hi => ?_
  obtain ⟨i1, i2⟩ := hi
  simp only [VC.H_asrt, VC.H_cond, VC.H_ret, ev_var, ev_int, ev_bool, ev_hd, ev_tl, ev_lss, ev_gtr, ev_geq, ev_ite, ev_len, ev_idx, ea_nil, ea_cons, env_zero, env_succ, env_cons, env_nil, v_int, v_bool, v_ls, bool_ite, pres_nil, pres_cons, orT, orF, decide_eq_true_eq, decide_eq_false_iff_not, forall_const, and_true, Int.not_lt, List.length_map]
  refine ⟨fun hc => ?_, fun hc => ?_⟩
  · have hk : i < l.length := by omega
    have hg := el_getD l i hk
    have hat : elAt l i ↔ 1 ≤ (l.getD i El.zero).id ∧ (l.getD i El.zero).id ≤ 255 ∧ (l.getD i El.zero).data.length ≤ 255 ∧ (l.getD i El.zero).id ∉ elIds (l.take i) := Iff.rfl
    generalize l.getD i El.zero = e at hat hg
    simp only [hg, v_hd, v_tl, v_int, v_ls, ofBytes_length]
    refine ⟨by omega, by omega, fun _ => by omega, fun _ => by omega, fun _ => by omega, fun _ => by omega, fun h => ?_, fun h => ?_⟩
    · have : ¬ elRight l := fun hr => by
        have := hat.1 (hr i hk)
        omega
      rw [decide_eq_false this]
    · refine VC.go_loop (fun k : Nat => [.bool false, .int (k : Int)]) (fun k => k ≤ i ∧ ∀ j, j < k → (l.getD j El.zero).id ≠ e.id) (fun k => i - k) 0 rfl ⟨Nat.zero_le _, fun j hj => absurd hj (Nat.not_lt_zero j)⟩ fun k hk2 => ?_
      obtain ⟨k1, k2⟩ := hk2
      simp only [VC.H_asrt, VC.H_cond, VC.H_ret, VC.H_back, ev_var, ev_int, ev_bool, ev_hd, ev_add, ev_eql, ev_lss, ev_geq, ev_len, ev_idx, ev_fits64, ea_nil, ea_cons, env_zero, env_succ, env_cons, env_nil, List.map_cons, List.map_nil, v_int, v_bool, v_ls, pres_nil, decide_eq_true_eq, decide_eq_false_iff_not, forall_const, Int.not_lt, List.length_map]
      refine ⟨fun hc2 => ?_, fun hc2 => ?_⟩
      · have hg2 := el_getD l k (by omega)
        have hid : (l.getD k El.zero).id ∈ elIds (l.take i) := by
          have : l.getD k El.zero ∈ l.take i := by
            rw [List.mem_take_iff_getElem]
            refine ⟨k, by omega, ?_⟩
            simp [List.getD, show k < l.length by omega]
          exact List.mem_map.2 ⟨_, this, rfl⟩
        simp only [hg, hg2, v_hd, v_int]
        refine ⟨by omega, by omega, by omega, by omega, fun h3 => ?_, fun h3 => ⟨by omega, k + 1, by simp, ⟨by omega, fun j hj => ?_⟩, by omega⟩⟩
        · have : ¬ elRight l := fun hr => by
            have := (hat.1 (hr i hk)).2.2.2
            rw [← h3] at this
            exact this hid
          rw [decide_eq_false this]
        · by_cases hjk : j = k
          · rw [hjk]; exact h3
          · exact k2 j (by omega)
      · have hki : k = i := by omega
        subst hki
        refine ⟨by omega, k + 1, by simp, ⟨by omega, fun j hj => ?_⟩, by omega⟩
        by_cases hjk : j = k
        · rw [hjk]
          refine hat.2 ⟨by omega, by omega, by omega, fun hm => ?_⟩
          obtain ⟨x, hx, hxe⟩ := List.mem_map.1 hm
          obtain ⟨j2, hj2, rfl⟩ := (List.mem_take_iff_getElem).1 hx
          refine k2 j2 (by omega) ?_
          rw [← hxe]
          simp [List.getD, show j2 < l.length by omega]
        · exact i2 j (by omega)
  · have he : i = l.length := by omega
    rw [decide_eq_true (show elRight l from fun j hj => i2 j (by omega))]
theorem pc_ref08_Profile (l : List El) (hl : l.length ≤ 1000000) : PC Try.prog f_crossbarref08_Profile [(.sl ElSh, Els l)] [(U16, .int (elProfile l : Nat))] := by
  apply pcv_crossbarref08_Profile rfl
  simp only [vc_crossbarref08_Profile, VC.H_cond, VC.H_ret, VC.H_call1, ev_var, ev_int, ev_not, ea_nil, ea_cons, env_zero, env_succ, env_cons, env_nil, List.map_cons, List.map_nil, v_bool, pres_nil, notT, notF, forall_const]
  refine ⟨_, pc_ref08_Right l hl, ?_⟩
  simp only [v_bool, decide_eq_true_eq, decide_eq_false_iff_not]
  refine ⟨fun h => ?_, fun h => ?_⟩
  · have h : ¬ elRight l := by simpa using h
    rw [show elProfile l = 0 from if_neg h]; rfl
  · have h : elRight l := by simpa using h
    have hmem := right_mem h
    refine VC.go_loop (fun i : Nat => [.int 0, .int (i : Int)]) (fun i => i ≤ l.length ∧ ∀ e ∈ l.take i, elFits true e) (fun i => l.length - i) 0 rfl ⟨Nat.zero_le _, by simp⟩ fun i hi => ?_
    obtain ⟨i1, i2⟩ := hi
    simp only [VC.H_asrt, VC.H_cond, VC.H_ret, VC.H_back, ev_var, ev_int, ev_bool, ev_hd, ev_tl, ev_add, ev_eql, ev_lss, ev_gtr, ev_geq, ev_ite, ev_len, ev_idx, ev_fits64, ea_nil, ea_cons, env_zero, env_succ, env_cons, env_nil, List.map_cons, List.map_nil, v_int, v_bool, v_ls, bool_ite, pres_nil, pres_cons, orT, orF, decide_eq_true_eq, decide_eq_false_iff_not, forall_const, and_true, Int.not_lt, List.length_map]
    refine ⟨fun hc => ?_, fun hc => ?_⟩
    · have hk : i < l.length := by omega
      have hm := el_mem hk
      have hm2 := hmem _ hm
      have ht := el_take l i hk
      rw [el_getD l i hk]
      generalize l.getD i El.zero = e at hm ht hm2
      simp only [v_hd, v_tl, v_int, v_ls, ofBytes_length]
      refine ⟨by omega, by omega, fun _ => by omega, fun _ => by omega, fun _ => by omega, fun _ => by omega, fun h => ?_, fun h => ⟨by omega, i + 1, by simp, ⟨by omega, ?_⟩, by omega⟩⟩
      · have hn : elNarrow l = false := decide_eq_false fun hall => by
          have := elFits_nar (hall e hm)
          omega
        rw [elProfile_eq ‹elRight l›, hn]
        rfl
      · rw [ht]
        intro x hx
        rcases List.mem_append.1 hx with hx | hx
        · exact i2 x hx
        · rw [List.mem_singleton] at hx
          subst hx
          simp only [elFits, if_true]
          omega
    · have he : i = l.length := by omega
      rw [he, List.take_length] at i2
      have hn : elNarrow l = true := decide_eq_true i2
      rw [elProfile_eq ‹elRight l›, hn]
      rfl
theorem pc_ref08_Write (l : List El) (hl : l.length ≤ 10000) (hr : elRight l) : PC Try.prog f_crossbarref08_Write [(.sl ElSh, Els l)] [(Byt, B (elBytes l))] := by
  apply pcv_crossbarref08_Write rfl
  simp only [vc_crossbarref08_Write, List.map_cons, List.map_nil]
  have hp := elProfile_eq hr
  have hfit := (elRight_fits hr).1
  unfold elBytes
  generalize hn : elNarrow l = nar at hfit hp
  refine VC.go_loop (fun i : Nat => [B (elRaw nar (l.take i)), .int (i : Int)]) (fun i => i ≤ l.length) (fun i => l.length - i) 0 (by simp [E.eval, elRaw, ofBytes]) (Nat.zero_le _) fun i hi => ?_
  have hlen := raw_take_len (nar := nar) hr i hi
  simp only [VC.H_asrt, VC.H_cond, VC.H_ret, VC.H_back, VC.H_call1, ev_var, ev_int, ev_nil, ev_cons, ev_hd, ev_tl, ev_add, ev_sub', ev_mul, ev_eql, ev_lss, ev_leq, ev_geq, ev_conv, ev_len, ev_idx, ev_app, ev_fits64, ea_nil, ea_cons, env_zero, env_succ, env_cons, env_nil, List.map_cons, List.map_nil, v_int, v_bool, v_ls, pres_nil, decide_eq_true_eq, decide_eq_false_iff_not, forall_const, Int.not_lt, List.length_map, ofBytes_length, List.length_cons, List.length_nil]
  refine ⟨fun hc => ?_, fun hc => ?_⟩
  · have hk : i < l.length := by omega
    have hm := hfit _ (el_mem hk)
    have hm2 := right_mem hr _ (el_mem hk)
    have ht := el_take l i hk
    rw [el_getD l i hk]
    generalize l.getD i El.zero = e at hm ht hm2
    refine ⟨by omega, by omega, _, pc_ref08_Profile l (by omega), ?_⟩
    simp only [v_int, v_ls, v_hd, v_tl, ofBytes_length]
    rw [hp]
    refine ⟨fun h1 => ?_, fun h1 => ?_⟩
    · have hnar : nar = true := by
        unfold profOf at h1
        cases nar
        · simp at h1
        · rfl
      subst hnar
      refine ⟨by omega, by omega, by omega, by omega, by omega, by omega, by omega, by omega, by omega, by omega, i + 1, ?_, by omega, by omega⟩
      rw [List.append_assoc, enc_nar2 hm, ofBytes_append, ht, elRaw_snoc]
      simp
    · have hnar : nar = false := by
        unfold profOf at h1
        cases nar
        · rfl
        · simp at h1
      subst hnar
      refine ⟨by omega, by omega, by omega, by omega, by omega, by omega, by omega, i + 1, ?_, by omega, by omega⟩
      rw [List.append_assoc, enc_wide hm2, ofBytes_append, ht, elRaw_snoc]
      simp
  · have hi2 : i = l.length := by omega
    rw [hi2, List.take_length] at hlen ⊢
    exact ⟨_, pc_ref03_Fill (elRaw nar l) (by omega), rfl⟩
structure SkSt where
  p : Nat
  out : List Sp
theorem spIds_take {l : List Sp} {i : Nat} (h : i ≤ l.length) {x : Nat} : (∀ j, j < l.length → (l.getD j Sp.zero).id ≠ x) → ¬ x ∈ spIds l := by
  intro hj hm
  obtain ⟨s, hs, hsx⟩ := List.mem_map.1 hm
  obtain ⟨j, hj2, rfl⟩ := List.getElem_of_mem hs
  refine hj j hj2 ?_
  rw [← hsx]
  simp [List.getD, hj2]
theorem pc_ref08_Spots (q : Nat) (hq : q < 65536) (b : List UInt8) (hb : b.length ≤ 1000000) : PC Try.prog f_crossbarref08_Spots [(U16, .int (q : Int)), (Byt, B b)] [(.sl SpSh, Sps (spots q b).1), (I64, .int (spots q b).2)] := by
  apply pcv_crossbarref08_Spots rfl
  have hq16 : arith .quo .u16 (q : Int) 16 = ((q / 16 : Nat) : Int) := by rw [arith_quo _ _ _ (by omega), wrapu16]; omega
  simp only [vc_crossbarref08_Spots, VC.H_cond, VC.H_ret, ev_var, ev_int, ev_bool, ev_nilS, ev_bin, ev_eql, ev_neq, ev_not, ev_ite, ea_nil, ea_cons, env_zero, List.map_cons, List.map_nil, v_int, v_bool, bool_ite, andT, andF, notT, nnE, decide_eq_true_eq, decide_eq_false_iff_not, hq16]
  refine ⟨fun h => ?_, fun h => ?_⟩
  · have : spots q b = ([], 6) := by unfold spots; rw [if_neg (by omega), if_neg (by omega)]
    rw [this]; rfl
  · obtain ⟨nar, hpr⟩ : ∃ nar, isProf nar q := by
      by_cases h1 : q = 48862
      · exact ⟨true, by simp [isProf, h1]⟩
      · exact ⟨false, by simp only [isProf, Bool.false_eq_true, if_false]; omega⟩
    rw [spots_of hpr]
    refine VC.go_loop (fun s : SkSt => [.ls [], .int 0, Sps s.out, .int (s.p : Int)]) (fun s => s.p ≤ b.length ∧ wk nar b 0 [] = wk nar b s.p s.out ∧ s.out.length ≤ s.p) (fun s => b.length - s.p) ⟨0, []⟩ (by simp [E.eval]) ⟨Nat.zero_le _, rfl, Nat.le_refl _⟩ fun s hs => ?_
    obtain ⟨i1, i2, i3⟩ := hs
    have hx := at_lt b s.p
    have hy := at_lt b (s.p + 1)
    have hfar := spAt_far nar b s.p
    have hw : IntKind.i64.wrap ((at_ b s.p : Nat) : Int) = ((at_ b s.p : Nat) : Int) := wrapi64_in (by omega)
    have hw2 : IntKind.i64.wrap ((at_ b (s.p + 1) : Nat) : Int) = ((at_ b (s.p + 1) : Nat) : Int) := wrapi64_in (by omega)
    have hrem : arith .rem .i64 ((at_ b s.p : Nat) : Int) 16 = ((at_ b s.p % 16 : Nat) : Int) := by rw [arith_rem _ _ _ (by omega)]; omega
    have hquo : arith .quo .i64 ((at_ b s.p : Nat) : Int) 16 = ((at_ b s.p / 16 : Nat) : Int) := by rw [arith_quo _ _ _ (by omega), wrapi64_in (by omega)]; omega
    have hi1 : ((s.p : Int) + 1).toNat = s.p + 1 := by omega
    simp only [VC.H_asrt, VC.H_cond, VC.H_ret, VC.H_back, ev_var, ev_int, ev_bool, ev_nilS, ev_bin, ev_add, ev_eql, ev_lss, ev_gtr, ev_geq, ev_ite, ev_conv, ev_len, ev_idx, ev_fits64, ea_nil, ea_cons, env_zero, env_succ, env_cons, env_nil, List.map_cons, List.map_nil, v_int, v_bool, v_ls, bool_ite, pres_nil, orT, orF, decide_eq_true_eq, decide_eq_false_iff_not, forall_const, Int.not_lt, Int.not_le, ofBytes_length, ofBytes_getD, Int.toNat_natCast, atD, hw, hrem, hquo, hi1, hw2]
    -- the last steps are the same in both forms
    have inner : ∀ (sp : Sp), sp = spAt nar b s.p → s.p < b.length → ¬ at_ b s.p = 0 → ¬ (nar = true ∧ (at_ b s.p / 16 = 15 ∨ at_ b s.p / 16 = 0)) → ¬ (nar = false ∧ b.length ≤ s.p + 1) → ¬ b.length < sp.pos + sp.size →
        (sp.id ∈ spIds s.out → wk nar b 0 [] = ([], 6)) ∧ (¬ sp.id ∈ spIds s.out → sp.pos + sp.size ≤ b.length ∧ wk nar b 0 [] = wk nar b (sp.pos + sp.size) (s.out ++ [sp]) ∧ (s.out ++ [sp]).length ≤ sp.pos + sp.size ∧ b.length - (sp.pos + sp.size) < b.length - s.p) := by
      rintro sp rfl a1 a2 a3 a4 a5
      refine ⟨fun h => ?_, fun h => ⟨by omega, ?_, ?_, by omega⟩⟩
      · rw [i2, wk_twice a1 a2 a3 a4 a5 h]
      · rw [i2, wk_step a1 a2 a3 a4 a5 h]
      · simp; omega
    refine ⟨fun hc => ⟨by omega, by omega, fun hz => ?_, fun hz => ⟨by omega, fun h1 => ?_, fun h1 => ?_⟩⟩, fun hc => ?_⟩
    · refine ⟨by omega, ⟨s.p + 1, s.out⟩, by simp, ⟨by simp only; omega, ?_, by simp only; omega⟩, by simp only; omega⟩
      rw [i2, wk_zero (by omega) (by omega)]
    · have hnar : nar = true := by
        cases nar
        · simp only [isProf, Bool.false_eq_true, if_false] at hpr; omega
        · rfl
      subst hnar
      refine ⟨by omega, by omega, fun h2 => ?_, fun h2 => ⟨by omega, fun h3 => ?_, fun h3 => ?_⟩⟩
      · rw [i2, wk_stop (by omega) (by omega) ⟨rfl, by omega⟩]
      · rw [i2, wk_long (by omega) (by omega) (by simp; omega) (by simp) (by simp [spAt]; omega)]
        rfl
      · obtain ⟨n1, n2⟩ := inner ⟨at_ b s.p / 16, s.p + 1, at_ b s.p % 16 + 1⟩ rfl (by omega) (by omega) (by simp; omega) (by simp) (by simp only; omega)
        simp only at n1 n2
        refine VC.go_loop (fun k : Nat => [.ls [], .int 0, .int (k : Int)]) (fun k => k ≤ s.out.length ∧ ∀ j, j < k → (s.out.getD j Sp.zero).id ≠ at_ b s.p / 16) (fun k => s.out.length - k) 0 rfl ⟨Nat.zero_le _, fun j hj => absurd hj (Nat.not_lt_zero j)⟩ fun k hk => ?_
        obtain ⟨k1, k2⟩ := hk
        simp only [VC.H_asrt, VC.H_cond, VC.H_ret, VC.H_back, ev_var, ev_int, ev_nil, ev_nilS, ev_cons, ev_hd, ev_bin, ev_add, ev_mul, ev_eql, ev_lss, ev_leq, ev_geq, ev_conv, ev_len, ev_idx, ev_app, ev_fits64, ea_nil, ea_cons, env_zero, env_succ, env_cons, env_nil, List.map_cons, List.map_nil, v_int, v_bool, v_ls, pres_nil, decide_eq_true_eq, decide_eq_false_iff_not, forall_const, Int.not_lt, List.length_map, List.length_cons, List.length_nil, ofBytes_getD, Int.toNat_natCast, atD, hw, hrem, hquo]
        refine ⟨fun hc2 => ?_, fun hc2 => ?_⟩
        · have hg := sp_getD s.out k (by omega)
          rw [Int.toNat_natCast] at hg
          rw [hg]
          simp only [v_hd, v_int]
          refine ⟨by omega, by omega, fun h4 => ?_, fun h4 => ⟨by omega, k + 1, by simp, ⟨by omega, fun j hj => ?_⟩, by omega⟩⟩
          · have : at_ b s.p / 16 ∈ spIds s.out := List.mem_map.2 ⟨_, sp_mem (show k < s.out.length by omega), by omega⟩
            rw [n1 this]; rfl
          · by_cases hjk : j = k
            · rw [hjk]; omega
            · exact k2 j (by omega)
        · obtain ⟨m1, m2, m3, m4⟩ := n2 (spIds_take (Nat.le_refl _) fun j hj => k2 j (by omega))
          refine ⟨by omega, by omega, ⟨_, _⟩, ?_, ⟨m1, m2, m3⟩, m4⟩
          simp only [Sps, List.map_append, List.map_cons, List.map_nil]
          rw [show (s.p : Int) + 1 = ((s.p + 1 : Nat) : Int) by omega, show ((at_ b s.p % 16 : Nat) : Int) + 1 = ((at_ b s.p % 16 + 1 : Nat) : Int) by omega, ← Int.natCast_add]
    · have hnar : nar = false := by
        cases nar
        · rfl
        · simp only [isProf, if_true] at hpr; omega
      subst hnar
      refine ⟨by omega, fun h2 => ?_, fun h2 => ⟨by omega, by omega, by omega, by omega, fun h3 => ?_, fun h3 => ?_⟩⟩
      · rw [i2, wk_short (by omega) (by omega) (by simp) ⟨rfl, by omega⟩]
        rfl
      · rw [i2, wk_long (by omega) (by omega) (by simp) (by simp; omega) (by simp [spAt]; omega)]
        rfl
      · obtain ⟨n1, n2⟩ := inner ⟨at_ b s.p, s.p + 2, at_ b (s.p + 1)⟩ rfl (by omega) (by omega) (by simp) (by simp; omega) (by simp only; omega)
        simp only at n1 n2
        refine VC.go_loop (fun k : Nat => [.ls [], .int 0, .int (k : Int)]) (fun k => k ≤ s.out.length ∧ ∀ j, j < k → (s.out.getD j Sp.zero).id ≠ at_ b s.p) (fun k => s.out.length - k) 0 rfl ⟨Nat.zero_le _, fun j hj => absurd hj (Nat.not_lt_zero j)⟩ fun k hk => ?_
        obtain ⟨k1, k2⟩ := hk
        simp only [VC.H_asrt, VC.H_cond, VC.H_ret, VC.H_back, ev_var, ev_int, ev_nil, ev_nilS, ev_cons, ev_hd, ev_add, ev_mul, ev_eql, ev_lss, ev_leq, ev_geq, ev_conv, ev_len, ev_idx, ev_app, ev_fits64, ea_nil, ea_cons, env_zero, env_succ, env_cons, env_nil, List.map_cons, List.map_nil, v_int, v_bool, v_ls, pres_nil, decide_eq_true_eq, decide_eq_false_iff_not, forall_const, Int.not_lt, List.length_map, List.length_cons, List.length_nil, ofBytes_getD, Int.toNat_natCast, atD, hw, hi1, hw2]
        refine ⟨fun hc2 => ?_, fun hc2 => ?_⟩
        · have hg := sp_getD s.out k (by omega)
          rw [Int.toNat_natCast] at hg
          rw [hg]
          simp only [v_hd, v_int]
          refine ⟨by omega, by omega, fun h4 => ?_, fun h4 => ⟨by omega, k + 1, by simp, ⟨by omega, fun j hj => ?_⟩, by omega⟩⟩
          · have : at_ b s.p ∈ spIds s.out := List.mem_map.2 ⟨_, sp_mem (show k < s.out.length by omega), by omega⟩
            rw [n1 this]; rfl
          · by_cases hjk : j = k
            · rw [hjk]; omega
            · exact k2 j (by omega)
        · obtain ⟨m1, m2, m3, m4⟩ := n2 (spIds_take (Nat.le_refl _) fun j hj => k2 j (by omega))
          refine ⟨by omega, by omega, ⟨_, _⟩, ?_, ⟨m1, m2, m3⟩, m4⟩
          simp only [Sps, List.map_append, List.map_cons, List.map_nil]
          rw [show (s.p : Int) + 2 = ((s.p + 2 : Nat) : Int) by omega, ← Int.natCast_add]
    · rw [i2, wk_end (by omega)]
theorem pc_ref08_Read (q : Nat) (hq : q < 65536) (b : List UInt8) (hb : b.length ≤ 1000000) : PC Try.prog f_crossbarref08_Read [(U16, .int (q : Int)), (Byt, B b)] [(.sl ElSh, Els (elRead q b)), (I64, .int (spots q b).2)] := by
  obtain ⟨g1, g2, _⟩ := spots_good q b
  have g3 := spots_count q b
  apply pcv_crossbarref08_Read rfl
  simp only [vc_crossbarref08_Read, VC.H_call2, ev_var, ea_nil, ea_cons, env_zero, env_succ, env_cons, env_nil, List.map_cons, List.map_nil, pres_nil, forall_const]
  refine ⟨_, _, pc_ref08_Spots q hq b hb, ?_⟩
  unfold elRead
  generalize (spots q b).1 = l at g1 g2 g3
  refine VC.go_loop (fun i : Nat => [Els ((l.take i).map (elOf b)), .int (i : Int)]) (fun i => i ≤ l.length) (fun i => l.length - i) 0 rfl (Nat.zero_le _) fun i hi => ?_
  simp only [VC.H_asrt, VC.H_cond, VC.H_ret, VC.H_back, ev_var, ev_int, ev_nil, ev_cons, ev_hd, ev_tl, ev_add, ev_mul, ev_lss, ev_leq, ev_geq, ev_len, ev_idx, ev_sub, ev_app, ev_fits64, ea_nil, ea_cons, env_zero, env_succ, env_cons, env_nil, List.map_cons, List.map_nil, v_int, v_bool, v_ls, pres_nil, decide_eq_true_eq, decide_eq_false_iff_not, forall_const, Int.not_lt, List.length_map, ofBytes_length, List.length_cons, List.length_nil, List.length_take]
  refine ⟨fun hc => ?_, fun hc => ?_⟩
  · have hk : i < l.length := by omega
    have hm := g1 _ (sp_mem hk)
    have ht := elRead_take b l i hk
    rw [sp_getD l i hk]
    generalize l.getD i Sp.zero = s at hm ht
    have hcut := el_cut b s hm
    simp only [v_hd, v_tl, v_int, hcut]
    have hcut2 : List.drop ((s.pos : Int)).toNat (List.take ((s.pos : Int) + (s.size : Int)).toNat (ofBytes b)) = ofBytes (elOf b s).data := by
      have := congrArg C.toList hcut
      exact this
    have hdl : (elOf b s).data.length = s.size := by unfold elOf; simp; omega
    rw [hcut2]
    simp only [ofBytes_length]
    refine ⟨by omega, by omega, by omega, by omega, by omega, by omega, by omega, by omega, by omega, by omega, by omega, by omega, by omega, by omega, by omega, i + 1, ?_, by omega, by omega⟩
    rw [ht]
    simp only [Els, List.map_append, List.map_cons, List.map_nil]
    rfl
  · rw [show i = l.length by omega, List.take_length]
theorem pc_ref08_Canon (q : Nat) (hq : q < 65536) (b : List UInt8) (hb : b.length ≤ 1000000) : PC Try.prog f_crossbarref08_Canon [(U16, .int (q : Int)), (Byt, B b)] [(.bool, .bool (elCanon q b))] := by
  obtain ⟨_, _, hr⟩ := spots_good q b
  have hc := elRead_count q b
  apply pcv_crossbarref08_Canon rfl
  simp only [vc_crossbarref08_Canon, VC.H_ret, VC.H_call1, VC.H_call2, ev_var, ev_int, ev_bool, ev_eql, ev_seql, ev_ite, ev_toStr, ea_nil, ea_cons, env_zero, env_succ, env_cons, env_nil, List.map_cons, List.map_nil, v_int, v_bool, v_str, v_ls, bool_ite, pres_nil, pres_cons, andT, decide_eq_true_eq, forall_const, and_true]
  refine ⟨_, _, pc_ref08_Read q hq b hb, _, fun _ => pc_ref08_Profile _ (by omega), _, fun _ => pc_ref08_Write _ (by omega) hr, ?_⟩
  unfold elCanon
  by_cases h0 : (spots q b).2 = 0
  · by_cases h1 : elProfile (elRead q b) = q
    · simp [h0, h1]
    · have : ¬ ((elProfile (elRead q b) : Nat) : Int) = (q : Int) := by omega
      simp [h0, h1, this]
  · simp [h0]
theorem pc_ref08_Same (a b : List El) (ha : a.length ≤ 1000000) : PC Try.prog f_crossbarref08_Same [(.sl ElSh, Els a), (.sl ElSh, Els b)] [(.bool, .bool (decide (a = b)))] := by
  apply pcv_crossbarref08_Same rfl
  simp only [vc_crossbarref08_Same, VC.H_cond, VC.H_ret, ev_var, ev_bool, ev_neq, ev_len, ea_nil, ea_cons, env_zero, env_succ, List.map_cons, List.map_nil, v_int, v_bool, v_ls, nnE, decide_eq_true_eq, decide_eq_false_iff_not, List.length_map]
  refine ⟨fun hl => ?_, fun hl => ?_⟩
  · have : a ≠ b := fun e => hl (by rw [e])
    simp [this]
  · have hl : a.length = b.length := by omega
    refine VC.go_loop (fun i : Nat => [.bool false, .int (i : Int)]) (fun i => i ≤ a.length ∧ a.take i = b.take i) (fun i => a.length - i) 0 rfl ⟨Nat.zero_le _, rfl⟩ fun i hi => ?_
    simp only [VC.H_asrt, VC.H_cond, VC.H_ret, VC.H_back, ev_var, ev_int, ev_bool, ev_hd, ev_tl, ev_add, ev_neq, ev_lss, ev_geq, ev_sneq, ev_ite, ev_len, ev_idx, ev_toStr, ev_fits64, ea_nil, ea_cons, env_zero, env_succ, env_cons, env_nil, List.map_cons, List.map_nil, v_int, v_bool, v_str, v_ls, bool_ite, pres_nil, pres_cons, orT, orF, nnE, decide_eq_true_eq, decide_eq_false_iff_not, forall_const, and_true, Int.not_lt, List.length_map]
    refine ⟨fun hc => ?_, fun hc => ?_⟩
    · have ga := el_getD a i (by omega)
      have gb := el_getD b i (by omega)
      have ta := el_take a i (by omega)
      have tb := el_take b i (by omega)
      have hne : a.getD i El.zero ≠ b.getD i El.zero → a ≠ b := fun h e => h (by rw [e])
      generalize a.getD i El.zero = x at ga ta hne
      generalize b.getD i El.zero = y at gb tb hne
      simp only [ga, gb, v_hd, v_tl, v_int, v_ls, bytesOf_ofBytes]
      refine ⟨by omega, by omega, by omega, by omega, fun _ => by omega, fun _ => by omega, fun _ => by omega, fun _ => by omega, fun h => ?_, fun h => ⟨by omega, i + 1, by simp, ⟨by omega, ?_⟩, by omega⟩⟩
      · have : a ≠ b := hne fun e => by
          subst e
          simp at h
        simp [this]
      · have : x = y := by
          obtain ⟨x1, x2⟩ := x
          obtain ⟨y1, y2⟩ := y
          simp at h
          simp only [El.mk.injEq]
          exact h
        rw [ta, tb, hi.2, this]
    · have h2 := hi.2
      rw [List.take_of_length_le (by omega), List.take_of_length_le (by omega)] at h2
      simp [h2]
def elShort (l : List El) : Bool := decide ((∀ e ∈ l, e.data.length ≤ 400) ∧ l.length ≤ 300)
theorem pc_ref08_Short (l : List El) (hl : l.length ≤ maxLen) : PC Try.prog f_crossbarref08_Short [(.sl ElSh, Els l)] [(.bool, .bool (elShort l))] := by
  apply pcv_crossbarref08_Short rfl
  simp only [maxLen] at hl
  simp only [vc_crossbarref08_Short, List.map_cons, List.map_nil]
  refine VC.go_loop (fun i : Nat => [.bool false, .int (i : Int)]) (fun i => i ≤ l.length ∧ ∀ e ∈ l.take i, e.data.length ≤ 400) (fun i => l.length - i) 0 rfl ⟨Nat.zero_le _, by simp⟩ fun i hi => ?_
  obtain ⟨i1, i2⟩ := hi
  simp only [VC.H_asrt, VC.H_cond, VC.H_ret, VC.H_back, ev_var, ev_int, ev_bool, ev_hd, ev_tl, ev_add, ev_lss, ev_leq, ev_gtr, ev_geq, ev_len, ev_idx, ev_fits64, ea_nil, ea_cons, env_zero, env_succ, env_cons, env_nil, List.map_cons, List.map_nil, v_int, v_bool, v_ls, pres_nil, decide_eq_true_eq, decide_eq_false_iff_not, forall_const, Int.not_lt, List.length_map]
  refine ⟨fun hc => ?_, fun hc => ?_⟩
  · have hk : i < l.length := by omega
    have hm := el_mem hk
    have ht := el_take l i hk
    rw [el_getD l i hk]
    generalize l.getD i El.zero = e at hm ht
    simp only [v_hd, v_tl, v_ls, ofBytes_length]
    refine ⟨by omega, by omega, fun h => ?_, fun h => ⟨by omega, i + 1, by simp, ⟨by omega, ?_⟩, by omega⟩⟩
    · have : elShort l = false := decide_eq_false fun hall => by
        have := hall.1 e hm
        omega
      rw [this]
    · rw [ht]
      intro x hx
      rcases List.mem_append.1 hx with hx | hx
      · exact i2 x hx
      · rw [List.mem_singleton] at hx
        subst hx
        omega
  · have he : i = l.length := by omega
    rw [he, List.take_length] at i2
    congr 3
    unfold elShort
    rw [decide_eq_decide]
    constructor
    · intro h; exact ⟨i2, by omega⟩
    · intro h; omega
theorem awake_write : elRight [⟨1, [7, 8]⟩] ∧ elProfile [⟨1, [7, 8]⟩] = 48862 ∧ elBytes [⟨1, [7, 8]⟩] = [17, 7, 8, 0] := by decide
theorem awake_read : (spots 4099 [0, 200, 0, 5, 1, 9, 0, 0]).2 = 0 ∧ elRead 4099 [0, 200, 0, 5, 1, 9, 0, 0] = [⟨200, []⟩, ⟨5, [9]⟩] := by
  have := read_lay (nar := false) (l := [(1, ⟨200, []⟩), (0, ⟨5, [9]⟩)]) (q := 4099) (r := List.replicate 2 0) (by simp [isProf]) (by decide) (by decide) ⟨2, .inl rfl⟩
  exact ⟨congrArg Prod.snd this.1, this.2⟩
theorem awake_spots : spots 48862 [16, 7, 240, 1] = ([⟨1, 1, 1⟩], 0) := by
  have := read_lay (nar := true) (l := [(0, ⟨1, [7]⟩)]) (q := 48862) (r := [240, 1]) (by simp [isProf]) (by decide) (by decide) ⟨0, .inr ⟨rfl, 240, [1], by decide, rfl⟩⟩
  exact this.1
theorem pc_law08_awake : PC Try.prog f_crossbarlaw08_awake [] [(.bool, .bool true)] := by
  obtain ⟨a1, a2, a3⟩ := awake_write
  obtain ⟨r1, r2⟩ := awake_read
  have w := pc_elem_Write [⟨1, [7, 8]⟩] (by decide)
  obtain ⟨w1, w2⟩ := elw_right a1
  rw [w1, w2, a2, a3] at w
  have r := pc_elem_Read 4099 (by decide) [0, 200, 0, 5, 1, 9, 0, 0] (by decide)
  rw [r1, r2] at r
  have s := pc_elem_Spots 48862 (by decide) [16, 7, 240, 1] (by decide)
  rw [awake_spots] at s
  have c1 := pc_elem_Canon 48862 (by decide) [17, 7, 8, 0] (by decide)
  have c2 := pc_elem_Canon 4096 (by decide) [17, 7, 8, 0] (by decide)
  have t1 : elCanon 48862 [17, 7, 8, 0] = true := by
    obtain ⟨x1, x2, _⟩ := read_bytes a1
    rw [a2, a3] at x1 x2
    unfold elCanon
    rw [x1, x2, a2, a3]
    decide
  have t2 : elCanon 4096 [17, 7, 8, 0] = false := by
    have h1 : (spots 4096 [17, 7, 8, 0]).2 = 4 := by
      rw [spots_of (nar := false) (by simp [isProf]), wk_long (by decide) (by decide) (by decide) (by decide) (by decide)]
    unfold elCanon
    rw [h1]
    decide
  rw [t1] at c1
  rw [t2] at c2
  have g := pc_elem_Right [⟨200, []⟩, ⟨5, [9]⟩] (by decide)
  have t3 : decide (elRight [⟨200, []⟩, ⟨5, [9]⟩]) = true := by decide
  rw [t3] at g
  apply pcv_crossbarlaw08_awake rfl
  simp only [vc_crossbarlaw08_awake, VC.H_asrt, VC.H_ret, VC.H_call1, VC.H_call2, VC.H_call3, ev_var, ev_int, ev_bool, ev_str, ev_nil, ev_cons, ev_hd, ev_tl, ev_eql, ev_lss, ev_seql, ev_not, ev_ite, ev_len, ev_idx, ev_toStr, ev_deq, ea_nil, ea_cons, env_zero, env_succ, env_cons, env_nil, List.map_nil, v_int, v_bool, v_str, v_ls, toBool_ite, bool_ite, pres_nil, pres_cons, andT, notT, decide_eq_true_eq, forall_const, and_true]
  refine ⟨_, _, _, w, _, _, r, _, _, s, ?_⟩
  simp only [List.map_cons, List.map_nil, v_int, v_ls, and_true]
  refine ⟨fun _ => by decide, fun _ => by decide, fun _ => by decide, fun _ => by decide, _, fun _ => c1, _, fun _ => c2, _, fun _ => g, ?_⟩
  simp only [v_bool, bool_ite, and_true]
  rfl
end Go.Vc
