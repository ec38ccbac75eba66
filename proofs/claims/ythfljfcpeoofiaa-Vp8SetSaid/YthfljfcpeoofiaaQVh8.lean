/-
  The contract of the reference's setting of numbers, out of its condition; the laws' fixed answers.
-/
import Derived.Test.YthfljfcpeoofiaaQVg8
set_option maxRecDepth 100000
namespace Go.Vc
open Go Go.Proofs Go.Plain
theorem setQ (b : List UInt8) (i : Nat) (p : Int) (h : 0 ≤ p ∧ p ≤ 32767) : (ofBytes b).set i (.int (IntKind.u8.wrap (128 + arith .quo .i64 p 256))) = ofBytes (b.set i (UInt8.ofNat (128 + p.toNat / 256))) := by
  have e1 : (128 : Int) + arith .quo .i64 p 256 = ((128 + p.toNat / 256 : Nat) : Int) := by
    rw [arith_quo _ _ _ h.1, wrapi64_in (by omega)]
    omega
  rw [e1, set8w]
theorem setR (b : List UInt8) (i : Nat) (p : Int) (h : 0 ≤ p) : (ofBytes b).set i (.int (IntKind.u8.wrap (arith .rem .i64 p 256))) = ofBytes (b.set i (UInt8.ofNat p.toNat)) := by
  have e1 : arith .rem .i64 p 256 = ((p.toNat % 256 : Nat) : Int) := by
    rw [arith_rem _ _ _ h]
    omega
  rw [e1, set8w]
  congr 2
  apply UInt8.toNat_inj.1
  simp only [UInt8.toNat_ofNat']
  omega
theorem setKr (c : List UInt8) (j i : Nat) (k : Int) (h : 0 ≤ k ∧ k ≤ 31) : (ofBytes c).set j (.int (arith .add .u8 (arith .mul .u8 ((at_ c i / 32 : Nat) : Int) 32) (IntKind.u8.wrap k))) = ofBytes (c.set j (UInt8.ofNat (at_ c i / 32 * 32 + k.toNat))) := by
  have hc := at_lt c i
  have e1 : arith .add .u8 (arith .mul .u8 ((at_ c i / 32 : Nat) : Int) 32) (IntKind.u8.wrap k) = ((at_ c i / 32 * 32 + k.toNat : Nat) : Int) := by
    rw [arith_add, arith_mul, wrapu8, wrapu8, wrapu8]
    omega
  rw [e1, set8 _ _ _ (by omega)]
set_option maxHeartbeats 4000000 in
theorem pc_crossbarref23_Set (b : List UInt8) (p l k : Int) (hb : b.length ≤ 140737488355328) : PC Try.prog f_crossbarref23_Set [(Byt, B b), (I64, .int p), (I64, .int l), (I64, .int k)] [(Byt, B (v8setB b p l k)), (I64, .int (v8setE b p l k))] := by
  apply pcv_crossbarref23_Set rfl
  simp only [vc_crossbarref23_Set, VC.H_asrt, VC.H_cond, VC.H_ret, VC.H_call1, ev_var, ev_int, ev_bool, ev_nil, ev_nilS, ev_hd, ev_tl, ev_bin, ev_add, ev_mul, ev_neq, ev_lss, ev_leq, ev_gtr, ev_geq, ev_ite, ev_conv, ev_len, ev_idx, ev_app, ev_set, ev_fits64, ea_nil, ea_cons, env_zero, env_succ, env_cons, env_nil, List.map_cons, List.map_nil, v_int, v_bool, v_ls, int_ite, bool_ite, pres_nil, orT, orF, andT, andF, nnE, decide_eq_true_eq, decide_eq_false_iff_not, forall_const, Int.not_lt, Int.not_le, ofBytes_length]
  refine ⟨_, pc_crossbarref23_Find b hb, fun h => ?_, fun h => ?_⟩
  · have h : ¬ v8E b = 0 := by simpa using h
    have e : v8setE b p l k = v8E b := by rw [v8setE, if_pos h]
    rw [v8setB, e, if_neg h]
    rfl
  · have h : v8E b = 0 := by simpa using h
    have hf := (v8E_zero h).1
    obtain ⟨p1, p2, p3, p4⟩ := v8_pos b
    rw [fd_ok h]
    simp only [v_hd, v_tl, v_int, v_bool]
    have tp : (if (V8.of b).wide = true then (32767 : Int) else 127) = (V8.of b).top := rfl
    rw [tp]
    refine ⟨fun hbad => ?_, fun hgood => ?_⟩
    · have e : v8setE b p l k = 6 := by
        rw [v8setE, if_neg (by simp [h]), if_pos]
        unfold v8bad
        rcases hbad with (hbad | hbad) | hbad
        · exact .inl ⟨hbad.1, by omega, by omega⟩
        · exact .inr (.inl ⟨hbad.1, by omega, by omega⟩)
        · exact .inr (.inr ⟨hbad.1, by omega, by omega⟩)
      rw [v8setB, e, if_neg (by decide)]
      rfl
    · have hnb : ¬ v8bad (V8.of b) p l k := by
        unfold v8bad
        rintro (⟨a1, a2, a3⟩ | ⟨a1, a2, a3⟩ | ⟨a1, a2, a3⟩)
        · exact hgood.1 (.inl ⟨a1, by omega⟩)
        · exact hgood.1 (.inr ⟨a1, by omega⟩)
        · rcases hgood.2 with h | h
          · exact h a1
          · omega
      have e : v8setE b p l k = 0 := v8setE_zero.2 ⟨h, hnb⟩
      have m1 : ((V8.of b).hasPic = true ∧ p ≠ -1) ↔ ((V8.of b).hasPic = true ∧ 0 ≤ p) := by
        refine ⟨fun hc => ⟨hc.1, Classical.byContradiction fun hn => hnb (.inl ⟨hc.1, hc.2, by omega⟩)⟩, fun hc => ⟨hc.1, by omega⟩⟩
      have m2 : ((V8.of b).hasLevel = true ∧ l ≠ -1) ↔ ((V8.of b).hasLevel = true ∧ 0 ≤ l) := by
        refine ⟨fun hc => ⟨hc.1, Classical.byContradiction fun hn => hnb (.inr (.inl ⟨hc.1, hc.2, by omega⟩))⟩, fun hc => ⟨hc.1, by omega⟩⟩
      have m3 : ((V8.of b).hasKey = true ∧ k ≠ -1) ↔ ((V8.of b).hasKey = true ∧ 0 ≤ k) := by
        refine ⟨fun hc => ⟨hc.1, Classical.byContradiction fun hn => hnb (.inr (.inr ⟨hc.1, hc.2, by omega⟩))⟩, fun hc => ⟨hc.1, by omega⟩⟩
      have g1 : (V8.of b).hasPic = true ∧ 0 ≤ p → p ≤ (V8.of b).top := fun hc => Classical.byContradiction fun hn => hnb (.inl ⟨hc.1, by omega, by omega⟩)
      have g2 : (V8.of b).hasLevel = true ∧ 0 ≤ l → l ≤ 255 := fun hc => Classical.byContradiction fun hn => hnb (.inr (.inl ⟨hc.1, by omega, by omega⟩))
      have g3 : (V8.of b).hasKey = true ∧ 0 ≤ k → k ≤ 31 := fun hc => Classical.byContradiction fun hn => hnb (.inr (.inr ⟨hc.1, by omega, by omega⟩))
      have g4 : (V8.of b).top ≤ 32767 := by unfold V8.top; split <;> omega
      have gq : (0 ≤ p ∧ p ≤ 32767) → (128 : Int) + arith .quo .i64 p 256 = ((128 + p.toNat / 256 : Nat) : Int) := fun hc => by rw [arith_quo _ _ _ hc.1, wrapi64_in (by omega)]; omega
      rw [v8setB, if_pos e, e]
      simp only [v8s1, v8s2, v8s3, m1, m2, m3, show (v8has b && v8P b) = (V8.of b).hasPic from rfl, show (v8has b && v8L b) = (V8.of b).hasLevel from rfl]
      have i2 : Int.toNat ((2 : Nat) : Int) = 2 := rfl
      have i3 : Int.toNat (((2 : Nat) : Int) + 1) = 3 := rfl
      rcases Classical.em ((V8.of b).hasPic = true ∧ 0 ≤ p) with c1 | c1 <;> rcases Classical.em ((V8.of b).wide = true) with c2 | c2 <;> rcases Classical.em ((V8.of b).hasLevel = true ∧ 0 ≤ l) with c3 | c3 <;> rcases Classical.em ((V8.of b).hasKey = true ∧ 0 ≤ k) with c4 | c4
      all_goals
        simp only [c1, c2, c3, c4, if_true, if_false, not_true_eq_false, false_implies, true_implies, true_and, and_self, i2, i3, Int.toNat_natCast, false_or]
        (try have q1 := g1 c1)
        (try have q2 := g2 c3)
        (try have q3 := g3 c4)
        (try have q4 := gq ⟨c1.2, by omega⟩)
        (try have s0 := c1.2)
        (try have t0 := c3.2)
        (try have u0 := c4.2)
        (try have s1 := p1 c1.1)
        (try have s2 := p2 c2)
        (try have s3 := p3 c3.1)
        (try have s4 := p4 c4.1)
        (try simp only [s4.2, if_true])
        (try simp only [q4])
        repeat' first | apply And.intro | intro _
        all_goals
          first
          | trivial
          | omega
          | contradiction
          | (simp (disch := omega) only [set8i, setR, setKr, List.set_set, ofBytes_getD, atD, q32, v_int, Bool.false_eq_true, if_false, Int.toNat_natCast]
             done)
          | (simp (disch := omega) only [set8w, set8i, setR, setKr, List.set_set, ofBytes_getD, atD, q32, v_int, Bool.false_eq_true, if_false, Int.toNat_natCast]
             rfl)
theorem v8_deq (s t : V8) : dataEq V8Sh (V8C s) (V8C t) = decide (s = t) := by
  obtain ⟨a1, a2, a3, a4, a5, a6, a7, a8, a9, a10, a11, a12, a13⟩ := s
  obtain ⟨b1, b2, b3, b4, b5, b6, b7, b8, b9, b10, b11, b12, b13⟩ := t
  simp only [dataEq, C.hd_cons, C.tl_cons, C.toBool_bool, C.toInt_int, Bool.and_true, V8.mk.injEq]
  rw [Bool.eq_iff_iff]
  simp only [Bool.and_eq_true, beq_iff_eq, decide_eq_true_eq]
theorem pc_crossbarlaw23_awake : PC Try.prog f_crossbarlaw23_awake [] [(.bool, .bool true)] := by
  let d : V8 := ⟨false, true, 0, true, true, 300, false, 0, false, false, 0, false, 0⟩
  have hd : d.right := by decide
  have e1 : v8wB d = [144, 128, 129, 44] := by rw [v8wB, if_pos hd]; decide +kernel
  have e2 : v8wE d = 0 := if_pos hd
  apply pcv_crossbarlaw23_awake rfl
  simp only [vc_crossbarlaw23_awake, VC.H_asrt, VC.H_ret, VC.H_call1, VC.H_call2, VC.H_call3, ev_var, ev_int, ev_bool, ev_str, ev_nil, ev_cons, ev_hd, ev_tl, ev_add, ev_mul, ev_eql, ev_leq, ev_seql, ev_not, ev_ite, ev_len, ev_app, ev_toStr, ev_deq, ea_nil, ea_cons, env_zero, env_succ, env_cons, env_nil, List.map_nil, v_int, v_bool, v_str, v_ls, toBool_ite, bool_ite, pres_nil, pres_cons, andT, notT, decide_eq_true_eq, forall_const, and_true]
  refine ⟨_, _, pc_vp8_Write d, ?_⟩
  rw [e1, e2]
  refine ⟨by decide, by decide, _, _, _, pc_vp8_Read [144, 128, 129, 44, 9] (by decide), _, _, pc_vp8_Set [144, 128, 129, 44] 301 5 5 (by decide), _, _, pc_vp8_Set [144, 128, 129, 44] 32768 0 0 (by decide), _, _, _, pc_vp8_Read [128, 64, 5] (by decide), ?_⟩
  refine ⟨_, fun _ => pc_vp8_Canon [144, 128, 129, 44] (by decide), _, fun _ => pc_vp8_Canon [128, 0] (by decide), _, fun _ => pc_vp8_Right d, ?_⟩
  kernel_rfl
end Go.Vc
