/-
  The contracts of vp8's and its reference's setting of numbers, each out of its condition.
-/
import Derived.Test.YthfljfcpeoofiaaQVf8
set_option maxRecDepth 100000
namespace Go.Vc
open Go Go.Proofs Go.Plain
theorem set8 (b : List UInt8) (i n : Nat) (h : n < 256) : (ofBytes b).set i (.int ((n : Nat) : Int)) = ofBytes (b.set i (UInt8.ofNat n)) := by
  rw [← ofBytes_set', ofNat_toNat h]
theorem set8w (b : List UInt8) (i n : Nat) : (ofBytes b).set i (.int (IntKind.u8.wrap ((n : Nat) : Int))) = ofBytes (b.set i (UInt8.ofNat n)) := by
  rw [← ofBytes_set', UInt8.toNat_ofNat', wrapu8]
  rfl
theorem orHi (n : Nat) (h : n < 32768) : arith .or .u8 128 (IntKind.u8.wrap (arith .shr .i64 ((n : Nat) : Int) 8)) = ((128 + n / 256 : Nat) : Int) := by
  have e1 : arith .shr .i64 ((n : Nat) : Int) 8 = ((n / 256 : Nat) : Int) := by
    rw [arith_shr]
    simp [IntKind.bits]
  have key : ∀ m : Nat, m < 128 → arith .or .u8 128 (IntKind.u8.wrap ((m : Nat) : Int)) = ((128 + m : Nat) : Int) := by decide +kernel
  rw [e1, key _ (by omega)]
theorem orKx : ∀ x : Nat, x < 8 → ∀ k : Nat, k < 32 → arith .or .u8 ((x * 32 : Nat) : Int) (IntKind.u8.wrap ((k : Nat) : Int)) = ((x * 32 + k : Nat) : Int) := by decide +kernel
theorem set8i (p : Int) (h : 0 ≤ p) (b : List UInt8) (i : Nat) : (ofBytes b).set i (.int (IntKind.u8.wrap p)) = ofBytes (b.set i (UInt8.ofNat p.toNat)) := by
  have := set8w b i p.toNat
  rwa [Int.toNat_of_nonneg h] at this
theorem orHi' (p : Int) (h : 0 ≤ p ∧ p ≤ 32767) : arith .or .u8 128 (IntKind.u8.wrap (arith .shr .i64 p 8)) = ((128 + p.toNat / 256 : Nat) : Int) := by
  have := orHi p.toNat (by omega)
  rwa [Int.toNat_of_nonneg h.1] at this
theorem orK' (c : List UInt8) (i : Nat) (k : Int) (h : 0 ≤ k ∧ k ≤ 31) : arith .or .u8 ((at_ c i / 32 * 32 : Nat) : Int) (IntKind.u8.wrap k) = ((at_ c i / 32 * 32 + k.toNat : Nat) : Int) := by
  have hc := at_lt c i
  have := orKx (at_ c i / 32) (by omega) k.toNat (by omega)
  rwa [Int.toNat_of_nonneg h.1] at this
theorem setHi (b : List UInt8) (i : Nat) (p : Int) (h : 0 ≤ p ∧ p ≤ 32767) : (ofBytes b).set i (.int (arith .or .u8 128 (IntKind.u8.wrap (arith .shr .i64 p 8)))) = ofBytes (b.set i (UInt8.ofNat (128 + p.toNat / 256))) := by
  rw [orHi' p h, set8 _ _ _ (by omega)]
theorem setK (c : List UInt8) (j i : Nat) (k : Int) (h : 0 ≤ k ∧ k ≤ 31) : (ofBytes c).set j (.int (arith .or .u8 ((at_ c i / 32 * 32 : Nat) : Int) (IntKind.u8.wrap k))) = ofBytes (c.set j (UInt8.ofNat (at_ c i / 32 * 32 + k.toNat))) := by
  have := at_lt c i
  rw [orK' c i k h, set8 _ _ _ (by omega)]
theorem v8_pos (b : List UInt8) : ((V8.of b).hasPic = true → 3 ≤ v8fin b) ∧ ((V8.of b).wide = true → 4 ≤ v8fin b ∧ (V8.of b).hasPic = true) ∧ ((V8.of b).hasLevel = true → v8lev b < v8fin b) ∧ ((V8.of b).hasKey = true → v8key b < v8fin b ∧ (v8has b && (v8T b || v8K b)) = true) := by
  have hle : v8lev b = 2 + (if v8P b = true then (if v8W b = true then 2 else 1) else 0) := rfl
  have hke : v8key b = v8lev b + (if v8L b = true then 1 else 0) := rfl
  have hfe : v8fin b = (if v8has b = true then v8key b + (if (v8T b || v8K b) = true then 1 else 0) else 1) := rfl
  simp only [V8.of]
  cases h0 : v8has b <;> cases h1 : v8P b <;> cases h2 : v8W b <;> cases h3 : v8L b <;> cases h4 : v8T b <;> cases h5 : v8K b <;> simp [h0, h1, h2, h3, h4, h5] at hle hke hfe ⊢ <;> omega
set_option maxHeartbeats 4000000 in
theorem pc_vp8_Set (b : List UInt8) (p l k : Int) (hb : b.length ≤ 140737488355328) : PC Try.prog f_vp8_Set [(Byt, B b), (I64, .int p), (I64, .int l), (I64, .int k)] [(Byt, B (v8setB b p l k)), (I64, .int (v8setE b p l k))] := by
  apply pcv_vp8_Set rfl
  simp only [vc_vp8_Set, VC.H_asrt, VC.H_cond, VC.H_ret, VC.H_call1, VC.H_call2, VC.H_call3, ev_var, ev_int, ev_bool, ev_nilS, ev_hd, ev_tl, ev_bin, ev_add, ev_neq, ev_lss, ev_geq, ev_not, ev_ite, ev_conv, ev_len, ev_idx, ev_set, ev_fits64, ea_nil, ea_cons, env_zero, env_succ, env_cons, env_nil, List.map_cons, List.map_nil, v_int, v_bool, v_ls, toBool_ite, bool_ite, pres_nil, pres_cons, orT, orF, andT, andF, notT, notF, nnE, decide_eq_true_eq, decide_eq_false_iff_not, forall_const, and_true]
  refine ⟨_, _, _, pc_vp8_Read b hb, fun h => ?_, fun h => ?_⟩
  · have h : ¬ v8E b = 0 := by simpa using h
    have e : v8setE b p l k = v8E b := by rw [v8setE, if_pos h]
    rw [v8setB, e, if_neg h]
    rfl
  · have h : v8E b = 0 := by simpa using h
    have hf := (v8E_zero h).1
    have ed : v8D b = V8.of b := if_pos h
    obtain ⟨p1, p2, p3, p4⟩ := v8_pos b
    rw [ed]
    refine ⟨_, _, pc_vp8_find b, ?_⟩
    rw [sp_ok h]
    simp only [v_hd, v_tl, v_int, v_bool]
    refine ⟨_, fun _ => pc_vp8_most _, _, fun _ => pc_vp8_within p _, _, fun _ => pc_vp8_within l 255, _, fun _ => pc_vp8_within k 31, fun hbad => ?_, fun hgood => ?_⟩
    · have e : v8setE b p l k = 6 := by
        rw [v8setE, if_neg (by simp [h]), if_pos]
        simp only [v_bool, decide_eq_false_iff_not] at hbad
        unfold v8bad V8.top
        rcases hbad with (hbad | hbad) | hbad
        · exact .inl ⟨hbad.1.1, hbad.1.2, hbad.2⟩
        · exact .inr (.inl ⟨hbad.1.1, hbad.1.2, hbad.2⟩)
        · exact .inr (.inr ⟨hbad.1.1, hbad.1.2, hbad.2⟩)
      rw [v8setB, e, if_neg (by decide)]
      rfl
    · have hnb : ¬ v8bad (V8.of b) p l k := by
        simp only [v_bool, decide_eq_false_iff_not, decide_eq_true_eq] at hgood
        unfold v8bad V8.top
        rintro (⟨a1, a2, a3⟩ | ⟨a1, a2, a3⟩ | ⟨a1, a2, a3⟩)
        · exact hgood.1 (.inl ⟨⟨a1, a2⟩, a3⟩)
        · exact hgood.1 (.inr ⟨⟨a1, a2⟩, a3⟩)
        · rcases hgood.2 with h | h
          · exact h ⟨a1, a2⟩
          · exact a3 h
      have e : v8setE b p l k = 0 := v8setE_zero.2 ⟨h, hnb⟩
      have g1 : (V8.of b).hasPic = true ∧ p ≠ -1 → 0 ≤ p ∧ p ≤ (V8.of b).top := fun hc => Classical.byContradiction fun hn => hnb (.inl ⟨hc.1, hc.2, hn⟩)
      have g2 : (V8.of b).hasLevel = true ∧ l ≠ -1 → 0 ≤ l ∧ l ≤ 255 := fun hc => Classical.byContradiction fun hn => hnb (.inr (.inl ⟨hc.1, hc.2, hn⟩))
      have g3 : (V8.of b).hasKey = true ∧ k ≠ -1 → 0 ≤ k ∧ k ≤ 31 := fun hc => Classical.byContradiction fun hn => hnb (.inr (.inr ⟨hc.1, hc.2, hn⟩))
      have g4 : (V8.of b).top ≤ 32767 := by unfold V8.top; split <;> omega
      refine ⟨_, pn_bytes_Clone b hb, ?_⟩
      rw [v8setB, if_pos e, e]
      simp only [v_ls, ofBytes_length, v8s1, v8s2, v8s3, show (v8has b && v8P b) = (V8.of b).hasPic from rfl, show (v8has b && v8L b) = (V8.of b).hasLevel from rfl]
      have i2 : Int.toNat 2 = 2 := rfl
      have i3 : Int.toNat (2 + 1) = 3 := rfl
      rcases Classical.em ((V8.of b).hasPic = true ∧ p ≠ -1) with c1 | c1 <;> rcases Classical.em ((V8.of b).wide = true) with c2 | c2 <;> rcases Classical.em ((V8.of b).hasLevel = true ∧ l ≠ -1) with c3 | c3 <;> rcases Classical.em ((V8.of b).hasKey = true ∧ k ≠ -1) with c4 | c4
      all_goals
        simp only [c1, c2, c3, c4, if_true, if_false, not_true_eq_false, not_false_eq_true, false_implies, true_implies, and_true, true_and, and_self, false_and, ne_eq, i2, i3, Int.toNat_natCast]
        (try have q1 := g1 c1)
        (try have q2 := g2 c3)
        (try have q3 := g3 c4)
        (try have s1 := p1 c1.1)
        (try have s2 := p2 c2)
        (try have s3 := p3 c3.1)
        (try have s4 := p4 c4.1)
        (try simp only [s4.2, if_true])
        repeat' first | apply And.intro | intro _
        all_goals
          first
          | trivial
          | omega
          | contradiction
          | (simp (disch := omega) only [setHi, set8i, ofBytes_getD, atD, n31, setK, v_int, Bool.false_eq_true, if_false]
             done)
          | (simp (disch := omega) only [setHi, set8i, ofBytes_getD, atD, n31, setK, v_int, Bool.false_eq_true, if_false]
             rfl)
end Go.Vc
