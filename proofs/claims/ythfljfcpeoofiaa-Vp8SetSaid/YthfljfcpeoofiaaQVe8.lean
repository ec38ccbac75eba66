/-
  The contracts of vp8's writing, each out of its condition.
-/
import Derived.Test.YthfljfcpeoofiaaQVd8
set_option maxRecDepth 100000
namespace Go.Vc
open Go Go.Proofs Go.Plain
theorem or4 (a b c d : Bool) : arith .or .u8 (arith .or .u8 (arith .or .u8 (if a = true then 128 else 0) (if b = true then 64 else 0)) (if c = true then 32 else 0)) (if d = true then 16 else 0) = ((128 * a.toNat + 64 * b.toNat + 32 * c.toNat + 16 * d.toNat : Nat) : Int) := by
  cases a <;> cases b <;> cases c <;> cases d <;> decide
theorem orFst : ∀ (p : Nat), p < 8 → ∀ (m a s : Bool), arith .or .u8 (arith .or .u8 (arith .or .u8 (if m = true then 128 else 0) (if a = true then 32 else 0)) (if s = true then 16 else 0)) (IntKind.u8.wrap (p : Int)) = ((128 * m.toNat + 32 * a.toNat + 16 * s.toNat + p : Nat) : Int) := by decide +kernel
theorem orKey : ∀ (t : Nat), t < 4 → ∀ (k : Nat), k < 32 → ∀ s : Bool, arith .or .u8 (arith .or .u8 (arith .shl .u8 (IntKind.u8.wrap (t : Int)) 6) (if s = true then 32 else 0)) (IntKind.u8.wrap (k : Int)) = ((64 * t + 32 * s.toNat + k : Nat) : Int) := by decide +kernel
theorem one8 (n : Nat) (h : n < 256) : [C.int ((n : Nat) : Int)] = ofBytes [UInt8.ofNat n] := by
  simp only [ofBytes, List.map_cons, List.map_nil, ofNat_toNat h]
theorem one8w (n : Nat) : [C.int (IntKind.u8.wrap ((n : Nat) : Int))] = ofBytes [UInt8.ofNat n] := by
  simp only [ofBytes, List.map_cons, List.map_nil, UInt8.toNat_ofNat', wrapu8]
  rfl
theorem orW (n : Nat) (h : n < 32768) : arith .or .u64 (IntKind.u64.wrap ((n : Nat) : Int)) 32768 = ((32768 + n : Nat) : Int) := by
  have e1 : IntKind.u64.wrap ((n : Nat) : Int) = ((n : Nat) : Int) := by rw [wrapu64]; omega
  rw [e1, show (32768 : Int) = ((32768 : Nat) : Int) by rfl, arith_orU rfl (by show _ < 2 ^ 64; omega) (by decide)]
  have := or_add 1 15 n (by omega)
  rw [Nat.or_comm, show 32768 = 1 * 2 ^ 15 by rfl, this]
def v8wB (d : V8) : List UInt8 := if d.right then d.bytes else []
def v8wE (d : V8) : Int := if d.right then 0 else 1
set_option maxHeartbeats 4000000 in
theorem pc_vp8_Write (d : V8) : PC Try.prog f_vp8_Write [(V8Sh, V8C d)] [(Byt, B (v8wB d)), (I64, .int (v8wE d))] := by
  apply pcv_vp8_Write rfl
  simp only [vc_vp8_Write, VC.H_asrt, VC.H_cond, VC.H_ret, VC.H_call1, VC.H_call2, ev_var, ev_int, ev_bool, ev_nil, ev_nilS, ev_cons, ev_hd, ev_tl, ev_bin, ev_add, ev_mul, ev_eql, ev_neq, ev_leq, ev_not, ev_ite, ev_conv, ev_len, ev_app, ea_nil, ea_cons, env_zero, env_succ, env_cons, env_nil, List.map_cons, List.map_nil, v_int, v_bool, v_ls, v_hd, v_tl, bool_ite, pres_nil, orT, orF, andT, andF, notT, notF, decide_eq_true_eq, decide_eq_false_iff_not, forall_const]
  refine ⟨_, pc_vp8_Right d, fun h => ?_, fun h => ?_⟩
  · have h : ¬ d.right := by simpa using h
    rw [v8wB, v8wE, if_neg h, if_neg h]
    rfl
  · have h : d.right := by simpa using h
    rw [v8wB, v8wE, if_pos h, if_pos h]
    obtain ⟨alone, start, part, hasPic, wide, pic, hasLevel, level, hasTid, hasKey, tid, sync, key⟩ := d
    obtain ⟨h1, h2, h3, h4, h5, h6, h7, h8, h9, h10⟩ := h
    simp only [V8.top] at h1 h2 h3 h4 h5 h6 h7 h8 h9 h10
    obtain ⟨part, rfl⟩ : ∃ n : Nat, part = n := ⟨part.toNat, by omega⟩
    obtain ⟨pic, rfl⟩ : ∃ n : Nat, pic = n := ⟨pic.toNat, by omega⟩
    obtain ⟨level, rfl⟩ : ∃ n : Nat, level = n := ⟨level.toNat, by omega⟩
    obtain ⟨tid, rfl⟩ : ∃ n : Nat, tid = n := ⟨tid.toNat, by omega⟩
    obtain ⟨key, rfl⟩ : ∃ n : Nat, key = n := ⟨key.toNat, by omega⟩
    refine ⟨_, pc_vp8_flag hasPic 128, _, pc_vp8_flag hasLevel 64, _, pc_vp8_flag hasTid 32, _, pc_vp8_flag hasKey 16, ?_⟩
    simp only [v_int, or4]
    refine ⟨_, pc_vp8_flag _ 128, _, pc_vp8_flag alone 32, _, pc_vp8_flag start 16, ?_⟩
    simp only [v_int]
    rw [orFst part (by omega)]
    have ha := bool_le alone
    have hs := bool_le start
    have hpic : pic ≤ 32767 := by cases wide <;> simp at h2 <;> omega
    have pw := pc_octet_Put (32768 + pic) 2 (by omega)
    have pe : putE (32768 + pic) 2 = 0 := by rw [putE_zero]; refine ⟨by omega, by omega, ?_⟩; show _ < 65536; omega
    have pb : putB (32768 + pic) 2 = [UInt8.ofNat (128 + pic / 256), UInt8.ofNat pic] := by
      rw [putB, if_pos pe]
      show toBE 2 (32768 + pic) = _
      simp only [toBE, List.nil_append, List.cons_append]
      congr 1
      · apply UInt8.toNat_inj.1
        simp only [UInt8.toNat_ofNat']
        omega
      · congr 1
        apply UInt8.toNat_inj.1
        simp only [UInt8.toNat_ofNat']
        omega
    rw [pb] at pw
    have ow := orW pic (by omega)
    have ok := orKey tid (by omega) key (by omega)
    have hy := bool_le sync
    cases hasPic <;> cases wide <;> cases hasLevel <;> cases hasTid <;> cases hasKey
    all_goals
      simp only [Bool.toNat_true, Bool.toNat_false, Nat.reduceMul, Nat.reduceAdd, Int.cast_ofNat_Int, Int.reduceEq, decide_true, decide_false, not_true_eq_false, not_false_eq_true, false_implies, true_implies, and_true, true_and, ne_eq, or_true, or_false, and_false, and_self, or_self, Bool.false_eq_true, reduceCtorEq]
      (try rw [ow])
      (try simp only [List.length_cons, List.length_nil, Nat.zero_add, Int.cast_ofNat_Int, Int.reduceAdd, Int.reduceMul, Int.reduceLE, true_and])
      (try (refine Exists.intro _ (Exists.intro _ (And.intro pw ?_)); simp only [List.length_cons, List.length_nil, Nat.reduceAdd, Nat.zero_add, Int.cast_ofNat_Int, Int.reduceAdd, Int.reduceMul, Int.reduceLE, true_and, v_ls, ofBytes_length]))
      (try (refine Exists.intro _ (And.intro (pc_vp8_flag sync 32) ?_); simp only [v_int]))
      simp only [V8.bytes, V8.more, V8.first, V8.picB, V8.levB, V8.keyB, V8.keyN, Bool.toNat_true, Bool.toNat_false, Nat.reduceMul, Nat.reduceAdd, if_true, if_false, Bool.false_eq_true, reduceCtorEq, Bool.or_true, Bool.or_false, Bool.or_self, Int.toNat_natCast, ofBytes, List.map_cons, List.map_nil, List.nil_append, List.cons_append, UInt8.toNat_ofNat', Nat.reducePow]
      (try rw [ok])
      simp only [B, ofBytes, List.map_cons, List.map_nil, UInt8.toNat_ofNat', Nat.reducePow, wrapu8, Prod.mk.injEq, List.cons.injEq, C.ls.injEq, C.int.injEq, and_true, true_and]
      (repeat' apply And.intro) <;> omega
end Go.Vc
