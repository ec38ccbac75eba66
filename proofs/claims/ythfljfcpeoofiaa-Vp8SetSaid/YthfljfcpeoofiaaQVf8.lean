/-
  The contracts of vp8's reference, each out of its condition.
-/
import Derived.Test.YthfljfcpeoofiaaQVe8
set_option maxRecDepth 100000
namespace Go.Vc
open Go Go.Proofs Go.Plain
abbrev FdSh : Sh := .pair V8Sh (.pair I64 (.pair I64 (.pair I64 (.pair I64 (.pair I64 .unit)))))
def fdP (b : List UInt8) : Nat := if v8E b = 0 then (if v8has b && v8P b then 2 else 0) else 0
def fdL (b : List UInt8) : Nat := if v8E b = 0 then (if v8has b && v8L b then v8lev b else 0) else 0
def fdK (b : List UInt8) : Nat := if v8E b = 0 then (if v8has b && (v8T b || v8K b) then v8key b else 0) else 0
abbrev FdC (b : List UInt8) : C := .ls [V8C (v8D b), .int (v8N b : Nat), .int (fdP b : Nat), .int (fdL b : Nat), .int (fdK b : Nat), .int (v8E b)]
theorem fd_bad {b : List UInt8} {e : Int} (h : v8E b = e) (he : e ≠ 0) : FdC b = .ls [.ls [.bool false, .bool false, .int 0, .bool false, .bool false, .int 0, .bool false, .int 0, .bool false, .bool false, .int 0, .bool false, .int 0], .int 0, .int 0, .int 0, .int 0, .int e] := by
  have h' : ¬ v8E b = 0 := by rw [h]; exact he
  simp only [FdC, v8D, v8N, fdP, fdL, fdK, if_neg h']
  rw [h]
  rfl
theorem fd_ok {b : List UInt8} (h : v8E b = 0) : FdC b = .ls [V8C (V8.of b), .int (v8fin b : Nat), .int ((if v8has b && v8P b then 2 else 0 : Nat) : Int), .int ((if v8has b && v8L b then v8lev b else 0 : Nat) : Int), .int ((if v8has b && (v8T b || v8K b) then v8key b else 0 : Nat) : Int), .int 0] := by
  simp only [FdC, v8D, v8N, fdP, fdL, fdK, if_pos h]
  rw [h]
theorem w8s (n : Nat) (h : n < 9223372036854775808) : IntKind.i64.wrap (n : Int) = (n : Int) := wrapi64_in (by omega)
set_option maxHeartbeats 8000000 in
theorem pc_crossbarref23_Find (b : List UInt8) (hb : b.length ≤ 140737488355328) : PC Try.prog f_crossbarref23_Find [(Byt, B b)] [(FdSh, FdC b)] := by
  apply pcv_crossbarref23_Find rfl
  have i0 : Int.toNat 0 = 0 := rfl
  have i1 : Int.toNat 1 = 1 := rfl
  have i2 : Int.toNat 2 = 2 := rfl
  have i3 : Int.toNat (2 + 1) = 3 := rfl
  have i4 : Int.toNat (2 + 1 + 1) = 4 := rfl
  have i5 : Int.toNat (2 + 1 + 1 + 1) = 5 := rfl
  have c0 : ((at_ b 0 : Nat) : Int) < 128 ↔ v8has b = false := by rw [show v8has b = decide (128 ≤ at_ b 0) from rfl, decide_eq_false_iff_not]; omega
  have c0' : (128 : Int) ≤ ((at_ b 0 : Nat) : Int) ↔ v8has b = true := by rw [show v8has b = decide (128 ≤ at_ b 0) from rfl, decide_eq_true_eq]; omega
  have c1 : (128 : Int) ≤ ((at_ b 1 : Nat) : Int) ↔ v8P b = true := by rw [show v8P b = decide (128 ≤ at_ b 1) from rfl, decide_eq_true_eq]; omega
  have c1' : ((at_ b 1 : Nat) : Int) < 128 ↔ v8P b = false := by rw [show v8P b = decide (128 ≤ at_ b 1) from rfl, decide_eq_false_iff_not]; omega
  have c2 : (128 : Int) ≤ ((at_ b 2 : Nat) : Int) ↔ v8W b = true := by rw [show v8W b = decide (128 ≤ at_ b 2) from rfl, decide_eq_true_eq]; omega
  have c2' : ((at_ b 2 : Nat) : Int) < 128 ↔ v8W b = false := by rw [show v8W b = decide (128 ≤ at_ b 2) from rfl, decide_eq_false_iff_not]; omega
  have cL : ((at_ b 1 / 64 % 2 : Nat) : Int) = 1 ↔ v8L b = true := by rw [show v8L b = decide (at_ b 1 / 64 % 2 = 1) from rfl, decide_eq_true_eq]; omega
  have cT : ((at_ b 1 / 32 % 2 : Nat) : Int) = 1 ↔ v8T b = true := by rw [show v8T b = decide (at_ b 1 / 32 % 2 = 1) from rfl, decide_eq_true_eq]; omega
  have cK : ((at_ b 1 / 16 % 2 : Nat) : Int) = 1 ↔ v8K b = true := by rw [show v8K b = decide (at_ b 1 / 16 % 2 = 1) from rfl, decide_eq_true_eq]; omega
  have l2 := at_lt b 2
  have l3 := at_lt b 3
  have hle : v8lev b = 2 + (if v8P b = true then (if v8W b = true then 2 else 1) else 0) := rfl
  have hke : v8key b = v8lev b + (if v8L b = true then 1 else 0) := rfl
  have hfe : v8fin b = (if v8has b = true then v8key b + (if (v8T b || v8K b) = true then 1 else 0) else 1) := rfl
  have one : ∀ n : Nat, decide (((n : Nat) : Int) = 1) = decide (n = 1) := fun n => by rw [Bool.eq_iff_iff]; simp only [decide_eq_true_eq]; omega
  have eW : v8W b = true → ((((at_ b 2 - 128) * 256 + at_ b 3 : Nat)) : Int) = 256 * (((at_ b 2 : Nat) : Int) - 128) + ((at_ b 3 : Nat) : Int) := fun h => by have := of_decide_eq_true h; omega
  have e2 : b.length < v8fin b → FdC b = .ls [.ls [.bool false, .bool false, .int 0, .bool false, .bool false, .int 0, .bool false, .int 0, .bool false, .bool false, .int 0, .bool false, .int 0], .int 0, .int 0, .int 0, .int 0, .int 2] := fun h => fd_bad (by unfold v8E; rw [if_pos h]) (by decide)
  simp only [vc_crossbarref23_Find, VC.H_asrt, VC.H_cond, VC.H_ret, ev_var, ev_int, ev_bool, ev_nil, ev_cons, ev_bin, ev_add, ev_sub', ev_mul, ev_eql, ev_lss, ev_geq, ev_not, ev_ite, ev_conv, ev_len, ev_idx, ev_fits64, ea_nil, ea_cons, env_zero, List.map_cons, List.map_nil, v_int, v_bool, v_ls, int_ite, bool_ite, pres_nil, pres_cons, orT, orF, andT, andF, notT, notF, decide_eq_true_eq, decide_eq_false_iff_not, forall_const, and_true, true_and, Int.not_lt, Int.not_le, ofBytes_length, ofBytes_getD, i0, i1, i2, i3, i4, i5, atD, q64, q32, q16, r8, r2a, r32, w8, w8m, w8d, c0, c1, c2, cL, cT, cK]
  cases h0 : v8has b with
  | false =>
    simp only [h0, Bool.false_eq_true, if_false] at hfe
    have ok := fun (h : 1 ≤ b.length) => fd_ok (b := b) (by unfold v8E; rw [hfe, if_neg (by omega), h0]; rfl)
    simp only [Bool.false_eq_true, reduceCtorEq, false_implies, true_implies, true_and, one, eq_self]
    refine ⟨fun h => ?_, fun h => ?_⟩
    · rw [e2 (by omega)]
    · refine ⟨by omega, by omega, by omega, by omega, ?_, fun h => ?_⟩
      · rw [ok (by omega)]
        simp only [h0, hfe, V8.of, Bool.false_and, Bool.false_eq_true, if_false]
        rfl
      · exact absurd h (by simp)
  | true =>
    cases hP : v8P b <;> cases hW : v8W b <;> cases hL : v8L b <;> cases hT : v8T b <;> cases hK : v8K b
    all_goals
      simp only [h0, hP, hW, hL, hT, hK, if_true, if_false, Bool.false_eq_true, Bool.or_false, Bool.or_true, Bool.or_self, Nat.add_zero] at hle hke hfe
      rw [hle] at hke
      rw [hke] at hfe
      (try simp only [Nat.reduceAdd] at hle)
      (try simp only [Nat.reduceAdd] at hke)
      (try simp only [Nat.reduceAdd] at hfe)
      simp only [Bool.true_eq_false, Bool.false_eq_true, false_implies, true_implies, and_true, true_and, one, or_true, or_false, or_self, and_false, and_self, not_true_eq_false, not_false_eq_true, decide_true, decide_false]
      have ok := fun (h : v8fin b ≤ b.length) (h' : (v8L b && !v8P b) = false) => fd_ok (b := b) (by unfold v8E; rw [if_neg (by omega), h0, h']; rfl)
      have e6 := fun (h : v8fin b ≤ b.length) (h' : (v8L b && !v8P b) = true) => fd_bad (b := b) (e := 6) (by unfold v8E; rw [if_neg (by omega), h0, h']; rfl) (by decide)
      simp only [hP, hL, Bool.not_true, Bool.not_false, Bool.and_true, Bool.and_false, Bool.and_self, Bool.true_eq_false, Bool.false_eq_true, forall_const, false_implies, eq_self] at ok e6
      (try simp only [Int.reduceAdd, Int.reduceLE, Int.reduceNeg, true_and, and_true])
      repeat' first | apply And.intro | intro _
      all_goals
        first
        | omega
        | (rw [e2 (by omega)]; done)
        | (rw [e6 (by omega)]; done)
        | (rw [ok (by omega)]
           simp only [h0, hfe, hle, hke, V8.of, hP, hW, hL, hT, hK, Bool.true_and, Bool.false_and, Bool.and_true, Bool.and_false, Bool.and_self, Bool.or_true, Bool.or_false, Bool.or_self, Bool.false_eq_true, if_true, if_false]
           first
           | rfl
           | (rw [eW hW]; rfl))
theorem put_nat (b : Bool) (n : Nat) : (if b = true then ((n : Nat) : Int) else 0) = ((n * b.toNat : Nat) : Int) := by cases b <;> simp
set_option maxHeartbeats 4000000 in
theorem pc_crossbarref23_Write (d : V8) (h : d.right) : PC Try.prog f_crossbarref23_Write [(V8Sh, V8C d)] [(Byt, B d.bytes)] := by
  apply pcv_crossbarref23_Write rfl
  simp only [vc_crossbarref23_Write, VC.H_asrt, VC.H_cond, VC.H_ret, VC.H_call1, ev_var, ev_int, ev_bool, ev_nil, ev_cons, ev_hd, ev_tl, ev_bin, ev_add, ev_mul, ev_eql, ev_leq, ev_gtr, ev_ite, ev_conv, ev_len, ev_app, ev_fits64, ea_nil, ea_cons, env_zero, env_succ, env_cons, env_nil, List.map_cons, List.map_nil, v_int, v_bool, v_ls, v_hd, v_tl, bool_ite, pres_nil, orT, orF, decide_eq_true_eq, decide_eq_false_iff_not, forall_const]
  obtain ⟨alone, start, part, hasPic, wide, pic, hasLevel, level, hasTid, hasKey, tid, sync, key⟩ := d
  obtain ⟨h1, h2, h3, h4, h5, h6, h7, h8, h9, h10⟩ := h
  simp only [V8.top] at h1 h2 h3 h4 h5 h6 h7 h8 h9 h10
  obtain ⟨part, rfl⟩ : ∃ n : Nat, part = n := ⟨part.toNat, by omega⟩
  obtain ⟨pic, rfl⟩ : ∃ n : Nat, pic = n := ⟨pic.toNat, by omega⟩
  obtain ⟨level, rfl⟩ : ∃ n : Nat, level = n := ⟨level.toNat, by omega⟩
  obtain ⟨tid, rfl⟩ : ∃ n : Nat, tid = n := ⟨tid.toNat, by omega⟩
  obtain ⟨key, rfl⟩ : ∃ n : Nat, key = n := ⟨key.toNat, by omega⟩
  have ha := bool_le alone
  have hs := bool_le start
  have hy := bool_le sync
  have b1 := bool_le hasPic
  have b2 := bool_le hasLevel
  have b3 := bool_le hasTid
  have b4 := bool_le hasKey
  have hpic : pic ≤ 32767 := by cases wide <;> simp at h2 <;> omega
  have k128 := fun b => put_nat b 128
  have k64 := fun b => put_nat b 64
  have k32 := fun b => put_nat b 32
  have k16 := fun b => put_nat b 16
  simp only [Int.cast_ofNat_Int] at k128 k64 k32 k16
  refine ⟨_, pc_crossbarref23_put hasPic 128, _, pc_crossbarref23_put hasLevel 64, ?_⟩
  simp only [v_int, k128, k64]
  refine ⟨by omega, _, pc_crossbarref23_put hasTid 32, ?_⟩
  simp only [v_int, k32]
  refine ⟨by omega, _, pc_crossbarref23_put hasKey 16, ?_⟩
  simp only [v_int, k16]
  refine ⟨by omega, _, pc_crossbarref23_put _ 128, _, pc_crossbarref23_put alone 32, ?_⟩
  simp only [v_int, k128, k32]
  have b5 := bool_le (decide ((0 : Int) < ((128 * hasPic.toNat : Nat) : Int) + ((64 * hasLevel.toNat : Nat) : Int) + ((32 * hasTid.toNat : Nat) : Int) + ((16 * hasKey.toNat : Nat) : Int)))
  refine ⟨by omega, _, pc_crossbarref23_put start 16, ?_⟩
  simp only [v_int, k16]
  refine ⟨by omega, by omega, ?_⟩
  have q1 : arith .quo .i64 ((pic : Nat) : Int) 256 = ((pic / 256 : Nat) : Int) := by rw [arith_quo _ _ _ (by omega), wrapi64_in (by omega)]; omega
  have q2 : arith .rem .i64 ((pic : Nat) : Int) 256 = ((pic % 256 : Nat) : Int) := by rw [arith_rem _ _ _ (by omega)]; omega
  rw [q1, q2]
  clear b5
  cases hasPic <;> cases wide <;> cases hasLevel <;> cases hasTid <;> cases hasKey
  all_goals
    simp only [Bool.toNat_true, Bool.toNat_false, Int.cast_ofNat_Int, Int.reduceAdd, Int.reduceEq, Int.reduceLT, Nat.mul_one, Nat.mul_zero, decide_true, decide_false, not_true_eq_false, not_false_eq_true, false_implies, true_implies, and_true, true_and, or_true, or_false, and_false, and_self, or_self, Bool.false_eq_true, reduceCtorEq, List.length_cons, List.length_nil, Nat.reduceAdd, Nat.zero_add, Int.reduceMul, Int.reduceLE]
    (try refine And.intro (by omega) ?_)
    (try refine And.intro (by omega) ?_)
    (try (refine Exists.intro _ (And.intro (pc_crossbarref23_put sync 32) ?_); simp only [v_int, k32]))
    (try refine And.intro (by omega) ?_)
    (try refine And.intro (by omega) ?_)
    simp only [V8.bytes, V8.more, V8.first, V8.picB, V8.levB, V8.keyB, V8.keyN, Bool.toNat_true, Bool.toNat_false, Nat.reduceMul, Nat.reduceAdd, if_true, if_false, Bool.false_eq_true, reduceCtorEq, Bool.or_true, Bool.or_false, Bool.or_self, Int.toNat_natCast, List.nil_append, List.cons_append]
    simp only [B, ofBytes, List.map_cons, List.map_nil, UInt8.toNat_ofNat', Nat.reducePow, wrapu8, Prod.mk.injEq, List.cons.injEq, C.ls.injEq, C.int.injEq, and_true, true_and]
    (repeat' apply And.intro) <;> omega
theorem v8D_right {b : List UInt8} (h : v8E b = 0) : (v8D b).right := by rw [v8D, if_pos h]; exact v8_right b h
theorem pc_vp8_Canon (b : List UInt8) (hb : b.length ≤ 140737488355328) : PC Try.prog f_vp8_Canon [(Byt, B b)] [(.bool, .bool (decide (v8E b = 0 ∧ (V8.of b).bytes = b.take (v8fin b))))] := by
  apply pcv_vp8_Canon rfl
  simp only [vc_vp8_Canon, VC.H_asrt, VC.H_cond, VC.H_ret, VC.H_call1, VC.H_call2, VC.H_call3, ev_var, ev_int, ev_bool, ev_nil, ev_cons, ev_hd, ev_tl, ev_eql, ev_neq, ev_leq, ev_ite, ev_len, ev_sub, ea_nil, ea_cons, env_zero, env_succ, env_cons, env_nil, List.map_cons, List.map_nil, v_int, v_bool, v_ls, pres_nil, pres_cons, nnE, decide_eq_true_eq, decide_eq_false_iff_not, forall_const, and_true, ofBytes_length]
  refine ⟨_, _, _, pc_vp8_Read b hb, fun h => ?_, fun h => ?_⟩
  · have h : ¬ v8E b = 0 := by simpa using h
    simp [h]
  · have h : v8E b = 0 := by simpa using h
    have hf := (v8E_zero h).1
    have e1 : v8wE (v8D b) = 0 := if_pos (v8D_right h)
    have e2 : v8wB (v8D b) = (V8.of b).bytes := by rw [v8wB, if_pos (v8D_right h), v8D, if_pos h]
    have e3 : v8N b = v8fin b := if_pos h
    have e4 : List.drop (0 : Int).toNat (List.take ((v8fin b : Nat) : Int).toNat (ofBytes b)) = ofBytes (b.take (v8fin b)) := by
      rw [Int.toNat_natCast, ofBytes_take]
      rfl
    refine ⟨_, _, pc_vp8_Write (v8D b), ?_⟩
    rw [e1, e2, e3]
    simp only [v_int, e4]
    refine ⟨fun _ => by omega, fun _ => by omega, _, fun _ => pc_bytes_Equal _ _, ?_⟩
    simp [h]
theorem pc_crossbarref23_Canon (b : List UInt8) (hb : b.length ≤ 140737488355328) : PC Try.prog f_crossbarref23_Canon [(Byt, B b)] [(.bool, .bool (decide (v8E b = 0 ∧ (V8.of b).bytes = b.take (v8fin b))))] := by
  apply pcv_crossbarref23_Canon rfl
  simp only [vc_crossbarref23_Canon, VC.H_asrt, VC.H_ret, VC.H_call1, ev_var, ev_int, ev_bool, ev_nil, ev_cons, ev_hd, ev_tl, ev_eql, ev_leq, ev_seql, ev_ite, ev_len, ev_sub, ev_toStr, ea_nil, ea_cons, env_zero, env_succ, env_cons, env_nil, List.map_cons, List.map_nil, v_int, v_bool, v_str, v_ls, bool_ite, pres_nil, pres_cons, decide_eq_true_eq, forall_const, and_true, ofBytes_length]
  refine ⟨_, pc_crossbarref23_Find b hb, ?_⟩
  by_cases h : v8E b = 0
  · have hf := (v8E_zero h).1
    have e4 : List.drop (0 : Int).toNat (List.take ((v8fin b : Nat) : Int).toNat (ofBytes b)) = ofBytes (b.take (v8fin b)) := by
      rw [Int.toNat_natCast, ofBytes_take]
      rfl
    rw [fd_ok h]
    simp only [v_hd, v_tl, v_int, e4]
    refine ⟨_, fun _ => pc_crossbarref23_Write (V8.of b) (v8_right b h), fun _ => by omega, fun _ => by omega, ?_⟩
    simp [h, bytesOf_ofBytes]
  · refine ⟨.ls [], fun hc => ?_, fun hc => ?_, fun hc => ?_, ?_⟩
    · exact absurd (by simpa using hc) h
    · exact absurd (by simpa using hc) h
    · exact absurd (by simpa using hc) h
    · simp [h]
end Go.Vc
