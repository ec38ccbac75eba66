/-
  The contracts of the functions of vp8 and of its reference, each out of its condition.
-/
import Derived.Test.YthfljfcpeoofiaaQVv
import Derived.Test.YthfljfcpeoofiaaQOc
import Derived.Test.YthfljfcpeoofiaaQBase3
set_option maxRecDepth 100000
namespace Go.Vc
open Go Go.Proofs Go.Plain
abbrev V8Sh : Sh := .pair .bool (.pair .bool (.pair I64 (.pair .bool (.pair .bool (.pair I64 (.pair .bool (.pair I64 (.pair .bool (.pair .bool (.pair I64 (.pair .bool (.pair I64 .unit))))))))))))
abbrev V8C (d : V8) : C := .ls [.bool d.alone, .bool d.start, .int d.part, .bool d.hasPic, .bool d.wide, .int d.pic, .bool d.hasLevel, .int d.level, .bool d.hasTid, .bool d.hasKey, .int d.tid, .bool d.sync, .int d.key]
theorem pn_bytes_Clone (b : List UInt8) (hb : b.length ≤ 140737488355328) : PC Try.prog n_bytes_Clone [(Byt, B b)] [(Byt, B b)] := by
  apply pcn_bytes_Clone rfl
  simp only [vn_bytes_Clone, VC.H_asrt, VC.H_amb, VC.H_ret, ev_var, ev_int, ev_nil, ev_nilS, ev_add, ev_mul, ev_leq, ev_len, ev_app, ea_nil, ea_cons, env_zero, env_nil, List.map_cons, List.map_nil, v_int, v_bool, v_ls, pres_nil, decide_eq_true_eq, forall_const, and_true, ofBytes_length]
  refine ⟨fun h => ?_, by omega⟩
  show [(_, C.ls [])] = [(_, C.ls (ofBytes b))]
  rw [h]
theorem pc_bytes_Equal (a b : List UInt8) : PC Try.prog f_bytes_Equal [(Byt, B a), (Byt, B b)] [(.bool, .bool (decide (a = b)))] := by
  apply pcv_bytes_Equal rfl
  simp only [vc_bytes_Equal, VC.H_ret, ev_var, ev_seql, ev_toStr, ea_nil, ea_cons, env_zero, env_succ, List.map_cons, List.map_nil, v_str, v_ls, bytesOf_ofBytes]
theorem pc_vp8_within (v m : Int) : PC Try.prog f_vp8_within [(I64, .int v), (I64, .int m)] [(.bool, .bool (decide (0 ≤ v ∧ v ≤ m)))] := by
  apply pcv_vp8_within rfl
  simp only [vc_vp8_within, VC.H_ret, ev_var, ev_int, ev_bool, ev_leq, ev_geq, ev_ite, ea_nil, ea_cons, env_zero, env_succ, List.map_cons, List.map_nil, v_int, v_bool, bool_ite, decide_eq_true_eq]
  congr 3
  rw [Bool.eq_iff_iff]
  simp only [andT, decide_eq_true_eq]
theorem pc_vp8_most (w : Bool) : PC Try.prog f_vp8_most [(.bool, .bool w)] [(I64, .int (if w then 32767 else 127))] := by
  apply pcv_vp8_most rfl
  simp only [vc_vp8_most, VC.H_cond, VC.H_ret, ev_var, ev_int, ea_nil, ea_cons, env_zero, List.map_cons, List.map_nil, v_bool]
  cases w <;> simp
theorem pc_vp8_flag (w : Bool) (n : Int) : PC Try.prog f_vp8_flag [(.bool, .bool w), (.int .u8, .int n)] [(.int .u8, .int (if w then n else 0))] := by
  apply pcv_vp8_flag rfl
  simp only [vc_vp8_flag, VC.H_cond, VC.H_ret, ev_var, ev_int, ea_nil, ea_cons, env_zero, env_succ, List.map_cons, List.map_nil, v_bool]
  cases w <;> simp
theorem pc_crossbarref23_put (w : Bool) (n : Int) : PC Try.prog f_crossbarref23_put [(.bool, .bool w), (I64, .int n)] [(I64, .int (if w then n else 0))] := by
  apply pcv_crossbarref23_put rfl
  simp only [vc_crossbarref23_put, VC.H_cond, VC.H_ret, ev_var, ev_int, ea_nil, ea_cons, env_zero, env_succ, List.map_cons, List.map_nil, v_bool]
  cases w <;> simp
theorem pc_vp8_Right (d : V8) : PC Try.prog f_vp8_Right [(V8Sh, V8C d)] [(.bool, .bool (decide d.right))] := by
  apply pcv_vp8_Right rfl
  simp only [vc_vp8_Right, VC.H_cond, VC.H_ret, VC.H_call1, ev_var, ev_int, ev_bool, ev_hd, ev_tl, ev_neq, ev_not, ev_ite, ea_nil, ea_cons, env_zero, env_succ, env_cons, env_nil, List.map_cons, List.map_nil, v_int, v_bool, v_hd, v_tl, bool_ite, pres_nil, pres_cons, orT, orF, andT, andF, notT, notF, nnE, decide_eq_true_eq, decide_eq_false_iff_not, forall_const, and_true]
  refine ⟨_, pc_vp8_within d.part 7, _, fun _ => pc_vp8_most d.wide, _, fun _ => pc_vp8_within d.pic _, _, fun _ => pc_vp8_within d.level 255, ?_⟩
  obtain ⟨alone, start, part, hasPic, wide, pic, hasLevel, level, hasTid, hasKey, tid, sync, key⟩ := d
  simp only [v_bool]
  refine ⟨fun h => ?_, fun h => ⟨_, pc_vp8_within tid 3, _, fun _ => pc_vp8_within key 31, fun h2 => ?_, fun h2 => ⟨fun h3 => ?_, fun h3 => ⟨fun h4 => ?_, fun h4 => ?_⟩⟩⟩⟩
  all_goals
    congr 3
    rw [Bool.eq_iff_iff]
    simp only [v_bool, V8.right, V8.top, decide_eq_true_eq, decide_eq_false_iff_not, Bool.false_eq_true, false_iff] at *
    cases hasPic <;> cases wide <;> cases hasLevel <;> cases hasTid <;> cases hasKey <;> cases sync <;> simp at * <;> omega
theorem pc_crossbarref23_Right (d : V8) : PC Try.prog f_crossbarref23_Right [(V8Sh, V8C d)] [(.bool, .bool (decide d.right))] := by
  apply pcv_crossbarref23_Right rfl
  simp only [vc_crossbarref23_Right, VC.H_cond, VC.H_ret, ev_var, ev_int, ev_bool, ev_hd, ev_tl, ev_eql, ev_neq, ev_lss, ev_gtr, ev_geq, ev_not, ev_ite, ea_nil, ea_cons, env_zero, List.map_cons, List.map_nil, v_int, v_bool, v_hd, v_tl, bool_ite, orT, orF, andT, andF, notT, notF, nnE, decide_eq_true_eq, decide_eq_false_iff_not, Int.not_lt]
  obtain ⟨alone, start, part, hasPic, wide, pic, hasLevel, level, hasTid, hasKey, tid, sync, key⟩ := d
  refine ⟨fun h => ?_, fun h => ⟨fun h2 => ?_, fun h2 => ⟨fun h3 => ?_, fun h3 => ⟨fun h4 => ?_, fun h4 => ?_⟩⟩⟩⟩
  all_goals
    congr 3
    rw [Bool.eq_iff_iff]
    simp only [V8.right, V8.top] at *
    cases hasPic <;> cases wide <;> cases hasLevel <;> cases hasTid <;> cases hasKey <;> cases sync <;> simp at * <;> omega
theorem b8 : ∀ x : Nat, x < 256 → arith .and .u8 x 128 = ((x / 128 * 128 : Nat) : Int) ∧ arith .and .u8 x 64 = ((x / 64 % 2 * 64 : Nat) : Int) ∧ arith .and .u8 x 48 = ((x / 16 % 4 * 16 : Nat) : Int) ∧ arith .and .u8 x 32 = ((x / 32 % 2 * 32 : Nat) : Int) ∧
    arith .and .u8 x 16 = ((x / 16 % 2 * 16 : Nat) : Int) ∧ arith .and .u8 x 7 = ((x % 8 : Nat) : Int) ∧ arith .andNot .u8 x 128 = ((x % 128 : Nat) : Int) ∧ arith .shr .u8 x 6 = ((x / 64 : Nat) : Int) ∧ arith .and .u8 x 31 = ((x % 32 : Nat) : Int) ∧
    arith .andNot .u8 x 31 = ((x / 32 * 32 : Nat) : Int) ∧ arith .quo .u8 x 64 = ((x / 64 : Nat) : Int) ∧ arith .quo .u8 x 32 = ((x / 32 : Nat) : Int) ∧ arith .quo .u8 x 16 = ((x / 16 : Nat) : Int) ∧ arith .rem .u8 x 8 = ((x % 8 : Nat) : Int) ∧
    arith .rem .u8 x 2 = ((x % 2 : Nat) : Int) ∧ arith .rem .u8 x 32 = ((x % 32 : Nat) : Int) := by decide +kernel
section
variable (b : List UInt8) (i : Nat)
theorem a128 : arith .and .u8 (at_ b i : Nat) 128 = ((at_ b i / 128 * 128 : Nat) : Int) := (b8 _ (at_lt b i)).1
theorem a64 : arith .and .u8 (at_ b i : Nat) 64 = ((at_ b i / 64 % 2 * 64 : Nat) : Int) := (b8 _ (at_lt b i)).2.1
theorem a48 : arith .and .u8 (at_ b i : Nat) 48 = ((at_ b i / 16 % 4 * 16 : Nat) : Int) := (b8 _ (at_lt b i)).2.2.1
theorem a32 : arith .and .u8 (at_ b i : Nat) 32 = ((at_ b i / 32 % 2 * 32 : Nat) : Int) := (b8 _ (at_lt b i)).2.2.2.1
theorem a16 : arith .and .u8 (at_ b i : Nat) 16 = ((at_ b i / 16 % 2 * 16 : Nat) : Int) := (b8 _ (at_lt b i)).2.2.2.2.1
theorem a7 : arith .and .u8 (at_ b i : Nat) 7 = ((at_ b i % 8 : Nat) : Int) := (b8 _ (at_lt b i)).2.2.2.2.2.1
theorem n128 : arith .andNot .u8 (at_ b i : Nat) 128 = ((at_ b i % 128 : Nat) : Int) := (b8 _ (at_lt b i)).2.2.2.2.2.2.1
theorem s6 : arith .shr .u8 (at_ b i : Nat) 6 = ((at_ b i / 64 : Nat) : Int) := (b8 _ (at_lt b i)).2.2.2.2.2.2.2.1
theorem a31 : arith .and .u8 (at_ b i : Nat) 31 = ((at_ b i % 32 : Nat) : Int) := (b8 _ (at_lt b i)).2.2.2.2.2.2.2.2.1
theorem n31 : arith .andNot .u8 (at_ b i : Nat) 31 = ((at_ b i / 32 * 32 : Nat) : Int) := (b8 _ (at_lt b i)).2.2.2.2.2.2.2.2.2.1
theorem q64 : arith .quo .u8 (at_ b i : Nat) 64 = ((at_ b i / 64 : Nat) : Int) := (b8 _ (at_lt b i)).2.2.2.2.2.2.2.2.2.2.1
theorem q32 : arith .quo .u8 (at_ b i : Nat) 32 = ((at_ b i / 32 : Nat) : Int) := (b8 _ (at_lt b i)).2.2.2.2.2.2.2.2.2.2.2.1
theorem q16 : arith .quo .u8 (at_ b i : Nat) 16 = ((at_ b i / 16 : Nat) : Int) := (b8 _ (at_lt b i)).2.2.2.2.2.2.2.2.2.2.2.2.1
theorem r8 : arith .rem .u8 (at_ b i : Nat) 8 = ((at_ b i % 8 : Nat) : Int) := (b8 _ (at_lt b i)).2.2.2.2.2.2.2.2.2.2.2.2.2.1
theorem r32 : arith .rem .u8 (at_ b i : Nat) 32 = ((at_ b i % 32 : Nat) : Int) := (b8 _ (at_lt b i)).2.2.2.2.2.2.2.2.2.2.2.2.2.2.2
theorem r2 (k : Nat) (hk : k < 256) : arith .rem .u8 (k : Nat) 2 = ((k % 2 : Nat) : Int) := (b8 k hk).2.2.2.2.2.2.2.2.2.2.2.2.2.2.1
theorem w8 : IntKind.i64.wrap (at_ b i : Nat) = ((at_ b i : Nat) : Int) := by have := at_lt b i; exact wrapi64_in (by omega)
end
theorem r2a (b : List UInt8) (i k : Nat) : arith .rem .u8 ((at_ b i / k : Nat) : Int) 2 = ((at_ b i / k % 2 : Nat) : Int) := r2 _ (Nat.lt_of_le_of_lt (Nat.div_le_self _ _) (at_lt b i))
theorem w8m (b : List UInt8) (i k : Nat) : IntKind.i64.wrap ((at_ b i % k : Nat) : Int) = ((at_ b i % k : Nat) : Int) := by
  have h := Nat.lt_of_le_of_lt (Nat.mod_le (at_ b i) k) (at_lt b i)
  exact wrapi64_in (by omega)
theorem w8d (b : List UInt8) (i k : Nat) : IntKind.i64.wrap ((at_ b i / k : Nat) : Int) = ((at_ b i / k : Nat) : Int) := by
  have h := Nat.lt_of_le_of_lt (Nat.div_le_self (at_ b i) k) (at_lt b i)
  generalize at_ b i / k = n at h
  exact wrapi64_in (by omega)
theorem atD (b : List UInt8) (i : Nat) : (((b.getD i 0).toNat : Nat) : Int) = (at_ b i : Int) := rfl
theorem v8lev_eq (b : List UInt8) : v8lev b = 2 + (if 128 ≤ at_ b 1 then (if 128 ≤ at_ b 2 then 2 else 1) else 0) := by simp only [v8lev, v8P, v8W, decide_eq_true_eq]
theorem v8key_eq (b : List UInt8) : v8key b = v8lev b + (if at_ b 1 / 64 % 2 = 1 then 1 else 0) := by simp only [v8key, v8L, decide_eq_true_eq]
theorem v8fin_eq (b : List UInt8) : v8fin b = if 128 ≤ at_ b 0 then v8key b + (if at_ b 1 / 32 % 2 = 1 ∨ at_ b 1 / 16 % 2 = 1 then 1 else 0) else 1 := by simp only [v8fin, v8has, v8T, v8K, Bool.or_eq_true, decide_eq_true_eq]
def spL (b : List UInt8) : List Int := if v8E b = 0 then [if v8has b then 1 else 0, if v8has b && v8P b then 2 else 0, if v8has b && v8L b then v8lev b else (0 : Nat), if v8has b && (v8T b || v8K b) then v8key b else (0 : Nat), (v8fin b : Nat)] else [0, 0, 0, 0, 0]
abbrev SpSh : Sh := .pair I64 (.pair I64 (.pair I64 (.pair I64 (.pair I64 .unit))))
abbrev SpC (b : List UInt8) : C := .ls ((spL b).map .int)
theorem sp_bad {b : List UInt8} {e : Int} (h : v8E b = e) (he : e ≠ 0) : SpC b = .ls [.int 0, .int 0, .int 0, .int 0, .int 0] := by
  unfold SpC spL
  rw [if_neg (by rw [h]; exact he)]
  rfl
set_option maxHeartbeats 4000000 in
theorem pc_vp8_find (b : List UInt8) : PC Try.prog f_vp8_find [(Byt, B b)] [(SpSh, SpC b), (I64, .int (v8E b))] := by
  apply pcv_vp8_find rfl
  have i0 : Int.toNat 0 = 0 := rfl
  have i1 : Int.toNat 1 = 1 := rfl
  have i2 : Int.toNat 2 = 2 := rfl
  have l0 := at_lt b 0
  have l1 := at_lt b 1
  have l2 := at_lt b 2
  simp only [vc_vp8_find, VC.H_asrt, VC.H_cond, VC.H_ret, ev_var, ev_int, ev_bool, ev_nil, ev_cons, ev_bin, ev_add, ev_eql, ev_neq, ev_lss, ev_ite, ev_len, ev_idx, ev_fits64, ea_nil, ea_cons, env_zero, List.map_cons, List.map_nil, v_int, v_bool, v_ls, int_ite, bool_ite, pres_nil, pres_cons, andT, andF, nnE, decide_eq_true_eq, decide_eq_false_iff_not, forall_const, and_true, Int.not_lt, ofBytes_length, ofBytes_getD, i0, i1, i2, atD, a128, a64, a48]
  have hf := v8fin_eq b
  have e2 : b.length < v8fin b → [(SpSh, C.ls [.int 0, .int 0, .int 0, .int 0, .int 0]), (I64, C.int 2)] = [(SpSh, SpC b), (I64, .int (v8E b))] := fun h => by
    have e : v8E b = 2 := by unfold v8E; rw [if_pos h]
    rw [sp_bad e (by decide), e]
  have e0 : ∀ {p q r s : Int}, v8fin b ≤ b.length → ¬ (128 ≤ at_ b 0 ∧ at_ b 1 / 64 % 2 = 1 ∧ at_ b 1 < 128) → p = (if 128 ≤ at_ b 0 then 1 else 0) → q = (if 128 ≤ at_ b 0 ∧ 128 ≤ at_ b 1 then 2 else 0) →
      r = (if 128 ≤ at_ b 0 ∧ at_ b 1 / 64 % 2 = 1 then ((v8lev b : Nat) : Int) else 0) → s = (if 128 ≤ at_ b 0 ∧ (at_ b 1 / 32 % 2 = 1 ∨ at_ b 1 / 16 % 2 = 1) then ((v8key b : Nat) : Int) else 0) →
      ∀ t : Int, t = v8fin b → [(SpSh, C.ls [.int p, .int q, .int r, .int s, .int t]), (I64, C.int 0)] = [(SpSh, SpC b), (I64, .int (v8E b))] := by
    intro p q r s h1 h2 h3 h4 h5 h6 t h7
    have e : v8E b = 0 := by
      unfold v8E
      rw [if_neg (by omega), if_neg]
      simp only [v8has, v8L, v8P, Bool.and_eq_true, decide_eq_true_eq, Bool.not_eq_true', decide_eq_false_iff_not]
      omega
    rw [e]
    simp only [SpC, spL, e, if_true, h3, h4, h5, h6, h7, v8has, v8P, v8L, v8T, v8K, Bool.and_eq_true, Bool.or_eq_true, decide_eq_true_eq, List.map_cons, List.map_nil]
    congr 3
  have hl := v8lev_eq b
  have hk := v8key_eq b
  refine ⟨fun h1 => ?_, fun h1 => ⟨by omega, fun h2 => ?_, fun h2 => ⟨fun h3 => ?_, fun h3 => ⟨by omega, fun h4 => ⟨by omega, fun h5 => ?_, fun h5 => ⟨by omega, fun _ => by omega, fun _ => ?_, fun _ => ?_, fun h6 => ?_, fun h6 => ⟨fun h7 => ?_, fun h7 => ?_⟩⟩⟩, fun h4 => ⟨fun _ => by omega, fun _ => ?_, fun h6 => ?_, fun h6 => ⟨fun h7 => ?_, fun h7 => ?_⟩⟩⟩⟩⟩⟩
  · exact e2 (by rw [hf, hk, hl]; (repeat' split) <;> omega)
  · exact e0 (by rw [hf, if_neg (by omega)]; omega) (by omega) (by rw [if_neg (by omega)]) (by rw [if_neg (by omega)]) (by rw [if_neg (by omega)]) (by rw [if_neg (by omega)]) _ (by rw [hf, if_neg (by omega)]; rfl)
  · exact e2 (by rw [hf, hk, hl]; (repeat' split) <;> omega)
  · exact e2 (by rw [hf, hk, hl]; (repeat' split) <;> omega)
  · (repeat' split) <;> omega
  · (repeat' split) <;> omega
  · exact e2 (by rw [hf, hk, hl]; revert h6; (repeat' split) <;> omega)
  · exfalso; revert h7; (repeat' split) <;> omega
  · exact e0 (by rw [hf, hk, hl]; revert h6; (repeat' split) <;> omega) (by omega) (by rw [if_pos (by omega)]) (by rw [if_pos (by omega)]) (by rw [hl]; (repeat' split) <;> omega) (by rw [hk, hl]; (repeat' split) <;> omega) _ (by rw [hf, hk, hl]; (repeat' split) <;> omega)
  · (repeat' split) <;> omega
  · exact e2 (by rw [hf, hk, hl]; revert h6; (repeat' split) <;> omega)
  · have e : v8E b = 6 := by
      unfold v8E
      rw [if_neg (by rw [hf, hk, hl]; revert h6 h7; (repeat' split) <;> omega), if_pos]
      simp only [v8has, v8L, v8P, Bool.and_eq_true, decide_eq_true_eq, Bool.not_eq_true', decide_eq_false_iff_not]
      revert h7
      (repeat' split) <;> omega
    rw [sp_bad e (by decide), e]
  · have h7 := h7.resolve_right (fun h => h trivial)
    exact e0 (by rw [hf, hk, hl]; revert h6; (repeat' split) <;> omega) (by revert h7; (repeat' split) <;> omega) (by rw [if_pos (by omega)]) (by rw [if_neg (by omega)]) (by rw [hl]; revert h7; (repeat' split) <;> omega) (by rw [hk, hl]; (repeat' split) <;> omega) _ (by rw [hf, hk, hl]; (repeat' split) <;> omega)
theorem sp_ok {b : List UInt8} (h : v8E b = 0) : SpC b = .ls [.int (if v8has b then 1 else 0), .int (if v8has b && v8P b then 2 else 0), .int ((if v8has b && v8L b then v8lev b else 0 : Nat) : Int), .int ((if v8has b && (v8T b || v8K b) then v8key b else 0 : Nat) : Int), .int (v8fin b : Nat)] := by
  unfold SpC spL
  rw [if_pos h]
  simp only [List.map_cons, List.map_nil]
  congr 4
  · split <;> rfl
  · congr 2
    split <;> rfl
theorem v8E_zero {b : List UInt8} (h : v8E b = 0) : v8fin b ≤ b.length ∧ (v8has b = true → v8L b = true → v8P b = true) := by
  unfold v8E at h
  split at h
  · simp at h
  · split at h
    · simp at h
    · rename_i h1 h2
      refine ⟨by omega, fun a c => ?_⟩
      simpa [a, c] using h2
theorem two_at (b : List UInt8) (i : Nat) (h : i + 2 ≤ b.length) : getV b (i : Int) 2 = at_ b i * 256 + at_ b (i + 1) := by
  have e : getE b.length i 2 = 0 := by rw [getE_zero]; omega
  rw [getV, if_pos e]
  have e4 : cut b (i : Int) 2 = [b.getD i 0, b.getD (i + 1) 0] := by
    have : ((2 : Int).toNat) = 2 := rfl
    simp only [cut, Int.toNat_natCast, this]
    apply List.ext_getElem?
    intro j
    rw [List.getElem?_take, List.getElem?_drop]
    match j with
    | 0 => simp [List.getD, show i < b.length by omega]
    | 1 => simp [List.getD, show i + 1 < b.length by omega]
    | j + 2 => simp; omega
  rw [e4]
  simp [be, at_]
theorem a15 (n : Nat) (h : n < 65536) : arith .and .i64 (IntKind.i64.wrap ((n : Nat) : Int)) 32767 = ((n % 32768 : Nat) : Int) := by
  rw [wrapi64_in (by omega), show (32767 : Int) = ((32767 : Nat) : Int) by rfl, arith_andH (by show _ < 2 ^ 63; omega) (by decide)]
  have := Nat.and_two_pow_sub_one_eq_mod n 15
  rw [← this]
end Go.Vc
