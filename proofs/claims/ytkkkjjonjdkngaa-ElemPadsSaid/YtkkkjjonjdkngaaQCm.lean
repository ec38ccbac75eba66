/-
  Contracts of functions that several layers use: numbers in bytes, lists of numbers, how many bits a number has.
-/
import Derived.Test.YtkkkjjonjdkngaaQVn
import Derived.Test.YtkkkjjonjdkngaaQOc
import Derived.Test.YtkkkjjonjdkngaaQBase3
set_option maxRecDepth 100000
namespace Go.Vc
open Go Go.Proofs Go.Plain
abbrev U8 : Sh := .int .u8
abbrev U16 : Sh := .int .u16
abbrev U32 : Sh := .int .u32
theorem pc_bytes_Equal (a b : List UInt8) : PC Try.prog f_bytes_Equal [(Byt, B a), (Byt, B b)] [(.bool, .bool (decide (a = b)))] := by
  apply pcv_bytes_Equal rfl
  simp only [vc_bytes_Equal, VC.H_ret, ev_var, ev_seql, ev_toStr, ea_nil, ea_cons, env_zero, env_succ, List.map_cons, List.map_nil, v_str, v_ls, bytesOf_ofBytes]
theorem pc_crossbarref05_Num (b : List UInt8) (i n : Nat) (hi : i + n ≤ b.length) (hn : 1 ≤ n ∧ n ≤ 4) (hb : b.length ≤ 9223372036854775807) : PC Try.prog f_crossbarref05_Num [(Byt, B b), (I64, .int i), (I64, .int n)] [(U32, .int (num b i n))] := by
  apply pcv_crossbarref05_Num rfl
  simp only [vc_crossbarref05_Num, VC.H_ret, VC.H_call2, ev_var, ev_conv, ea_nil, ea_cons, env_zero, env_succ, env_cons, env_nil, List.map_cons, List.map_nil, pres_nil, forall_const]
  refine ⟨_, _, pc_crossbarref01_Get b i n hb, ?_⟩
  have e : getE b.length i n = 0 := by rw [getE_zero]; omega
  have hl : num b i n < 4294967296 := Nat.lt_of_lt_of_le (num_lt b i n) (Nat.le_trans (Nat.pow_le_pow_right (by decide) hn.2) (by decide))
  have e2 : getV b i n = num b i n := by rw [getV, if_pos e]; rfl
  rw [v_int, e2, wrapu32]
  congr 3
  omega
theorem pn_crossbarref01_Put (v : Nat) (n : Int) (h1 : v < 18446744073709551616) :
    PC Try.prog n_crossbarref01_Put [(U64, .int v), (I64, .int n)] [(Byt, B (putB v n)), (I64, .int (putE v n))] := by
  apply pcn_crossbarref01_Put rfl
  simp only [vn_crossbarref01_Put, VC.H_asrt, VC.H_cond, VC.H_ret, ev_var, ev_int, ev_bool, ev_nilS, ev_mul, ev_lss, ev_leq, ev_gtr, ev_geq, ev_ite, ea_nil, ea_cons, env_zero, env_succ, List.map_cons, List.map_nil, v_int, v_bool, bool_ite, pres_nil, orT, orF, decide_eq_true_eq, decide_eq_false_iff_not, forall_const, Int.not_lt]
  refine ⟨fun hc => ?_, fun hc => ⟨by omega, by omega, by omega, ?_⟩⟩
  · have e : putE v n = 1 := by rw [putE, if_pos (by omega)]
    simp [putB, e]
  · obtain ⟨m, rfl⟩ : ∃ m : Nat, n = m := ⟨n.toNat, by omega⟩
    refine VC.go_loop (fun j : Nat => [.int ((v / 256 ^ j : Nat) : Int), .int j, Go.Vc.B (List.replicate (m - j) 0 ++ toBE j v)]) (fun j => j ≤ m) (fun j => m - j) 0 ?_ (Nat.zero_le _) fun j hj => ?_
    · simp only [ev_var, ev_int, ev_rep, env_zero, env_succ, List.map_cons, List.map_nil, v_int]
      simp [toBE, ofBytes_rep]
    · simp only [VC.H_asrt, VC.H_cond, VC.H_ret, VC.H_back, ev_var, ev_int, ev_nilS, ev_bin, ev_add, ev_sub', ev_lss, ev_gtr, ev_geq, ev_conv, ev_set, ev_fits64, ea_nil, ea_cons, env_zero, env_succ, env_cons, env_nil, List.map_cons, List.map_nil, v_int, v_bool, v_ls, pres_nil, decide_eq_true_eq, decide_eq_false_iff_not, forall_const, Int.not_lt]
      refine ⟨fun hc => ⟨by omega, by omega, by omega, by omega, by omega, j + 1, ?_, by omega, by omega⟩, fun hc => ?_⟩
      · have e1 : ((m : Int) - 1 - j).toNat = m - 1 - j := by omega
        have e2 : arith .quo .u64 ((v / 256 ^ j : Nat) : Int) 256 = ((v / 256 ^ (j + 1) : Nat) : Int) := by
          have hq : v / 256 ^ j ≤ v := Nat.div_le_self _ _
          rw [Nat.pow_succ, ← Nat.div_div_eq_div_mul]
          generalize v / 256 ^ j = q at hq
          rw [arith_quo _ _ _ (by omega), wrapu64]
          omega
        have e3 : arith .rem .u64 ((v / 256 ^ j : Nat) : Int) 256 = ((v / 256 ^ j % 256 : Nat) : Int) := by
          generalize v / 256 ^ j = q
          rw [arith_rem _ _ _ (by omega)]
          omega
        have e4 : UInt8.ofNat (v / 256 ^ j % 256) = UInt8.ofNat (v / 256 ^ j) := by
          apply UInt8.toNat_inj.1
          simp
        rw [e1, e2, e3, byte_of, ofBytes_set', rep_set m j (by omega), e4, ← toBE_cons]
        simp
      · have : j = m := by omega
        subst this
        refine ⟨fun hp => ?_, fun hp => ?_⟩
        · have e : putE v j = 6 := by
            rw [putE, if_neg (by omega), if_neg]
            intro h
            rw [Int.toNat_natCast] at h
            rw [Nat.div_eq_of_lt h] at hp
            omega
          simp [putB, e]
        · have e : putE v j = 0 := by
            rw [putE_zero]
            refine ⟨by omega, by omega, Nat.lt_of_not_le fun hle => ?_⟩
            have := Nat.div_pos hle (Nat.pow_pos (by decide))
            rw [Int.toNat_natCast] at this
            omega
          simp [putB, e]
theorem pn_crossbarref01_Must (v : Nat) (n : Nat) (hv : v < 256 ^ n) (hn : 1 ≤ n ∧ n ≤ 8) (h1 : v < 18446744073709551616) :
    PC Try.prog n_crossbarref01_Must [(U64, .int v), (I64, .int n)] [(Byt, B (toBE n v))] := by
  apply pcn_crossbarref01_Must rfl
  have e : putE v n = 0 := by rw [putE_zero]; refine ⟨by omega, by omega, by simpa using hv⟩
  have e2 : putB v n = toBE n v := by rw [putB, if_pos e]; rfl
  simp only [vn_crossbarref01_Must, VC.H_ret, VC.H_call2, ev_var, ea_nil, ea_cons, env_zero, env_succ, env_cons, env_nil, List.map_cons, List.map_nil, pres_nil, forall_const]
  refine ⟨_, _, pn_crossbarref01_Put v n h1, ?_⟩
  rw [e2]
theorem pc_crossbarref05_Numbers (a b : List Nat) (ha : a.length ≤ 9223372036854775806) : PC Try.prog f_crossbarref05_Numbers [(.sl U32, Ns a), (.sl U32, Ns b)] [(.bool, .bool (decide (a = b)))] := by
  apply pcv_crossbarref05_Numbers rfl
  simp only [vc_crossbarref05_Numbers, VC.H_cond, VC.H_ret, ev_var, ev_bool, ev_neq, ev_len, ea_nil, ea_cons, env_zero, env_succ, List.map_cons, List.map_nil, v_int, v_bool, v_ls, nnE, decide_eq_true_eq, decide_eq_false_iff_not, List.length_map]
  refine ⟨fun hl => ?_, fun hl => ?_⟩
  · have : a ≠ b := fun e => hl (by rw [e])
    simp [this]
  · have hl : a.length = b.length := by omega
    refine VC.go_loop (fun i : Nat => [.bool false, .int i]) (fun i => i ≤ a.length ∧ a.take i = b.take i) (fun i => a.length - i) 0 rfl ⟨Nat.zero_le _, rfl⟩ fun i hi => ?_
    simp only [VC.H_asrt, VC.H_cond, VC.H_ret, VC.H_back, ev_var, ev_int, ev_bool, ev_add, ev_neq, ev_lss, ev_geq, ev_len, ev_idx, ev_fits64, ea_nil, ea_cons, env_zero, env_succ, env_cons, env_nil, List.map_cons, List.map_nil, v_int, v_bool, v_ls, pres_nil, nnE, decide_eq_true_eq, decide_eq_false_iff_not, forall_const, Int.not_lt, List.length_map]
    refine ⟨fun hc => ⟨by omega, by omega, by omega, by omega, ?_⟩, fun hc => ?_⟩
    · rw [Int.toNat_natCast, ofNats_getD _ _ (by omega), ofNats_getD _ _ (by omega), v_int, v_int]
      refine ⟨fun hn => ?_, fun hn => ⟨by omega, i + 1, by simp, ⟨by omega, ?_⟩, by omega⟩⟩
      · have : a ≠ b := fun e => hn (by rw [e])
        simp [this]
      · have hn : a.getD i 0 = b.getD i 0 := by omega
        rw [List.take_succ_eq_append_getElem (by omega), List.take_succ_eq_append_getElem (by omega), hi.2]
        simp [List.getD, show i < a.length by omega, show i < b.length by omega] at hn
        rw [hn]
    · have h2 := hi.2
      rw [List.take_of_length_le (by omega), List.take_of_length_le (by omega)] at h2
      simp [h2]
theorem atD (b : List UInt8) (i : Nat) : (((b.getD i 0).toNat : Nat) : Int) = (at_ b i : Int) := rfl
theorem mod4 (n : Nat) (h : n < 9223372036854775807) : arith .rem .i64 (n : Int) 4 = ((n % 4 : Nat) : Int) := by
  rw [arith_rem _ _ _ (by omega)]
  omega
theorem u64_of (v : Nat) (h : v < 4294967296) : IntKind.u64.wrap (v : Int) = (v : Int) := by rw [wrapu64]; omega
theorem mem_getD {l : List Nat} {i : Nat} (h : i < l.length) : l.getD i 0 ∈ l := by
  simp [List.getD, h]
theorem words_snoc (l : List Nat) (i : Nat) (h : i < l.length) : words (l.take (i + 1)) = words (l.take i) ++ toBE 4 (l.getD i 0) := by
  rw [List.take_succ_eq_append_getElem h]
  simp only [words, List.map_append, List.flatten_append]
  simp [List.getD, h]
def tab8 : List UInt8 := [0, 1, 2, 2, 3, 3, 3, 3, 4, 4, 4, 4, 4, 4, 4, 4, 5, 5, 5, 5, 5, 5, 5, 5, 5, 5, 5, 5, 5, 5, 5, 5, 6, 6, 6, 6, 6, 6, 6, 6, 6, 6, 6, 6, 6, 6, 6, 6, 6, 6, 6, 6, 6, 6, 6, 6, 6, 6, 6, 6, 6, 6, 6, 6, 7, 7, 7, 7, 7, 7, 7, 7, 7, 7, 7, 7, 7, 7, 7, 7, 7, 7, 7, 7, 7, 7, 7, 7, 7, 7, 7, 7, 7, 7, 7, 7, 7, 7, 7, 7, 7, 7, 7, 7, 7, 7, 7, 7, 7, 7, 7, 7, 7, 7, 7, 7, 7, 7, 7, 7, 7, 7, 7, 7, 7, 7, 7, 7, 8, 8, 8, 8, 8, 8, 8, 8, 8, 8, 8, 8, 8, 8, 8, 8, 8, 8, 8, 8, 8, 8, 8, 8, 8, 8, 8, 8, 8, 8, 8, 8, 8, 8, 8, 8, 8, 8, 8, 8, 8, 8, 8, 8, 8, 8, 8, 8, 8, 8, 8, 8, 8, 8, 8, 8, 8, 8, 8, 8, 8, 8, 8, 8, 8, 8, 8, 8, 8, 8, 8, 8, 8, 8, 8, 8, 8, 8, 8, 8, 8, 8, 8, 8, 8, 8, 8, 8, 8, 8, 8, 8, 8, 8, 8, 8, 8, 8, 8, 8, 8, 8, 8, 8, 8, 8, 8, 8, 8, 8, 8, 8, 8, 8, 8, 8, 8, 8, 8, 8, 8, 8, 8, 8, 8, 8, 8, 8]
theorem tab8_bl : ∀ i : Nat, i < 256 → (tab8.getD i 0).toNat = bl i := by decide +kernel
theorem tab8_len : tab8.length = 256 := by decide +kernel
theorem bl_div (n k : Nat) : bl (n / 2 ^ k) = bl n - k := by
  have h : ∀ j, bl (n / 2 ^ k) ≤ j ↔ bl n - k ≤ j := by
    intro j
    have hp : 0 < 2 ^ k := Nat.pow_pos (by decide)
    rw [bl_le, Nat.div_lt_iff_lt_mul hp, ← Nat.pow_add, ← bl_le]
    omega
  have h1 := (h (bl n - k)).2 (Nat.le_refl _)
  have h2 := (h (bl (n / 2 ^ k))).1 (Nat.le_refl _)
  omega
theorem shrN (k : IntKind) (n j : Nat) (hj : j ≤ k.bits) : arith .shr k ((n : Nat) : Int) ((j : Nat) : Int) = ((n / 2 ^ j : Nat) : Int) := by
  rw [arith_shr, Int.toNat_natCast, Nat.min_eq_left hj]
  simp
/-- The table's answer, behind the shifts. -/
theorem len_tab (v m : Nat) (k : Nat) (h : m = v / 2 ^ k) (hm : m < 256) (hv : k = 0 ∨ 2 ^ k ≤ v) : (((k : Nat) : Int)) + IntKind.i64.wrap (((tab8.getD (IntKind.u8.wrap ((m : Nat) : Int)).toNat 0).toNat : Nat) : Int) = ((bl v : Nat) : Int) := by
  have e1 : (IntKind.u8.wrap ((m : Nat) : Int)).toNat = m := by rw [wrapu8]; omega
  have hb : bl m ≤ 8 := bl_le.2 hm
  rw [e1, tab8_bl m hm, wrapi64_in (by omega)]
  have h2 : bl m = bl v - k := by rw [h, bl_div]
  have h3 : k ≤ bl v := by
    rcases hv with h | h
    · omega
    · have := (bl_le (n := v) (k := k))
      by_cases hc : bl v ≤ k
      · have := this.1 hc; omega
      · omega
  omega
set_option maxHeartbeats 4000000 in
theorem pc_math_bits_Len32 (v : Nat) (h : v < 4294967296) : PC Try.prog f_math_bits_Len32 [(U32, .int v)] [(I64, .int (bl v : Nat))] := by
  apply pcv_math_bits_Len32 rfl
  have htab : [0, 1, 2, 2, 3, 3, 3, 3, 4, 4, 4, 4, 4, 4, 4, 4, 5, 5, 5, 5, 5, 5, 5, 5, 5, 5, 5, 5, 5, 5, 5, 5, 6, 6, 6, 6, 6, 6, 6, 6, 6, 6, 6, 6, 6, 6, 6, 6, 6, 6, 6, 6, 6, 6, 6, 6, 6, 6, 6, 6, 6, 6, 6, 6, 7, 7, 7, 7, 7, 7, 7, 7, 7, 7, 7, 7, 7, 7, 7, 7, 7, 7, 7, 7, 7, 7, 7, 7, 7, 7, 7, 7, 7, 7, 7, 7, 7, 7, 7, 7, 7, 7, 7, 7, 7, 7, 7, 7, 7, 7, 7, 7, 7, 7, 7, 7, 7, 7, 7, 7, 7, 7, 7, 7, 7, 7, 7, 7, 8, 8, 8, 8, 8, 8, 8, 8, 8, 8, 8, 8, 8, 8, 8, 8, 8, 8, 8, 8, 8, 8, 8, 8, 8, 8, 8, 8, 8, 8, 8, 8, 8, 8, 8, 8, 8, 8, 8, 8, 8, 8, 8, 8, 8, 8, 8, 8, 8, 8, 8, 8, 8, 8, 8, 8, 8, 8, 8, 8, 8, 8, 8, 8, 8, 8, 8, 8, 8, 8, 8, 8, 8, 8, 8, 8, 8, 8, 8, 8, 8, 8, 8, 8, 8, 8, 8, 8, 8, 8, 8, 8, 8, 8, 8, 8, 8, 8, 8, 8, 8, 8, 8, 8, 8, 8, 8, 8, 8, 8, 8, 8, 8, 8, 8, 8, 8, 8, 8, 8, 8, 8, 8, 8, 8, 8, 8, 8] = tab8 := rfl
  have s16 : arith .shr .u32 ((v : Nat) : Int) 16 = ((v / 2 ^ 16 : Nat) : Int) := shrN .u32 v 16 (by decide)
  have s8 : arith .shr .u32 ((v : Nat) : Int) 8 = ((v / 2 ^ 8 : Nat) : Int) := shrN .u32 v 8 (by decide)
  have s24 : arith .shr .u32 ((v / 2 ^ 16 : Nat) : Int) 8 = ((v / 2 ^ 16 / 2 ^ 8 : Nat) : Int) := shrN .u32 (v / 2 ^ 16) 8 (by decide)
  have hb : bl v ≤ 32 := bl_le.2 h
  simp only [vc_math_bits_Len32, VC.H_asrt, VC.H_ret, ev_var, ev_int, ev_str, ev_bin, ev_add, ev_lss, ev_geq, ev_ite, ev_conv, ev_slen, ev_sidx, ev_fits64, ea_nil, ea_cons, env_zero, List.map_cons, List.map_nil, v_int, v_bool, v_str, int_ite, pres_nil, pres_cons, decide_eq_true_eq, forall_const, and_true, htab]
  by_cases h1 : (65536 : Int) ≤ ((v : Nat) : Int)
  · simp only [h1, if_true, s16, s24]
    by_cases h2 : (256 : Int) ≤ ((v / 2 ^ 16 : Nat) : Int)
    · simp only [h2, if_true]
      have k0 := len_tab v (v / 2 ^ 16 / 2 ^ 8) 24 (by omega) (by omega) (by omega)
      rw [show (((24 : Nat) : Int)) = 16 + 8 from rfl] at k0
      rw [k0, tab8_len, wrapu8]
      exact ⟨fun _ => by omega, by omega, by omega, by omega, rfl⟩
    · simp only [h2, if_false]
      have k0 := len_tab v (v / 2 ^ 16) 16 rfl (by omega) (by omega)
      rw [show (((16 : Nat) : Int)) = 16 from rfl] at k0
      rw [k0, tab8_len, wrapu8]
      exact ⟨fun _ => by omega, by omega, by omega, by omega, rfl⟩
  · simp only [h1, if_false, s8]
    by_cases h2 : (256 : Int) ≤ ((v : Nat) : Int)
    · simp only [h2, if_true]
      have k0 := len_tab v (v / 2 ^ 8) 8 rfl (by omega) (by omega)
      rw [show (((8 : Nat) : Int)) = 0 + 8 from rfl] at k0
      rw [k0, tab8_len, wrapu8]
      exact ⟨fun _ => by omega, by omega, by omega, by omega, rfl⟩
    · simp only [h2, if_false]
      have k0 := len_tab v v 0 (by omega) (by omega) (by omega)
      rw [show (((0 : Nat) : Int)) = 0 from rfl] at k0
      rw [k0, tab8_len, wrapu8]
      exact ⟨fun _ => by omega, by omega, by omega, by omega, rfl⟩
set_option maxHeartbeats 4000000 in
theorem pc_math_bits_Len64 (v : Nat) (h : v < 18446744073709551616) : PC Try.prog f_math_bits_Len64 [(U64, .int v)] [(I64, .int (bl v : Nat))] := by
  apply pcv_math_bits_Len64 rfl
  have htab : [0, 1, 2, 2, 3, 3, 3, 3, 4, 4, 4, 4, 4, 4, 4, 4, 5, 5, 5, 5, 5, 5, 5, 5, 5, 5, 5, 5, 5, 5, 5, 5, 6, 6, 6, 6, 6, 6, 6, 6, 6, 6, 6, 6, 6, 6, 6, 6, 6, 6, 6, 6, 6, 6, 6, 6, 6, 6, 6, 6, 6, 6, 6, 6, 7, 7, 7, 7, 7, 7, 7, 7, 7, 7, 7, 7, 7, 7, 7, 7, 7, 7, 7, 7, 7, 7, 7, 7, 7, 7, 7, 7, 7, 7, 7, 7, 7, 7, 7, 7, 7, 7, 7, 7, 7, 7, 7, 7, 7, 7, 7, 7, 7, 7, 7, 7, 7, 7, 7, 7, 7, 7, 7, 7, 7, 7, 7, 7, 8, 8, 8, 8, 8, 8, 8, 8, 8, 8, 8, 8, 8, 8, 8, 8, 8, 8, 8, 8, 8, 8, 8, 8, 8, 8, 8, 8, 8, 8, 8, 8, 8, 8, 8, 8, 8, 8, 8, 8, 8, 8, 8, 8, 8, 8, 8, 8, 8, 8, 8, 8, 8, 8, 8, 8, 8, 8, 8, 8, 8, 8, 8, 8, 8, 8, 8, 8, 8, 8, 8, 8, 8, 8, 8, 8, 8, 8, 8, 8, 8, 8, 8, 8, 8, 8, 8, 8, 8, 8, 8, 8, 8, 8, 8, 8, 8, 8, 8, 8, 8, 8, 8, 8, 8, 8, 8, 8, 8, 8, 8, 8, 8, 8, 8, 8, 8, 8, 8, 8, 8, 8, 8, 8, 8, 8, 8, 8] = tab8 := rfl
  have s32 : arith .shr .u64 ((v : Nat) : Int) 32 = ((v / 2 ^ 32 : Nat) : Int) := shrN .u64 v 32 (by decide)
  have s16 : ∀ v : Nat, arith .shr .u64 ((v : Nat) : Int) 16 = ((v / 2 ^ 16 : Nat) : Int) := fun v => shrN .u64 v 16 (by decide)
  have s8 : ∀ v : Nat, arith .shr .u64 ((v : Nat) : Int) 8 = ((v / 2 ^ 8 : Nat) : Int) := fun v => shrN .u64 v 8 (by decide)
  have hb : bl v ≤ 64 := bl_le.2 h
  simp only [vc_math_bits_Len64, VC.H_asrt, VC.H_ret, ev_var, ev_int, ev_str, ev_bin, ev_add, ev_lss, ev_geq, ev_ite, ev_conv, ev_slen, ev_sidx, ev_fits64, ea_nil, ea_cons, env_zero, List.map_cons, List.map_nil, v_int, v_bool, v_str, int_ite, pres_nil, pres_cons, decide_eq_true_eq, forall_const, and_true, htab]
  have fin : ∀ (m k : Nat) (c : Int), m = v / 2 ^ k → m < 256 → (k = 0 ∨ 2 ^ k ≤ v) → ((k : Nat) : Int) = c → 
      (0 ≤ IntKind.u8.wrap ((m : Nat) : Int) ∧ IntKind.u8.wrap ((m : Nat) : Int) < ((tab8.length : Nat) : Int) ∧ (-9223372036854775808 ≤ c + IntKind.i64.wrap (((tab8.getD (IntKind.u8.wrap ((m : Nat) : Int)).toNat 0).toNat : Nat) : Int) ∧ c + IntKind.i64.wrap (((tab8.getD (IntKind.u8.wrap ((m : Nat) : Int)).toNat 0).toNat : Nat) : Int) ≤ 9223372036854775807) ∧
        [(Sh.int .i64, C.int (c + IntKind.i64.wrap (((tab8.getD (IntKind.u8.wrap ((m : Nat) : Int)).toNat 0).toNat : Nat) : Int)))] = [(I64, C.int ((bl v : Nat) : Int))]) := by
    intro m k c h1 h2 h3 h4
    have k0 := len_tab v m k h1 h2 h3
    rw [h4] at k0
    rw [k0, tab8_len, wrapu8]
    exact ⟨by omega, by omega, by omega, rfl⟩
  by_cases h1 : (4294967296 : Int) ≤ ((v : Nat) : Int)
  · simp only [h1, if_true, s32, s16]
    by_cases h2 : (65536 : Int) ≤ ((v / 2 ^ 32 : Nat) : Int)
    · simp only [h2, if_true]
      by_cases h3 : (256 : Int) ≤ ((v / 2 ^ 32 / 2 ^ 16 : Nat) : Int)
      · simp only [h3, if_true, s8]
        exact ⟨fun _ => by omega, fun _ => by omega, fin (v / 2 ^ 32 / 2 ^ 16 / 2 ^ 8) 56 (32 + 16 + 8) (by omega) (by omega) (by omega) rfl⟩
      · simp only [h3, if_false]
        exact ⟨fun _ => by omega, fun _ => by omega, fin (v / 2 ^ 32 / 2 ^ 16) 48 (32 + 16) (by omega) (by omega) (by omega) rfl⟩
    · simp only [h2, if_false]
      by_cases h3 : (256 : Int) ≤ ((v / 2 ^ 32 : Nat) : Int)
      · simp only [h3, if_true, s8]
        exact ⟨fun _ => by omega, fun _ => by omega, fin (v / 2 ^ 32 / 2 ^ 8) 40 (32 + 8) (by omega) (by omega) (by omega) rfl⟩
      · simp only [h3, if_false]
        exact ⟨fun _ => by omega, fun _ => by omega, fin (v / 2 ^ 32) 32 (32) (by omega) (by omega) (by omega) rfl⟩
  · simp only [h1, if_false, s16]
    by_cases h2 : (65536 : Int) ≤ ((v : Nat) : Int)
    · simp only [h2, if_true]
      by_cases h3 : (256 : Int) ≤ ((v / 2 ^ 16 : Nat) : Int)
      · simp only [h3, if_true, s8]
        exact ⟨fun _ => by omega, fun _ => by omega, fin (v / 2 ^ 16 / 2 ^ 8) 24 (0 + 16 + 8) (by omega) (by omega) (by omega) rfl⟩
      · simp only [h3, if_false]
        exact ⟨fun _ => by omega, fun _ => by omega, fin (v / 2 ^ 16) 16 (0 + 16) (by omega) (by omega) (by omega) rfl⟩
    · simp only [h2, if_false]
      by_cases h3 : (256 : Int) ≤ ((v : Nat) : Int)
      · simp only [h3, if_true, s8]
        exact ⟨fun _ => by omega, fun _ => by omega, fin (v / 2 ^ 8) 8 (0 + 8) (by omega) (by omega) (by omega) rfl⟩
      · simp only [h3, if_false]
        exact ⟨fun _ => by omega, fun _ => by omega, fin (v) 0 (0) (by omega) (by omega) (by omega) rfl⟩
end Go.Vc
