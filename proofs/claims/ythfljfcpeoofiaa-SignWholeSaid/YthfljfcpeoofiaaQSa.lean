/-
  The contracts of tokens and of sign's forms, each out of its condition.
-/
import Derived.Test.YthfljfcpeoofiaaQVs
import Derived.Test.YthfljfcpeoofiaaQOc
import Derived.Test.YthfljfcpeoofiaaQBase3
set_option maxRecDepth 100000
namespace Go.Vc
open Go Go.Proofs Go.Plain
abbrev U8 : Sh := .int .u8
abbrev U32 : Sh := .int .u32
abbrev SgSh : Sh := .pair I64 (.pair .str (.pair U32 (.pair .bool (.pair .bool (.pair I64 .unit)))))
def SgC (s : Sg) : C := .ls [.int s.kind, .str s.text, .int s.num, .bool s.a, .bool s.b, .int s.turns]
theorem pc_bytes_Equal (a b : List UInt8) : PC Try.prog f_bytes_Equal [(Byt, B a), (Byt, B b)] [(.bool, .bool (decide (a = b)))] := by
  apply pcv_bytes_Equal rfl
  simp only [vc_bytes_Equal, VC.H_ret, ev_var, ev_seql, ev_toStr, ea_nil, ea_cons, env_zero, env_succ, List.map_cons, List.map_nil, v_str, v_ls, bytesOf_ofBytes]
theorem iteB {p : Prop} [Decidable p] {a b : Bool} : (if p then a else b) = true ↔ (p ∧ a = true ∨ ¬ p ∧ b = true) := by by_cases h : p <;> simp [h]
theorem iteF {p : Prop} [Decidable p] {a b : Bool} : (if p then a else b) = false ↔ (p ∧ a = false ∨ ¬ p ∧ b = false) := by by_cases h : p <;> simp [h]
theorem byte1 (n : Nat) (h : n < 256) : B [UInt8.ofNat n] = .ls [.int (n : Nat)] := by
  show C.ls [.int ((UInt8.ofNat n).toNat : Nat)] = _
  rw [UInt8.toNat_ofNat', Nat.mod_eq_of_lt (by simpa using h)]
theorem pc_text_signOf (x : UInt8) : PC Try.prog f_text_signOf [(U8, .int (x.toNat : Nat))] [(.bool, .bool (tsgn x))] := by
  apply pcv_text_signOf rfl
  simp only [vc_text_signOf, VC.H_cond, VC.H_ret, ev_var, ev_int, ev_bool, ev_eql, ev_leq, ev_geq, ev_ite, ea_nil, ea_cons, env_zero, List.map_cons, List.map_nil, v_int, v_bool, bool_ite, andT, decide_eq_true_eq]
  unfold tsgn
  refine ⟨fun h => ?_, fun h => ?_⟩
  · congr 3
    symm
    simp only [iteB, decide_eq_true_eq, Bool.false_eq_true, and_false, or_false] at h ⊢
    omega
  · congr 3
    rw [Bool.eq_iff_iff]
    simp only [iteB, iteF, decide_eq_true_eq, decide_eq_false_iff_not, and_true] at h ⊢
    omega
theorem tok_step {s : List UInt8} {i : Nat} (hi : i < s.length) (h : ∀ x ∈ s.take i, tsgn x = true) : (∀ x ∈ s.take (i + 1), tsgn x = true) ↔ tsgn (s.getD i 0) = true := by
  rw [show s.take (i + 1) = s.take i ++ [s[i]] from List.take_succ_eq_append_getElem hi]
  have e : s.getD i 0 = s[i] := by simp [List.getD, hi]
  rw [e]
  constructor
  · intro h2
    exact h2 _ (List.mem_append_right _ (by simp))
  · intro h2 x hx
    rcases List.mem_append.1 hx with hx | hx
    · exact h x hx
    · rw [List.mem_singleton] at hx
      rw [hx]; exact h2
theorem tok_bad {s : List UInt8} {i : Nat} (hi : i < s.length) (h : tsgn (s.getD i 0) = false) : tokL s = false := by
  have e : s.getD i 0 = s[i] := by simp [List.getD, hi]
  rw [e] at h
  unfold tokL
  have : s.all tsgn = false := by
    rw [List.all_eq_false]
    exact ⟨_, List.getElem_mem hi, by simp [h]⟩
  rw [this, Bool.and_false]
theorem pc_text_Token (s : List UInt8) (hs : s.length ≤ 1000000) : PC Try.prog f_text_Token [(.str, .str s)] [(.bool, .bool (tokL s))] := by
  apply pcv_text_Token rfl
  simp only [vc_text_Token, VC.H_cond, VC.H_ret, ev_var, ev_int, ev_bool, ev_lss, ev_gtr, ev_ite, ev_slen, ea_nil, ea_cons, env_zero, List.map_cons, List.map_nil, v_int, v_bool, v_str, bool_ite, orT, orF, decide_eq_true_eq, decide_eq_false_iff_not, Int.not_lt]
  refine ⟨fun h => ?_, fun h => ?_⟩
  · have : tokL s = false := by unfold tokL; rw [decide_eq_false (by omega)]; rfl
    rw [this]
  · refine VC.go_loop (fun i : Nat => [.bool false, .int (i : Int)]) (fun i => i ≤ s.length ∧ ∀ x ∈ s.take i, tsgn x = true) (fun i => s.length - i) 0 rfl ⟨Nat.zero_le _, by simp⟩ fun i hi => ?_
    obtain ⟨i1, i2⟩ := hi
    simp only [VC.H_asrt, VC.H_cond, VC.H_ret, VC.H_back, VC.H_call1, ev_var, ev_int, ev_bool, ev_add, ev_lss, ev_geq, ev_not, ev_slen, ev_sidx, ev_fits64, ea_nil, ea_cons, env_zero, env_succ, env_cons, env_nil, List.map_cons, List.map_nil, v_int, v_bool, v_str, pres_nil, notT, notF, decide_eq_true_eq, decide_eq_false_iff_not, forall_const, Int.not_lt]
    refine ⟨fun hc => ?_, fun hc => ?_⟩
    · have hk : i < s.length := by omega
      refine ⟨by omega, by omega, _, pc_text_signOf _, ?_⟩
      simp only [v_bool]
      refine ⟨fun h2 => ?_, fun h2 => ⟨by omega, i + 1, by simp, ⟨by omega, (tok_step hk i2).2 (by simpa using h2)⟩, by omega⟩⟩
      rw [tok_bad hk (by simpa using h2)]
    · have he : i = s.length := by omega
      rw [he, List.take_length] at i2
      have : tokL s = true := by
        unfold tokL
        rw [decide_eq_true (by omega), Bool.true_and, List.all_eq_true]
        exact i2
      rw [this]
theorem pc_ref04_Token (s : List UInt8) (hs : s.length ≤ 1000000) : PC Try.prog f_crossbarref04_Token [(.str, .str s)] [(.bool, .bool (tokL s))] := by
  apply pcv_crossbarref04_Token rfl
  simp only [vc_crossbarref04_Token, List.map_cons, List.map_nil]
  refine VC.go_loop (fun i : Nat => [.bool false, .int (i : Int)]) (fun i => i ≤ s.length ∧ ∀ x ∈ s.take i, tsgn x = true) (fun i => s.length - i) 0 rfl ⟨Nat.zero_le _, by simp⟩ fun i hi => ?_
  obtain ⟨i1, i2⟩ := hi
  simp only [VC.H_asrt, VC.H_cond, VC.H_ret, VC.H_back, ev_var, ev_int, ev_bool, ev_add, ev_neq, ev_lss, ev_leq, ev_gtr, ev_geq, ev_ite, ev_slen, ev_sidx, ev_fits64, ea_nil, ea_cons, env_zero, env_succ, env_cons, env_nil, List.map_cons, List.map_nil, v_int, v_bool, v_str, bool_ite, pres_nil, orT, andT, andF, nnE, decide_eq_true_eq, decide_eq_false_iff_not, forall_const, Int.not_lt]
  refine ⟨fun hc => ?_, fun hc => ?_⟩
  · have hk : i < s.length := by omega
    have hb := tok_bad hk
    have hg := (tok_step hk i2).2
    simp only [Int.toNat_natCast]
    generalize s.getD i 0 = x at hb hg
    have hx : tsgn x = true ↔ (97 ≤ x.toNat ∧ x.toNat ≤ 122 ∨ 65 ≤ x.toNat ∧ x.toNat ≤ 90 ∨ 48 ≤ x.toNat ∧ x.toNat ≤ 57 ∨ x.toNat = 45 ∨ x.toNat = 95) := by unfold tsgn; rw [decide_eq_true_eq]
    refine ⟨by omega, by omega, fun h2 => ?_, fun h2 => ⟨by omega, i + 1, by simp, ⟨by omega, hg ?_⟩, by omega⟩⟩
    · rw [hb (Bool.eq_false_iff.2 fun h3 => by rw [hx] at h3; omega)]
    · rw [hx]; omega
  · have he : i = s.length := by omega
    rw [he, List.take_length] at i2
    have : s.all tsgn = true := List.all_eq_true.2 i2
    unfold tokL
    rw [this, Bool.and_true]
    congr 3
    rw [Bool.eq_iff_iff]
    simp only [decide_eq_true_eq]
    split <;> simp <;> omega
theorem pc_word_own (s : Sg) : PC Try.prog f__sign_word__own [(.unit, .ls []), (SgSh, SgC s)] [(SgSh, SgC ⟨0, s.text, 0, false, false, 0⟩)] := by
  apply pcv__sign_word__own rfl
  simp only [vc__sign_word__own, SgC, VC.H_ret, ev_var, ev_int, ev_bool, ev_nil, ev_cons, ev_hd, ev_tl, ea_nil, ea_cons, env_zero, env_succ, List.map_cons, List.map_nil, v_ls, v_hd, v_tl]
  rfl
theorem pc_number_own (n : Int) (s : Sg) : PC Try.prog f__sign_number__own [(.pair I64 .unit, .ls [.int n]), (SgSh, SgC s)] [(SgSh, SgC ⟨0, [], s.num, false, false, 0⟩)] := by
  apply pcv__sign_number__own rfl
  simp only [vc__sign_number__own, SgC, VC.H_ret, ev_var, ev_int, ev_bool, ev_str, ev_nil, ev_cons, ev_hd, ev_tl, ea_nil, ea_cons, env_zero, env_succ, List.map_cons, List.map_nil, v_ls, v_hd, v_tl]
theorem pc_level_own (s : Sg) : PC Try.prog f__sign_level__own [(.unit, .ls []), (SgSh, SgC s)] [(SgSh, SgC ⟨0, [], s.num, s.a, false, 0⟩)] := by
  apply pcv__sign_level__own rfl
  simp only [vc__sign_level__own, SgC, VC.H_ret, ev_var, ev_int, ev_bool, ev_str, ev_nil, ev_cons, ev_hd, ev_tl, ea_nil, ea_cons, env_zero, env_succ, List.map_cons, List.map_nil, v_ls, v_hd, v_tl]
theorem pc_turn_own (s : Sg) : PC Try.prog f__sign_turn__own [(.unit, .ls []), (SgSh, SgC s)] [(SgSh, SgC ⟨0, [], 0, s.a, s.b, s.turns⟩)] := by
  apply pcv__sign_turn__own rfl
  simp only [vc__sign_turn__own, SgC, VC.H_ret, ev_var, ev_int, ev_str, ev_nil, ev_cons, ev_hd, ev_tl, ea_nil, ea_cons, env_zero, env_succ, List.map_cons, List.map_nil, v_ls, v_hd, v_tl]
  rfl
theorem pc_number_size (n : Int) : PC Try.prog f__sign_number__size [(.pair I64 .unit, .ls [.int n])] [(I64, .int n)] := by
  apply pcv__sign_number__size rfl
  simp only [vc__sign_number__size, VC.H_ret, ev_var, ev_hd, ea_nil, ea_cons, env_zero, List.map_cons, List.map_nil, v_hd]
theorem pc_level_size : PC Try.prog f__sign_level__size [(.unit, .ls [])] [(I64, .int 1)] := by
  apply pcv__sign_level__size rfl
  simp only [vc__sign_level__size, VC.H_ret, ev_int, ea_nil, ea_cons, List.map_cons, List.map_nil]
theorem pc_turn_size : PC Try.prog f__sign_turn__size [(.unit, .ls [])] [(I64, .int 1)] := by
  apply pcv__sign_turn__size rfl
  simp only [vc__sign_turn__size, VC.H_ret, ev_int, ea_nil, ea_cons, List.map_cons, List.map_nil]
theorem pc_word_write (s : Sg) (hs : s.text.length ≤ 1000000) : PC Try.prog f__sign_word__write [(.unit, .ls []), (SgSh, SgC s)] [(Byt, B s.text), (.bool, .bool (tokL s.text))] := by
  apply pcv__sign_word__write rfl
  simp only [vc__sign_word__write, SgC, VC.H_asrt, VC.H_ret, VC.H_call1, ev_var, ev_hd, ev_tl, ev_slen, ev_ofStr, ev_fits64, ea_nil, ea_cons, env_zero, env_succ, env_cons, env_nil, List.map_cons, List.map_nil, v_int, v_bool, v_str, v_hd, v_tl, pres_nil, decide_eq_true_eq, forall_const]
  refine ⟨by omega, _, pc_text_Token _ hs, ?_⟩
  simp only []
theorem pc_number_write (n : Int) (s : Sg) (hn : s.num < 4294967296) : PC Try.prog f__sign_number__write [(.pair I64 .unit, .ls [.int n]), (SgSh, SgC s)] [(Byt, B (putB s.num n)), (.bool, .bool (decide (putE s.num n = 0)))] := by
  apply pcv__sign_number__write rfl
  simp only [vc__sign_number__write, SgC, VC.H_ret, VC.H_call2, ev_var, ev_int, ev_hd, ev_tl, ev_eql, ev_conv, ea_nil, ea_cons, env_zero, env_succ, env_cons, env_nil, List.map_cons, List.map_nil, v_int, v_hd, v_tl, pres_nil, forall_const]
  have e : IntKind.u64.wrap (s.num : Int) = (s.num : Int) := by rw [wrapu64]; omega
  rw [e]
  refine ⟨_, _, pc_octet_Put s.num n (by omega), ?_⟩
  simp only [v_int]
theorem or128 (n : Nat) (h : n < 128) : arith .or .u8 (n : Int) 128 = ((n + 128 : Nat) : Int) := by
  rw [show (128 : Int) = ((128 : Nat) : Int) from rfl, arith_orU rfl (Nat.lt_of_lt_of_le (show n < 256 by omega) (by decide)) (by decide)]
  congr 1
  have key : ∀ a : Fin 128, a.1 ||| 128 = a.1 + 128 := by decide
  exact key ⟨n, h⟩
theorem pc_level_write (s : Sg) : PC Try.prog f__sign_level__write [(.unit, .ls []), (SgSh, SgC s)] [(Byt, B (if s.num < 128 then [UInt8.ofNat (s.num + 128 * s.a.toNat)] else [])), (.bool, .bool (decide (s.num < 128)))] := by
  apply pcv__sign_level__write rfl
  simp only [vc__sign_level__write, SgC, VC.H_cond, VC.H_ret, ev_var, ev_int, ev_bool, ev_nil, ev_nilS, ev_cons, ev_hd, ev_tl, ev_bin, ev_gtr, ev_ite, ev_conv, ea_nil, ea_cons, env_zero, env_succ, List.map_cons, List.map_nil, v_int, v_bool, v_ls, v_hd, v_tl, int_ite, decide_eq_true_eq, decide_eq_false_iff_not, Int.not_lt]
  refine ⟨fun h => ?_, fun h => ?_⟩
  · rw [if_neg (by omega), decide_eq_false (by omega)]
    rfl
  · have e : IntKind.u8.wrap (s.num : Int) = (s.num : Int) := by rw [wrapu8]; omega
    rw [if_pos (show s.num < 128 by omega), decide_eq_true (show s.num < 128 by omega), e, or128 _ (by omega)]
    have h3 : s.num < 128 := by omega
    generalize s.num = n at h3
    cases ha : s.a
    · simp only [Bool.false_eq_true, if_false, Bool.toNat_false, Nat.mul_zero, Nat.add_zero]
      rw [byte1 n (by omega)]
    · simp only [if_true, Bool.toNat_true, Nat.mul_one]
      rw [byte1 (n + 128) (by omega)]
theorem or_key : ∀ m : Fin 4, m.1 ||| 4 = m.1 + 4 ∧ m.1 ||| 8 = m.1 + 8 ∧ (m.1 + 4) ||| 8 = m.1 + 12 := by decide
theorem pc_turn_write (s : Sg) : PC Try.prog f__sign_turn__write [(.unit, .ls []), (SgSh, SgC s)] [(Byt, B (if 0 ≤ s.turns ∧ s.turns < 4 then [UInt8.ofNat (sgTurn s)] else [])), (.bool, .bool (decide (0 ≤ s.turns ∧ s.turns < 4)))] := by
  apply pcv__sign_turn__write rfl
  simp only [vc__sign_turn__write, SgC, VC.H_cond, VC.H_ret, ev_var, ev_int, ev_bool, ev_nil, ev_nilS, ev_cons, ev_hd, ev_tl, ev_bin, ev_lss, ev_gtr, ev_ite, ev_conv, ea_nil, ea_cons, env_zero, env_succ, List.map_cons, List.map_nil, v_int, v_bool, v_ls, v_hd, v_tl, int_ite, bool_ite, orT, orF, decide_eq_true_eq, decide_eq_false_iff_not, Int.not_lt]
  refine ⟨fun h => ?_, fun h => ?_⟩
  · rw [if_neg (by omega), decide_eq_false (by omega)]
    rfl
  · obtain ⟨m, hm⟩ : ∃ m : Nat, s.turns = m := ⟨s.turns.toNat, by omega⟩
    have e : IntKind.u8.wrap s.turns = (m : Int) := by rw [hm, wrapu8]; omega
    have hm4 : m < 4 := by omega
    obtain ⟨k1, k2, k3⟩ := or_key ⟨m, hm4⟩
    simp only at k1 k2 k3
    have g : ∀ (a b : Nat), a < 256 → b < 256 → arith .or .u8 (a : Int) (b : Int) = ((a ||| b : Nat) : Int) := fun a b ha hb => arith_orU rfl (Nat.lt_of_lt_of_le ha (by decide)) (Nat.lt_of_lt_of_le hb (by decide))
    have o1 : arith .or .u8 (m : Int) 4 = ((m + 4 : Nat) : Int) := by rw [← k1]; exact g m 4 (by omega) (by omega)
    have o2 : arith .or .u8 (m : Int) 8 = ((m + 8 : Nat) : Int) := by rw [← k2]; exact g m 8 (by omega) (by omega)
    have o3 : arith .or .u8 ((m + 4 : Nat) : Int) 8 = ((m + 12 : Nat) : Int) := by rw [← k3]; exact g (m + 4) 8 (by omega) (by omega)
    rw [if_pos (show 0 ≤ s.turns ∧ s.turns < 4 by omega), decide_eq_true (show 0 ≤ s.turns ∧ s.turns < 4 by omega), e, o1]
    unfold sgTurn
    rw [hm]
    cases ha : s.a <;> cases hb : s.b <;> simp only [Bool.false_eq_true, if_false, if_true, o2, o3, Bool.toNat_false, Bool.toNat_true, Int.toNat_natCast, Nat.mul_zero, Nat.mul_one, Nat.add_zero]
    · rw [byte1 m (by omega)]
    · rw [byte1 (m + 4) (by omega)]
    · rw [byte1 (m + 8) (by omega)]
    · rw [show m + 4 + 8 = m + 12 from rfl, byte1 (m + 12) (by omega)]
def wdE (b : List UInt8) : Int := if b.length < 1 ∨ 16 < b.length then 4 else if tokL b = true then 0 else 6
theorem pc_word_read (b : List UInt8) (hb : b.length ≤ 1000000) : PC Try.prog f__sign_word__read [(.unit, .ls []), (Byt, B b)] [(SgSh, SgC (if wdE b = 0 then ⟨0, b, 0, false, false, 0⟩ else Sg.zero)), (I64, .int (wdE b))] := by
  apply pcv__sign_word__read rfl
  simp only [vc__sign_word__read, VC.H_cond, VC.H_ret, VC.H_call1, ev_var, ev_int, ev_bool, ev_str, ev_nil, ev_cons, ev_lss, ev_gtr, ev_not, ev_ite, ev_len, ev_toStr, ea_nil, ea_cons, env_zero, env_succ, env_cons, env_nil, List.map_cons, List.map_nil, v_int, v_bool, v_ls, bool_ite, pres_nil, orT, orF, notT, notF, decide_eq_true_eq, decide_eq_false_iff_not, forall_const, Int.not_lt, ofBytes_length, bytesOf_ofBytes]
  unfold wdE
  refine ⟨fun h => ?_, fun h => ⟨_, pc_text_Token b hb, ?_⟩⟩
  · rw [if_pos (show b.length < 1 ∨ 16 < b.length by omega), if_neg (by decide)]
    rfl
  · rw [if_neg (show ¬ (b.length < 1 ∨ 16 < b.length) by omega)]
    simp only [v_bool]
    cases tokL b
    · refine ⟨fun _ => rfl, fun h2 => absurd h2 (by simp)⟩
    · refine ⟨fun h2 => absurd h2 (by simp), fun _ => rfl⟩
theorem pc_number_read (n : Int) (b : List UInt8) (hb : b.length ≤ 1000000) (hn : 1 ≤ n ∧ n ≤ 4) : PC Try.prog f__sign_number__read [(.pair I64 .unit, .ls [.int n]), (Byt, B b)] [(SgSh, SgC ⟨0, [], getV b 0 n, false, false, 0⟩), (I64, .int (getE b.length 0 n))] := by
  apply pcv__sign_number__read rfl
  simp only [vc__sign_number__read, SgC, VC.H_ret, VC.H_call2, ev_var, ev_int, ev_bool, ev_str, ev_nil, ev_cons, ev_hd, ev_conv, ea_nil, ea_cons, env_zero, env_succ, env_cons, env_nil, List.map_cons, List.map_nil, v_ls, v_hd, pres_nil, forall_const]
  refine ⟨_, _, pc_octet_Get b 0 n (by omega), ?_⟩
  simp only [v_int]
  have hl : getV b 0 n < 4294967296 := by
    unfold getV
    split
    · refine Nat.lt_of_lt_of_le (be_lt _) ?_
      have : (cut b 0 n).length ≤ 4 := by unfold cut; rw [List.length_take]; omega
      exact Nat.le_trans (Nat.pow_le_pow_right (by decide) this) (by decide)
    · decide
  have e : IntKind.u32.wrap (getV b 0 n : Int) = (getV b 0 n : Int) := by rw [wrapu32]; omega
  rw [e]
theorem and_key : ∀ x : Fin 256, x.1 &&& 127 = x.1 % 128 ∧ (x.1 &&& 128 = 0 ↔ x.1 < 128) ∧ x.1 &&& 3 = x.1 % 4 ∧ (x.1 &&& 8 = 0 ↔ x.1 / 8 % 2 = 0) ∧ (x.1 &&& 4 = 0 ↔ x.1 / 4 % 2 = 0) := by decide +kernel
theorem andU8 (x m : Nat) (hx : x < 256) (hm : m < 256) : arith .and .u8 (x : Int) (m : Int) = ((x &&& m : Nat) : Int) := arith_andU rfl (Nat.lt_of_lt_of_le hx (by decide)) (Nat.lt_of_lt_of_le hm (by decide))
theorem at0_get {b : List UInt8} (h : b ≠ []) : (ofBytes b).getD 0 default = .int (at0 b : Nat) := by
  cases b with
  | nil => exact absurd rfl h
  | cons x l => rfl
theorem pc_level_read (b : List UInt8) (hb : b.length = 1) : PC Try.prog f__sign_level__read [(.unit, .ls []), (Byt, B b)] [(SgSh, SgC ⟨0, [], at0 b % 128, decide (128 ≤ at0 b), false, 0⟩), (I64, .int 0)] := by
  apply pcv__sign_level__read rfl
  have hne : b ≠ [] := fun e => by rw [e] at hb; cases hb
  have hx := at0_lt b
  obtain ⟨k1, k2, _⟩ := and_key ⟨at0 b, hx⟩
  simp only at k1 k2
  have a1 : arith .and .u8 ((at0 b : Nat) : Int) 127 = ((at0 b % 128 : Nat) : Int) := by rw [← k1]; exact andU8 _ 127 hx (by decide)
  have a2 : arith .and .u8 ((at0 b : Nat) : Int) 128 = ((at0 b &&& 128 : Nat) : Int) := andU8 _ 128 hx (by decide)
  simp only [vc__sign_level__read, SgC, VC.H_asrt, VC.H_ret, ev_var, ev_int, ev_bool, ev_str, ev_nil, ev_cons, ev_bin, ev_neq, ev_lss, ev_conv, ev_len, ev_idx, ea_nil, ea_cons, env_zero, env_succ, List.map_cons, List.map_nil, v_int, v_bool, v_ls, pres_nil, decide_eq_true_eq, forall_const, ofBytes_length, Int.toNat_zero, at0_get hne, a1, a2]
  refine ⟨by omega, by omega, ?_⟩
  have e1 : IntKind.u32.wrap ((at0 b % 128 : Nat) : Int) = ((at0 b % 128 : Nat) : Int) := by rw [wrapu32]; omega
  have e2 : decide (¬ ((at0 b &&& 128 : Nat) : Int) = 0) = decide (128 ≤ at0 b) := by
    apply decide_eq_decide.2
    omega
  rw [e1]
  simp only [← e2]
theorem pc_turn_read (b : List UInt8) (hb : b.length = 1) : PC Try.prog f__sign_turn__read [(.unit, .ls []), (Byt, B b)] [(SgSh, SgC ⟨0, [], 0, decide (at0 b / 8 % 2 = 1), decide (at0 b / 4 % 2 = 1), (at0 b % 4 : Nat)⟩), (I64, .int 0)] := by
  apply pcv__sign_turn__read rfl
  have hne : b ≠ [] := fun e => by rw [e] at hb; cases hb
  have hx := at0_lt b
  obtain ⟨_, _, k1, k2, k3⟩ := and_key ⟨at0 b, hx⟩
  simp only at k1 k2 k3
  have a1 : arith .and .u8 ((at0 b : Nat) : Int) 3 = ((at0 b % 4 : Nat) : Int) := by rw [← k1]; exact andU8 _ 3 hx (by decide)
  have a2 : arith .and .u8 ((at0 b : Nat) : Int) 8 = ((at0 b &&& 8 : Nat) : Int) := andU8 _ 8 hx (by decide)
  have a3 : arith .and .u8 ((at0 b : Nat) : Int) 4 = ((at0 b &&& 4 : Nat) : Int) := andU8 _ 4 hx (by decide)
  simp only [vc__sign_turn__read, SgC, VC.H_asrt, VC.H_ret, ev_var, ev_int, ev_str, ev_nil, ev_cons, ev_bin, ev_neq, ev_lss, ev_conv, ev_len, ev_idx, ea_nil, ea_cons, env_zero, env_succ, List.map_cons, List.map_nil, v_int, v_bool, v_ls, pres_nil, decide_eq_true_eq, forall_const, ofBytes_length, Int.toNat_zero, at0_get hne, a1, a2, a3]
  refine ⟨by omega, ?_⟩
  have e1 : IntKind.i64.wrap ((at0 b % 4 : Nat) : Int) = ((at0 b % 4 : Nat) : Int) := wrapi64_in (by omega)
  have e2 : decide (¬ ((at0 b &&& 8 : Nat) : Int) = 0) = decide (at0 b / 8 % 2 = 1) := by
    apply decide_eq_decide.2
    omega
  have e3 : decide (¬ ((at0 b &&& 4 : Nat) : Int) = 0) = decide (at0 b / 4 % 2 = 1) := by
    apply decide_eq_decide.2
    omega
  rw [e1]
  simp only [← e2, ← e3]
  rfl
end Go.Vc
