/-
  The contracts of the functions of head and of its reference, each out of its condition.
-/
import Derived.Test.YtoijaooechdemaaQVh
import Derived.Test.YtoijaooechdemaaQOc
import Derived.Test.YtoijaooechdemaaQBase3
set_option maxRecDepth 100000
namespace Go.Vc
open Go Go.Proofs Go.Plain
abbrev U8 : Sh := .int .u8
abbrev U16 : Sh := .int .u16
abbrev U32 : Sh := .int .u32
abbrev HdSh : Sh := .pair .bool (.pair .bool (.pair .bool (.pair I64 (.pair U16 (.pair U32 (.pair U32 (.pair (.sl U32) .unit)))))))
abbrev HdC (h : Hd) : C := .ls [.bool h.pad, .bool h.ext, .bool h.mark, .int h.typ, .int h.seq, .int h.time, .int h.ssrc, Ns h.csrc]
theorem pc_head_Right (h : Hd) : PC Try.prog f_head_Right [(HdSh, HdC h)] [(.bool, .bool (decide h.right))] := by
  apply pcv_head_Right rfl
  simp only [vc_head_Right, VC.H_ret, ev_var, ev_int, ev_bool, ev_hd, ev_tl, ev_leq, ev_geq, ev_ite, ev_len, ea_nil, ea_cons, env_zero, List.map_cons, List.map_nil, v_int, v_bool, v_ls, v_hd, v_tl, bool_ite, andT, decide_eq_true_eq, List.length_map]
  congr 3
  by_cases hr : h.right
  · have := hr; obtain ⟨h1, h2, h3⟩ := this
    simp [hr, h1, show h.typ ≤ 127 by omega, show (h.csrc.length : Int) ≤ 15 by omega]
  · simp only [hr, decide_false]
    unfold Hd.right at hr
    by_cases h1 : 0 ≤ h.typ <;> by_cases h2 : h.typ ≤ 127 <;> simp [h1, h2]
    omega
theorem pc_crossbarref05_Right (h : Hd) : PC Try.prog f_crossbarref05_Right [(HdSh, HdC h)] [(.bool, .bool (decide h.right))] := by
  apply pcv_crossbarref05_Right rfl
  simp only [vc_crossbarref05_Right, VC.H_ret, ev_var, ev_int, ev_bool, ev_hd, ev_tl, ev_lss, ev_geq, ev_ite, ev_len, ea_nil, ea_cons, env_zero, List.map_cons, List.map_nil, v_int, v_bool, v_ls, v_hd, v_tl, bool_ite, andT, decide_eq_true_eq, List.length_map]
  congr 3
  by_cases hr : h.right
  · have := hr; obtain ⟨h1, h2, h3⟩ := this
    simp [hr, h1, show h.typ < 128 by omega, show (h.csrc.length : Int) < 16 by omega]
  · simp only [hr, decide_false]
    unfold Hd.right at hr
    by_cases h1 : 0 ≤ h.typ <;> by_cases h2 : h.typ < 128 <;> simp [h1, h2]
    omega
theorem pc_head_Size (h : Hd) : PC Try.prog f_head_Size [(HdSh, HdC h)] [(I64, .int (if h.right then 12 + 4 * (h.csrc.length : Int) else 0))] := by
  apply pcv_head_Size rfl
  simp only [vc_head_Size, VC.H_asrt, VC.H_cond, VC.H_ret, VC.H_call1, ev_var, ev_int, ev_nil, ev_cons, ev_hd, ev_tl, ev_add, ev_mul, ev_not, ev_len, ev_fits64, ea_nil, ea_cons, env_zero, env_succ, env_cons, env_nil, List.map_cons, List.map_nil, v_int, v_bool, v_ls, v_hd, v_tl, pres_nil, notT, notF, decide_eq_true_eq, forall_const, List.length_map]
  refine ⟨_, pc_head_Right h, fun hr => ?_, fun hr => ?_⟩
  · simp only [v_bool, decide_eq_false_iff_not] at hr
    rw [if_neg hr]
  · simp only [v_bool, decide_eq_true_eq] at hr
    have := hr; obtain ⟨h1, h2, h3⟩ := this
    rw [if_pos hr]
    exact ⟨by omega, by omega, rfl⟩
theorem word_bytes (v : Nat) (hv : v < 4294967296) : [C.int (IntKind.u8.wrap (arith .shr .u32 v 24)), C.int (IntKind.u8.wrap (arith .shr .u32 v 16)), C.int (IntKind.u8.wrap (arith .shr .u32 v 8)), C.int (IntKind.u8.wrap v)] = ofBytes (toBE 4 v) := by
  have e1 : arith .shr .u32 (v : Int) 24 = ((v / 2 ^ 24 : Nat) : Int) := by rw [arith_shr]; simp [IntKind.bits]
  have e2 : arith .shr .u32 (v : Int) 16 = ((v / 2 ^ 16 : Nat) : Int) := by rw [arith_shr]; simp [IntKind.bits]
  have e3 : arith .shr .u32 (v : Int) 8 = ((v / 2 ^ 8 : Nat) : Int) := by rw [arith_shr]; simp [IntKind.bits]
  rw [e1, e2, e3, byte_nat, byte_nat, byte_nat, byte_nat]
  simp [toBE, ofBytes, Nat.div_div_eq_div_mul]
theorem pg_head_word (b : List UInt8) (v : Nat) (hv : v < 4294967296) (hb : b.length ≤ 1000000) : PC Try.prog g_head_word [(Byt, B b), (U32, .int v)] [(Byt, B (b ++ toBE 4 v))] := by
  apply pcg_head_word rfl
  simp only [vg_head_word, VC.H_asrt, VC.H_ret, ev_var, ev_int, ev_nil, ev_cons, ev_bin, ev_add, ev_mul, ev_leq, ev_conv, ev_len, ev_app, ea_nil, ea_cons, env_zero, env_succ, List.map_cons, List.map_nil, v_int, v_bool, v_ls, pres_nil, decide_eq_true_eq, forall_const, and_true, word_bytes v hv, ofBytes_append, ofBytes_length, toBE_length]
  omega
theorem first_byte : ∀ n : Nat, n < 16 → ∀ p e : Bool,
    (if e = true then arith .or .u8 (if p = true then arith .or .u8 (IntKind.u8.wrap (arith .or .i64 128 n)) 32 else IntKind.u8.wrap (arith .or .i64 128 n)) 16
      else if p = true then arith .or .u8 (IntKind.u8.wrap (arith .or .i64 128 n)) 32 else IntKind.u8.wrap (arith .or .i64 128 n)) = ((UInt8.ofNat (128 + 32 * p.toNat + 16 * e.toNat + n)).toNat : Int) := by decide +kernel
theorem second_byte : ∀ n : Nat, n < 128 → ∀ m : Bool, (if m = true then arith .or .u8 (IntKind.u8.wrap (n : Int)) 128 else IntKind.u8.wrap (n : Int)) = ((UInt8.ofNat (128 * m.toNat + n)).toNat : Int) := by decide +kernel
theorem words_snoc (l : List Nat) (i : Nat) (h : i < l.length) : words (l.take (i + 1)) = words (l.take i) ++ toBE 4 (l.getD i 0) := by
  rw [List.take_succ_eq_append_getElem h]
  simp only [words, List.map_append, List.flatten_append]
  simp [List.getD, h]
theorem mem_getD {l : List Nat} {i : Nat} (h : i < l.length) : l.getD i 0 ∈ l := by
  simp [List.getD, h]
def hwB (h : Hd) : List UInt8 := if h.right then h.bytes else []
def hwE (h : Hd) : Int := if h.right then 0 else 1
theorem pc_head_Write (h : Hd) (ho : h.ok) : PC Try.prog f_head_Write [(HdSh, HdC h)] [(Byt, B (hwB h)), (I64, .int (hwE h))] := by
  apply pcv_head_Write rfl
  simp only [vc_head_Write, VC.H_asrt, VC.H_cond, VC.H_ret, VC.H_call1, ev_var, ev_int, ev_nil, ev_nilS, ev_cons, ev_hd, ev_tl, ev_bin, ev_add, ev_mul, ev_leq, ev_not, ev_ite, ev_conv, ev_len, ev_app, ev_rep, ev_fits64, ea_nil, ea_cons, env_zero, env_succ, env_cons, env_nil, List.map_cons, List.map_nil, v_int, v_bool, v_ls, v_hd, v_tl, int_ite, pres_nil, notT, notF, decide_eq_true_eq, forall_const, List.length_map]
  refine ⟨_, pc_head_Right h, fun hr => ?_, fun hr => ?_⟩
  · simp only [v_bool, decide_eq_false_iff_not] at hr
    rw [hwB, hwE, if_neg hr, if_neg hr]
    rfl
  · simp only [v_bool, decide_eq_true_eq] at hr
    have := hr; obtain ⟨h1, h2, h3⟩ := this
    obtain ⟨o1, o2, o3, o4⟩ := ho
    obtain ⟨t, ht⟩ : ∃ t : Nat, h.typ = t := ⟨h.typ.toNat, by omega⟩
    have f1 := first_byte h.csrc.length h3 h.pad h.ext
    have f2 := second_byte t (by omega) h.mark
    have f3 : arith .shr .u16 (h.seq : Int) 8 = ((h.seq / 2 ^ 8 : Nat) : Int) := by rw [arith_shr]; simp [IntKind.bits]
    have e4 : [C.int ((UInt8.ofNat (128 + 32 * h.pad.toNat + 16 * h.ext.toNat + h.csrc.length)).toNat : Int), C.int ((UInt8.ofNat (128 * h.mark.toNat + t)).toNat : Int), C.int ((UInt8.ofNat (h.seq / 2 ^ 8)).toNat : Int), C.int ((UInt8.ofNat h.seq).toNat : Int)] =
        ofBytes (UInt8.ofNat h.first :: UInt8.ofNat h.second :: toBE 2 h.seq) := by
      simp [ofBytes, toBE, Hd.first, Hd.second, ht]
    rw [ht, f1, f2, f3, byte_nat, byte_nat, e4]
    have e0 : List.replicate (Int.toNat 0) (C.int 0) = [] := rfl
    rw [e0, List.nil_append, ofBytes_length]
    refine ⟨by omega, by omega, by omega, by omega, by simp, _, pg_head_word _ _ o2 (by simp), _, pg_head_word _ _ o3 (by simp), ?_⟩
    refine VC.go_loop (fun i : Nat => [B ((UInt8.ofNat h.first :: UInt8.ofNat h.second :: toBE 2 h.seq) ++ toBE 4 h.time ++ toBE 4 h.ssrc ++ words (h.csrc.take i)), .int i]) (fun i => i ≤ h.csrc.length) (fun i => h.csrc.length - i) 0 ?_ (Nat.zero_le _) fun i hi => ?_
    · simp only [ev_var, ev_int, env_zero, env_succ, env_cons, List.map_cons, List.map_nil]
      simp [words]
    · simp only [VC.H_asrt, VC.H_cond, VC.H_ret, VC.H_back, VC.H_call1, ev_var, ev_int, ev_hd, ev_tl, ev_add, ev_lss, ev_geq, ev_len, ev_idx, ev_fits64, ea_nil, ea_cons, env_zero, env_succ, env_cons, env_nil, List.map_cons, List.map_nil, v_int, v_bool, v_ls, v_hd, v_tl, pres_nil, decide_eq_true_eq, decide_eq_false_iff_not, forall_const, Int.not_lt, List.length_map]
      have hwl := words_length (h.csrc.take i)
      rw [List.length_take] at hwl
      refine ⟨fun hc => ⟨by omega, by omega, ?_⟩, fun hc => ?_⟩
      · rw [Int.toNat_natCast, ofNats_getD _ _ (by omega)]
        refine ⟨_, pg_head_word _ _ (o4 _ (mem_getD (by omega))) (by simp; omega), by omega, i + 1, ?_, by omega, by omega⟩
        rw [words_snoc _ _ (by omega)]
        simp
      · rw [List.take_of_length_le (by omega), hwB, hwE, if_pos hr, if_pos hr]
        simp [Hd.bytes]
theorem pc_head_wordAt (b : List UInt8) (i : Nat) (hi : i + 4 ≤ b.length) (hb : b.length ≤ 9223372036854775807) : PC Try.prog f_head_wordAt [(Byt, B b), (I64, .int i)] [(U32, .int (num b i 4))] := by
  apply pcv_head_wordAt rfl
  simp only [vc_head_wordAt, VC.H_ret, VC.H_call2, ev_var, ev_int, ev_conv, ea_nil, ea_cons, env_zero, env_succ, env_cons, env_nil, List.map_cons, List.map_nil, pres_nil, forall_const]
  refine ⟨_, _, pc_octet_Get b i 4 hb, ?_⟩
  have e : getE b.length i 4 = 0 := by rw [getE_zero]; omega
  have hl := num_lt b i 4
  have e2 : getV b i 4 = num b i 4 := by rw [getV, if_pos e]; rfl
  rw [v_int, e2, wrapu32]
  congr 3
  omega
theorem pc_crossbarref05_Num (b : List UInt8) (i n : Nat) (hi : i + n ≤ b.length) (hn : 1 ≤ n ∧ n ≤ 4) (hb : b.length ≤ 9223372036854775807) : PC Try.prog f_crossbarref05_Num [(Byt, B b), (I64, .int i), (I64, .int n)] [(U32, .int (num b i n))] := by
  apply pcv_crossbarref05_Num rfl
  simp only [vc_crossbarref05_Num, VC.H_ret, VC.H_call2, ev_var, ev_conv, ea_nil, ea_cons, env_zero, env_succ, env_cons, env_nil, List.map_cons, List.map_nil, pres_nil, forall_const]
  refine ⟨_, _, pc_crossbarref01_Get b i n hb, ?_⟩
  have e : getE b.length i n = 0 := by rw [getE_zero]; omega
  have hl : num b i n < 4294967296 := Nat.lt_of_lt_of_le (num_lt b i n) (Nat.le_trans (Nat.pow_le_pow_right (by decide) hn.2) (by decide))
  have e2 : getV b i n = num b i n := by rw [getV, if_pos e]; rfl
  rw [v_int, e2, wrapu32]
  congr 3
  omega
theorem bits : ∀ x : Nat, x < 256 → arith .shr .u8 x 6 = ((x / 64 : Nat) : Int) ∧ arith .and .u8 x 15 = ((x % 16 : Nat) : Int) ∧ (decide (arith .and .u8 x 32 ≠ 0)) = decide (x / 32 % 2 = 1) ∧ (decide (arith .and .u8 x 16 ≠ 0)) = decide (x / 16 % 2 = 1) ∧
    (decide (arith .and .u8 x 128 ≠ 0)) = decide (128 ≤ x) ∧ arith .and .u8 x 127 = ((x % 128 : Nat) : Int) ∧ arith .quo .u8 x 64 = ((x / 64 : Nat) : Int) ∧ arith .rem .u8 x 16 = ((x % 16 : Nat) : Int) ∧ arith .rem .u8 x 128 = ((x % 128 : Nat) : Int) ∧
    (decide (arith .rem .u8 (arith .quo .u8 x 32) 2 = 1)) = decide (x / 32 % 2 = 1) ∧ (decide (arith .rem .u8 (arith .quo .u8 x 16) 2 = 1)) = decide (x / 16 % 2 = 1) := by decide +kernel
theorem atD (b : List UInt8) (i : Nat) : (((b.getD i 0).toNat : Nat) : Int) = (at_ b i : Int) := rfl
theorem hd_bad {b : List UInt8} {e : Int} (h : hdE b = e) (he : e ≠ 0) : HdC (hdH b) = .ls [.bool false, .bool false, .bool false, .int 0, .int 0, .int 0, .int 0, .ls []] ∧ hdN b = 0 := by
  rw [hdH, hdN, if_neg (by rw [h]; exact he), if_neg (by rw [h]; exact he)]
  exact ⟨rfl, rfl⟩
theorem i64_small (n : Nat) (h : n < 65536) : IntKind.i64.wrap (n : Int) = n := wrapi64_in (by omega)
theorem seq_of (b : List UInt8) (h : 4 ≤ b.length) : arith .or .u16 (arith .shl .u16 (IntKind.u16.wrap (at_ b 2 : Int)) 8) (IntKind.u16.wrap (at_ b 3 : Int)) = (num b 2 2 : Int) := by
  have h2 := at_lt b 2
  have h3 := at_lt b 3
  have e1 : IntKind.u16.wrap (at_ b 2 : Int) = (at_ b 2 : Int) := by rw [wrapu16]; omega
  have e2 : IntKind.u16.wrap (at_ b 3 : Int) = (at_ b 3 : Int) := by rw [wrapu16]; omega
  have e3 : arith .shl .u16 (at_ b 2 : Int) 8 = ((at_ b 2 * 2 ^ 8 : Nat) : Int) := by
    rw [arith_shl, wrapu16]
    simp [IntKind.bits]
    omega
  rw [e1, e2, e3, arith_orU rfl (by show _ < 2 ^ 16; omega) (by show _ < 2 ^ 16; omega), or_add _ _ _ (by omega)]
  have e4 : (b.drop 2).take 2 = [b.getD 2 0, b.getD 3 0] := by
    match b, h with
    | _ :: _ :: x :: y :: l, _ => rfl
  simp [num, e4, at_, be]
theorem range_num (b : List UInt8) (i : Nat) : ((List.range (i + 1)).map fun j => num b (12 + 4 * j) 4) = ((List.range i).map fun j => num b (12 + 4 * j) 4) ++ [num b (12 + 4 * i) 4] := by
  rw [List.range_succ, List.map_append]
  rfl
theorem pc_head_Read (b : List UInt8) (hb : b.length ≤ 140737488355328) : PC Try.prog f_head_Read [(Byt, B b)] [(HdSh, HdC (hdH b)), (I64, .int (hdN b)), (I64, .int (hdE b))] := by
  apply pcv_head_Read rfl
  have i0 : Int.toNat 0 = 0 := rfl
  have i1 : Int.toNat 1 = 1 := rfl
  have i2 : Int.toNat 2 = 2 := rfl
  have i3 : Int.toNat 3 = 3 := rfl
  obtain ⟨q1, q2, q3, q4, _, _, _⟩ := bits (at_ b 0) (at_lt b 0)
  obtain ⟨_, _, _, _, q5, q6, _⟩ := bits (at_ b 1) (at_lt b 1)
  have q7 := i64_small (at_ b 0 % 16) (by omega)
  have q8 := i64_small (at_ b 1 % 128) (by omega)
  simp only [vc_head_Read, VC.H_asrt, VC.H_cond, VC.H_ret, VC.H_call1, ev_var, ev_int, ev_bool, ev_nil, ev_nilS, ev_cons, ev_bin, ev_add, ev_mul, ev_neq, ev_lss, ev_conv, ev_len, ev_idx, ev_fits64, ea_nil, ea_cons, env_zero, env_cons, env_nil, List.map_cons, List.map_nil, v_int, v_bool, v_ls, pres_nil, nnE, decide_eq_true_eq, decide_eq_false_iff_not, forall_const, Int.not_lt, ofBytes_length, ofBytes_getD, i0, atD, q1, q2, q7]
  refine ⟨fun hc => ?_, fun hc => ⟨by omega, fun hv => ?_, fun hv => ⟨by omega, by omega, by omega, fun hs => ?_, fun hs => ⟨by omega, by omega, by omega, by omega, by omega, by omega, ?_⟩⟩⟩⟩
  · have e : hdE b = 2 := by unfold hdE; rw [if_pos (by omega)]
    rw [(hd_bad e (by decide)).1, (hd_bad e (by decide)).2, e]
    rfl
  · have e : hdE b = 3 := by unfold hdE; rw [if_neg (by omega), if_pos (by omega)]
    rw [(hd_bad e (by decide)).1, (hd_bad e (by decide)).2, e]
    rfl
  · have e : hdE b = 2 := by unfold hdE; rw [if_neg (by omega), if_neg (by omega), if_pos (by omega)]
    rw [(hd_bad e (by decide)).1, (hd_bad e (by decide)).2, e]
    rfl
  · have e : hdE b = 0 := by rw [hdE_zero]; omega
    refine ⟨_, pc_head_wordAt b 4 (by omega) (by omega), _, pc_head_wordAt b 8 (by omega) (by omega), ?_⟩
    refine VC.go_loop (fun i : Nat => [.int i, Ns ((List.range i).map fun j => num b (12 + 4 * j) 4)]) (fun i => i ≤ at_ b 0 % 16) (fun i => at_ b 0 % 16 - i) 0 rfl (Nat.zero_le _) fun i hi => ?_
    simp only [VC.H_asrt, VC.H_cond, VC.H_ret, VC.H_back, VC.H_call1, ev_var, ev_int, ev_nil, ev_cons, ev_bin, ev_add, ev_mul, ev_neq, ev_lss, ev_leq, ev_conv, ev_len, ev_idx, ev_app, ev_fits64, ea_nil, ea_cons, env_zero, env_succ, env_cons, env_nil, List.map_cons, List.map_nil, v_int, v_bool, v_ls, pres_nil, decide_eq_true_eq, decide_eq_false_iff_not, forall_const, Int.not_lt, ofBytes_getD, i0, i1, i2, i3, atD, q2, q7, q3, q4, q5, q6, q8, List.length_map, List.length_range]
    refine ⟨fun hc => ⟨by omega, by omega, ?_⟩, fun hc => ?_⟩
    · have ei : (12 : Int) + 4 * (i : Int) = ((12 + 4 * i : Nat) : Int) := by omega
      rw [ei]
      refine ⟨_, pc_head_wordAt b (12 + 4 * i) (by omega) (by omega), by simp; omega, by omega, i + 1, ?_, by omega, by omega⟩
      rw [range_num, ofNats_snoc]
      simp
    · have hi2 : i = at_ b 0 % 16 := by omega
      rw [seq_of b (by omega), hdH, hdN, if_pos e, if_pos e, e, hi2]
      simp [Hd.of]
theorem pc_crossbarref05_Read (b : List UInt8) (hb : b.length ≤ 140737488355328) : PC Try.prog f_crossbarref05_Read [(Byt, B b)] [(HdSh, HdC (hdH b)), (I64, .int (hdN b)), (I64, .int (hdE b))] := by
  apply pcv_crossbarref05_Read rfl
  have i0 : Int.toNat 0 = 0 := rfl
  have i1 : Int.toNat 1 = 1 := rfl
  obtain ⟨_, _, _, _, _, _, q1, q2, _, q3, q4⟩ := bits (at_ b 0) (at_lt b 0)
  obtain ⟨_, _, _, _, _, _, _, _, q6, _⟩ := bits (at_ b 1) (at_lt b 1)
  have q7 := i64_small (at_ b 0 % 16) (by omega)
  have q8 := i64_small (at_ b 1 % 128) (by omega)
  simp only [vc_crossbarref05_Read, VC.H_asrt, VC.H_cond, VC.H_ret, VC.H_call1, ev_var, ev_int, ev_bool, ev_nil, ev_nilS, ev_cons, ev_bin, ev_add, ev_mul, ev_neq, ev_lss, ev_conv, ev_len, ev_idx, ev_fits64, ea_nil, ea_cons, env_zero, env_cons, env_nil, List.map_cons, List.map_nil, v_int, v_bool, v_ls, pres_nil, nnE, decide_eq_true_eq, decide_eq_false_iff_not, forall_const, Int.not_lt, ofBytes_length, ofBytes_getD, i0, atD, q1, q2, q7]
  refine ⟨fun hc => ?_, fun hc => ⟨by omega, fun hv => ?_, fun hv => ⟨by omega, by omega, by omega, fun hs => ?_, fun hs => ⟨by omega, by omega, by omega, by omega, ?_⟩⟩⟩⟩
  · have e : hdE b = 2 := by unfold hdE; rw [if_pos (by omega)]
    rw [(hd_bad e (by decide)).1, (hd_bad e (by decide)).2, e]
    rfl
  · have e : hdE b = 3 := by unfold hdE; rw [if_neg (by omega), if_pos (by omega)]
    rw [(hd_bad e (by decide)).1, (hd_bad e (by decide)).2, e]
    rfl
  · have e : hdE b = 2 := by unfold hdE; rw [if_neg (by omega), if_neg (by omega), if_pos (by omega)]
    rw [(hd_bad e (by decide)).1, (hd_bad e (by decide)).2, e]
    rfl
  · have e : hdE b = 0 := by rw [hdE_zero]; omega
    refine ⟨_, pc_crossbarref05_Num b 2 2 (by omega) (by omega) (by omega), _, pc_crossbarref05_Num b 4 4 (by omega) (by omega) (by omega), _, pc_crossbarref05_Num b 8 4 (by omega) (by omega) (by omega), ?_⟩
    refine VC.go_loop (fun i : Nat => [.int i, Ns ((List.range i).map fun j => num b (12 + 4 * j) 4)]) (fun i => i ≤ at_ b 0 % 16) (fun i => at_ b 0 % 16 - i) 0 rfl (Nat.zero_le _) fun i hi => ?_
    simp only [VC.H_asrt, VC.H_cond, VC.H_ret, VC.H_back, VC.H_call1, ev_var, ev_int, ev_nil, ev_cons, ev_bin, ev_add, ev_mul, ev_eql, ev_lss, ev_leq, ev_geq, ev_conv, ev_len, ev_idx, ev_app, ev_fits64, ea_nil, ea_cons, env_zero, env_succ, env_cons, env_nil, List.map_cons, List.map_nil, v_int, v_bool, v_ls, pres_nil, decide_eq_true_eq, decide_eq_false_iff_not, forall_const, Int.not_lt, ofBytes_getD, i0, i1, atD, q2, q7, q3, q4, q6, q8, List.length_map, List.length_range]
    refine ⟨fun hc => ⟨by omega, by omega, ?_⟩, fun hc => ⟨by omega, by omega, ?_⟩⟩
    · have ei : (12 : Int) + 4 * (i : Int) = ((12 + 4 * i : Nat) : Int) := by omega
      rw [ei]
      refine ⟨_, pc_crossbarref05_Num b (12 + 4 * i) 4 (by omega) (by omega) (by omega), by simp; omega, by omega, i + 1, ?_, by omega, by omega⟩
      rw [range_num, ofNats_snoc]
      simp
    · have hi2 : i = at_ b 0 % 16 := by omega
      have hl := num_lt b 2 2
      have hw : IntKind.u16.wrap (num b 2 2 : Int) = (num b 2 2 : Int) := by rw [wrapu16]; omega
      have h128 : decide ((128 : Int) ≤ (at_ b 1 : Int)) = decide (128 ≤ at_ b 1) := by
        by_cases h : 128 ≤ at_ b 1
        · simp [h, show (128 : Int) ≤ (at_ b 1 : Int) by omega]
        · simp [h, show ¬ (128 : Int) ≤ (at_ b 1 : Int) by omega]
      rw [hw, h128, hdH, hdN, if_pos e, if_pos e, e, hi2]
      simp [Hd.of]
theorem pc_crossbarref05_Numbers (a b : List Nat) (ha : a.length ≤ 9223372036854775806) : PC Try.prog f_crossbarref05_Numbers [(.sl U32, Ns a), (.sl U32, Ns b)] [(.bool, .bool (decide (a = b)))] := by
  apply pcv_crossbarref05_Numbers rfl
  simp only [vc_crossbarref05_Numbers, VC.H_cond, VC.H_ret, ev_var, ev_bool, ev_neq, ev_len, ea_nil, ea_cons, env_zero, env_succ, List.map_cons, List.map_nil, v_int, v_bool, v_ls, nnE, decide_eq_true_eq, decide_eq_false_iff_not, List.length_map]
  refine ⟨fun hl => ?_, fun hl => ?_⟩
  · have : a ≠ b := fun e => hl (by rw [e])
    simp [this]
  · have hl : a.length = b.length := by omega
    refine VC.go_loop (fun i : Nat => [.bool false, .int i]) (fun i => i ≤ a.length ∧ a.take i = b.take i) (fun i => a.length - i) 0 rfl ⟨Nat.zero_le _, rfl⟩ fun i hi => ?_
    simp only [VC.H_asrt, VC.H_cond, VC.H_ret, VC.H_back, ev_var, ev_int, ev_bool, ev_add, ev_neq, ev_lss, ev_geq, ev_len, ev_idx, ev_fits64, ea_nil, ea_cons, env_zero, env_succ, env_cons, env_nil, List.map_cons, List.map_nil, v_int, v_bool, v_ls, pres_nil, nnE, decide_eq_true_eq, decide_eq_false_iff_not, forall_const, Int.not_lt, List.length_map]
    refine ⟨fun hc => ⟨by omega, by omega, by omega, by omega, ?_⟩, fun hc => ?_⟩
    · rw [Int.toNat_natCast, ofNats_getD _ _ (by omega), ofNats_getD _ _ (by omega), v_int, v_int]
      refine ⟨fun hn => ?_, fun hn => ⟨by omega, i + 1, by simp, ⟨by omega, ?_⟩, by omega⟩⟩
      · have : a ≠ b := fun e => hn (by rw [e])
        simp [this]
      · have hn : a.getD i 0 = b.getD i 0 := by omega
        rw [List.take_succ_eq_append_getElem (by omega), List.take_succ_eq_append_getElem (by omega), hi.2]
        simp [List.getD, show i < a.length by omega, show i < b.length by omega] at hn
        rw [hn]
    · have h2 := hi.2
      rw [List.take_of_length_le (by omega), List.take_of_length_le (by omega)] at h2
      simp [h2]
theorem pc_crossbarref05_Same (a b : Hd) (ha : a.csrc.length ≤ 9223372036854775806) : PC Try.prog f_crossbarref05_Same [(HdSh, HdC a), (HdSh, HdC b)] [(.bool, .bool (decide (a = b)))] := by
  apply pcv_crossbarref05_Same rfl
  simp only [vc_crossbarref05_Same, VC.H_ret, VC.H_call1, ev_var, ev_bool, ev_hd, ev_tl, ev_eql, ev_beq, ev_ite, ea_nil, ea_cons, env_zero, env_succ, env_cons, env_nil, List.map_cons, List.map_nil, v_int, v_bool, v_hd, v_tl, bool_ite, pres_nil, pres_cons, andT, decide_eq_true_eq, and_true]
  refine ⟨_, fun _ => pc_crossbarref05_Numbers a.csrc b.csrc ha, ?_⟩
  congr 3
  obtain ⟨a1, a2, a3, a4, a5, a6, a7, a8⟩ := a
  obtain ⟨b1, b2, b3, b4, b5, b6, b7, b8⟩ := b
  simp only [bool_ite, Hd.mk.injEq]
  congr 1
  apply Bool.eq_iff_iff.2
  simp only [andT, decide_eq_true_eq]
  constructor
  · rintro ⟨⟨⟨⟨⟨⟨⟨h1, h2⟩, h3⟩, h4⟩, h5⟩, h6⟩, h7⟩, h8⟩
    exact ⟨h1, h2, h3, h4, by omega, by omega, by omega, h8⟩
  · rintro ⟨h1, h2, h3, h4, h5, h6, h7, h8⟩
    exact ⟨⟨⟨⟨⟨⟨⟨h1, h2⟩, h3⟩, h4⟩, by omega⟩, by omega⟩, by omega⟩, h8⟩
theorem pc_crossbarref05_Write (h : Hd) (hr : h.right) (ho : h.ok) : PC Try.prog f_crossbarref05_Write [(HdSh, HdC h)] [(Byt, B h.bytes)] := by
  have := hr; obtain ⟨h1, h2, h3⟩ := this
  obtain ⟨o1, o2, o3, o4⟩ := ho
  have p2 : ∀ v : Nat, v < 65536 → putB v 2 = toBE 2 v := fun v hv => by rw [putB, if_pos (by rw [putE_zero]; simp; omega)]; rfl
  have p4 : ∀ v : Nat, v < 4294967296 → putB v 4 = toBE 4 v := fun v hv => by rw [putB, if_pos (by rw [putE_zero]; simp; omega)]; rfl
  have w1 : ∀ v : Nat, v < 4294967296 → IntKind.u64.wrap (v : Int) = (v : Int) := fun v hv => by rw [wrapu64]; omega
  apply pcv_crossbarref05_Write rfl
  simp only [vc_crossbarref05_Write, VC.H_asrt, VC.H_call1, ev_var, ev_int, ev_hd, ev_tl, ev_add, ev_mul, ev_leq, ev_ite, ev_conv, ev_len, ev_fits64, ea_nil, ea_cons, env_zero, env_succ, env_cons, env_nil, List.map_cons, List.map_nil, v_int, v_bool, v_ls, v_hd, v_tl, int_ite, pres_nil, pres_cons, decide_eq_true_eq, forall_const, and_true, List.length_map]
  rw [w1 _ (by omega), w1 _ o2, w1 _ o3]
  refine ⟨by omega, fun _ => by omega, fun _ => by split <;> omega, fun _ => by omega, _, pc_crossbarref01_Must _ 2 (by omega), ?_⟩
  rw [p2 _ o1]
  refine ⟨by simp, _, pc_crossbarref01_Must _ 4 (by omega), ?_⟩
  rw [p4 _ o2]
  refine ⟨by simp, _, pc_crossbarref01_Must _ 4 (by omega), ?_⟩
  rw [p4 _ o3]
  refine ⟨by simp, ?_⟩
  refine VC.go_loop (fun i : Nat => [B ((UInt8.ofNat h.first :: UInt8.ofNat h.second :: toBE 2 h.seq) ++ toBE 4 h.time ++ toBE 4 h.ssrc ++ words (h.csrc.take i)), .int i]) (fun i => i ≤ h.csrc.length) (fun i => h.csrc.length - i) 0 ?_ (Nat.zero_le _) fun i hi => ?_
  · simp only [ev_var, ev_int, ev_nil, ev_cons, ev_hd, ev_tl, ev_add, ev_ite, ev_conv, ev_len, ev_app, env_zero, env_succ, env_cons, env_nil, List.map_cons, List.map_nil, v_int, v_bool, v_ls, v_hd, v_tl, int_ite, List.length_map]
    have f1 : (if h.ext = true then (if h.pad = true then (128 : Int) + h.csrc.length + 32 else 128 + h.csrc.length) + 16 else if h.pad = true then (128 : Int) + h.csrc.length + 32 else 128 + h.csrc.length) = (h.first : Int) := by
      simp only [Hd.first]
      cases h.pad <;> cases h.ext <;> simp <;> omega
    have f2 : (if h.mark = true then h.typ + 128 else h.typ) = (h.second : Int) := by
      simp only [Hd.second]
      cases h.mark <;> simp <;> omega
    rw [f1, f2, byte_nat, byte_nat]
    simp [words, ofBytes]
  · simp only [VC.H_asrt, VC.H_cond, VC.H_ret, VC.H_back, VC.H_call1, ev_var, ev_int, ev_hd, ev_tl, ev_add, ev_mul, ev_lss, ev_leq, ev_geq, ev_conv, ev_len, ev_idx, ev_app, ev_fits64, ea_nil, ea_cons, env_zero, env_succ, env_cons, env_nil, List.map_cons, List.map_nil, v_int, v_bool, v_ls, v_hd, v_tl, pres_nil, decide_eq_true_eq, decide_eq_false_iff_not, forall_const, Int.not_lt, List.length_map]
    have hwl := words_length (h.csrc.take i)
    rw [List.length_take] at hwl
    refine ⟨fun hc => ⟨by omega, by omega, ?_⟩, fun hc => ?_⟩
    · have hm := o4 _ (mem_getD (show i < h.csrc.length by omega))
      rw [Int.toNat_natCast, ofNats_getD _ _ (by omega), v_int, w1 _ hm]
      refine ⟨_, pc_crossbarref01_Must _ 4 (by omega), ?_⟩
      rw [p4 _ hm]
      refine ⟨by simp [hwl]; omega, by omega, i + 1, ?_, by omega, by omega⟩
      rw [words_snoc _ _ (by omega)]
      simp [ofBytes]
    · rw [List.take_of_length_le (by omega)]
      simp [Hd.bytes]
theorem pc_crossbarlaw05_awake : PC Try.prog f_crossbarlaw05_awake [] [(.bool, .bool true)] := by
  let h : Hd := ⟨false, true, true, 96, 258, 3, 4, [5]⟩
  have hr : h.right := by decide
  have ho : h.ok := by refine ⟨by decide, by decide, by decide, by decide⟩
  have hb := Hd.back h hr ho [9]
  have e1 : hwB h = h.bytes := if_pos hr
  have e2 : hwE h = 0 := if_pos hr
  have e3 : hdH (h.bytes ++ [9]) = h := by rw [hdH, if_pos hb.1]; exact hb.2.1
  have e4 : hdN (h.bytes ++ [9]) = 16 := by rw [hdN, if_pos hb.1, hb.2.2]; rfl
  apply pcv_crossbarlaw05_awake rfl
  simp only [vc_crossbarlaw05_awake, VC.H_asrt, VC.H_ret, VC.H_call1, VC.H_call2, VC.H_call3, ev_var, ev_int, ev_bool, ev_str, ev_nil, ev_cons, ev_hd, ev_tl, ev_add, ev_mul, ev_eql, ev_leq, ev_seql, ev_ite, ev_len, ev_app, ev_toStr, ea_nil, ea_cons, env_zero, env_succ, env_cons, env_nil, List.map_nil, v_int, v_bool, v_str, v_ls, toBool_ite, bool_ite, pres_nil, pres_cons, andT, decide_eq_true_eq, forall_const, and_true]
  refine ⟨_, _, pc_head_Write h ho, ?_⟩
  have e5 : C.ls ((B h.bytes).toList ++ [C.int 9]) = B (h.bytes ++ [9]) := by simp [ofBytes]
  rw [e1, e2, e5]
  refine ⟨by decide, by decide, _, _, _, pc_head_Read (h.bytes ++ [9]) (by decide), ?_⟩
  rw [e3, e4, hb.1]
  refine ⟨_, fun _ => pc_head_Size h, _, fun _ => pc_crossbarref05_Same h h (by decide), _, fun _ => pc_head_Right h, ?_⟩
  kernel_rfl
end Go.Vc
