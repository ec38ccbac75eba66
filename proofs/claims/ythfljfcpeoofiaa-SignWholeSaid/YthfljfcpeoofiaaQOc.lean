/-
  The contracts of the functions of octet, each out of its condition.
-/
import Derived.Test.YthfljfcpeoofiaaQVo
import Derived.Test.YthfljfcpeoofiaaQBase3
set_option maxRecDepth 100000
namespace Go.Vc
open Go Go.Proofs Go.Plain
abbrev Byt : Sh := .sl (.int .u8)
abbrev I64 : Sh := .int .i64
abbrev U64 : Sh := .int .u64
def spanE (size at_ n : Int) : Int := if at_ > size ∨ n > size - at_ then 2 else 0
theorem pc_octet_span (size at_ n : Int) (h1 : 0 ≤ size) (h2 : size ≤ 9223372036854775807) (h3 : 0 ≤ at_) :
    PC Try.prog f_octet_span [(I64, .int size), (I64, .int at_), (I64, .int n)] [(I64, .int (spanE size at_ n))] := by
  apply pcv_octet_span rfl
  simp only [vc_octet_span, VC.H_asrt, VC.H_cond, VC.H_ret, ev_var, ev_int, ev_bool, ev_sub', ev_gtr, ev_ite, ev_fits64, ea_nil, ea_cons, env_zero, env_succ, List.map_cons, List.map_nil, v_int, v_bool, bool_ite, pres_nil, pres_cons, orT, orF, decide_eq_true_eq, decide_eq_false_iff_not, and_true, Int.not_lt]
  refine ⟨fun _ => by omega, fun _ => ?_, fun _ => ?_⟩
  · rw [spanE, if_pos (by omega)]
  · rw [spanE, if_neg (by omega)]
theorem byte_of (v : Nat) : C.int (IntKind.u8.wrap (v : Int)) = .int (UInt8.ofNat v).toNat := by
  simp only [wrapu8, UInt8.toNat_ofNat']
  congr 1
theorem rep_set (n j : Nat) (hj : j < n) (x : UInt8) (l : List UInt8) : (List.replicate (n - j) 0 ++ l).set (n - 1 - j) x = List.replicate (n - (j + 1)) 0 ++ x :: l := by
  have h : n - j = (n - 1 - j) + 1 := by omega
  have h' : n - (j + 1) = n - 1 - j := by omega
  rw [h, h', List.replicate_succ', List.append_assoc]
  generalize n - 1 - j = m
  rw [List.set_append_right _ _ (by simp)]
  simp
theorem pc_octet_bytesOf (v n : Nat) (h1 : v < 18446744073709551616) (h2 : n ≤ 8) :
    PC Try.prog f_octet_bytesOf [(U64, .int v), (I64, .int n)] [(Byt, B (toBE n v))] := by
  apply pcv_octet_bytesOf rfl
  simp only [vc_octet_bytesOf, VC.H_asrt, ev_var, ev_int, ev_sub', ev_mul, ev_leq, ev_geq, ev_fits64, env_zero, env_succ, List.map_cons, List.map_nil, v_int, v_bool, pres_nil, decide_eq_true_eq, forall_const]
  refine ⟨by omega, by omega, by omega, by omega, ?_⟩
  refine VC.go_loop (fun j : Nat => [.int ((v / 256 ^ j : Nat) : Int), .int ((n : Int) - 1 - j), B (List.replicate (n - j) 0 ++ toBE j v)]) (fun j => j ≤ n) (fun j => n - j) 0 ?_ (Nat.zero_le _) fun j hj => ?_
  · simp only [ev_var, ev_int, ev_sub', ev_rep, env_zero, env_succ, List.map_cons, List.map_nil, v_int]
    simp [toBE, ofBytes_rep]
  · simp only [VC.H_asrt, VC.H_cond, VC.H_ret, VC.H_back, ev_var, ev_int, ev_bin, ev_sub', ev_lss, ev_geq, ev_conv, ev_set, ev_fits64, ea_nil, ea_cons, env_zero, env_succ, env_cons, env_nil, List.map_cons, List.map_nil, v_int, v_bool, v_ls, pres_nil, decide_eq_true_eq, decide_eq_false_iff_not, forall_const, Int.not_le]
    refine ⟨fun hc => ⟨by omega, by omega, by omega, j + 1, ?_, by omega, by omega⟩, fun hc => ?_⟩
    · have e1 : ((n : Int) - 1 - j).toNat = n - 1 - j := by omega
      have e2 : arith .shr .u64 ((v / 256 ^ j : Nat) : Int) 8 = ((v / 256 ^ (j + 1) : Nat) : Int) := by
        rw [arith_shr, Nat.pow_succ, ← Nat.div_div_eq_div_mul]
        simp [IntKind.bits]
      rw [e1, e2, byte_of, ofBytes_set', rep_set n j (by omega), ← toBE_cons]
      congr 2
      simp; omega
    · have : j = n := by omega
      subst this
      simp
def getE (len at_ n : Int) : Int := if n < 1 ∨ 8 < n ∨ at_ < 0 then 1 else spanE len at_ n
def cut (b : List UInt8) (at_ n : Int) : List UInt8 := (b.drop at_.toNat).take n.toNat
def getV (b : List UInt8) (at_ n : Int) : Nat := if getE b.length at_ n = 0 then be (cut b at_ n) else 0
theorem getE_zero {len at_ n : Int} : getE len at_ n = 0 ↔ 1 ≤ n ∧ n ≤ 8 ∧ 0 ≤ at_ ∧ at_ ≤ len ∧ n ≤ len - at_ := by
  unfold getE spanE
  split
  · simp; omega
  · split <;> simp <;> omega
theorem cut_length {b : List UInt8} {at_ n : Int} (h : at_ ≤ b.length ∧ n ≤ b.length - at_) (h0 : 0 ≤ at_) : (cut b at_ n).length = n.toNat := by
  simp only [cut, List.length_take, List.length_drop]
  omega
theorem sub_cut (b : List UInt8) (at_ n : Int) (h : 0 ≤ at_) (hn : 0 ≤ n) : ((ofBytes b).take (at_ + n).toNat).drop at_.toNat = ofBytes (cut b at_ n) := by
  have e : (at_ + n).toNat = at_.toNat + n.toNat := by omega
  rw [ofBytes_take, ofBytes_drop, e, take_drop]
  rfl
theorem getV_lt (b : List UInt8) (at_ n : Int) : getV b at_ n < 18446744073709551616 := by
  unfold getV
  split
  · rename_i h
    rw [getE_zero] at h
    exact be_lt8 (by rw [cut_length ⟨h.2.2.2.1, h.2.2.2.2⟩ h.2.2.1]; omega)
  · decide
theorem pc_octet_Get (b : List UInt8) (at_ n : Int) (h1 : b.length ≤ 9223372036854775807) :
    PC Try.prog f_octet_Get [(Byt, B b), (I64, .int at_), (I64, .int n)] [(U64, .int (getV b at_ n)), (I64, .int (getE b.length at_ n))] := by
  apply pcv_octet_Get rfl
  simp only [vc_octet_Get, VC.H_asrt, VC.H_cond, VC.H_ret, VC.H_call1, ev_var, ev_int, ev_bool, ev_add, ev_neq, ev_lss, ev_leq, ev_gtr, ev_geq, ev_ite, ev_len, ev_fits64, ea_nil, ea_cons, env_zero, env_succ, env_cons, env_nil, List.map_cons, List.map_nil, v_int, v_bool, v_ls, bool_ite, pres_nil, orT, orF, nnE, decide_eq_true_eq, decide_eq_false_iff_not, forall_const, Int.not_lt]
  refine ⟨fun hc => ?_, fun hc => ⟨_, pc_octet_span _ _ _ ?_ ?_ ?_, fun he => ?_, fun he => ?_⟩⟩
  · have e : getE b.length at_ n = 1 := by rw [getE, if_pos (by omega)]
    simp [getV, e]
  · omega
  · simp; omega
  · omega
  · have e : getE b.length at_ n = spanE b.length at_ n := by rw [getE, if_neg (by omega)]
    simp only [C.toInt_int, ofBytes_length] at he ⊢
    rw [getV, e, if_neg he]
    rfl
  · have e : getE b.length at_ n = 0 := by rw [getE, if_neg (by omega)]; simpa using he
    have hz := getE_zero.1 e
    have hl := cut_length ⟨hz.2.2.2.1, hz.2.2.2.2⟩ hz.2.2.1
    rw [ofBytes_length]
    refine ⟨by omega, by omega, by omega, by omega, ?_⟩
    refine VC.go_loop (fun i : Nat => [.int ((be ((cut b at_ n).take i) : Nat) : Int), .int i]) (fun i => i ≤ n.toNat) (fun i => n.toNat - i) 0 ?_ (Nat.zero_le _) fun i hi => ?_
    · rfl
    · simp only [VC.H_asrt, VC.H_cond, VC.H_ret, VC.H_back, ev_var, ev_int, ev_bin, ev_add, ev_lss, ev_geq, ev_conv, ev_len, ev_idx, ev_sub, ev_fits64, ea_nil, ea_cons, env_zero, env_succ, env_cons, env_nil, List.map_cons, List.map_nil, v_int, v_bool, v_ls, pres_nil, decide_eq_true_eq, decide_eq_false_iff_not, forall_const, Int.not_lt]
      rw [sub_cut b at_ n hz.2.2.1 (by omega)]
      simp only [ofBytes_length, hl]
      refine ⟨fun hc => ⟨by omega, by omega, by omega, i + 1, ?_, by omega, by omega⟩, fun hc => ?_⟩
      · have hx := getD_toNat_lt (cut b at_ n) i
        have hv := be_take_lt (cut b at_ n) i
        have hp : 256 ^ i ≤ 256 ^ 7 := Nat.pow_le_pow_right (by decide) (by omega)
        have hp' : (256 : Nat) ^ 7 = 72057594037927936 := by decide
        have e1 : arith .shl .u64 ((be ((cut b at_ n).take i) : Nat) : Int) 8 = ((be ((cut b at_ n).take i) * 2 ^ 8 : Nat) : Int) := by
          rw [arith_shl, wrapu64]
          simp [IntKind.bits]
          omega
        simp only [Int.toNat_natCast, ofBytes_getD, C.toInt_int, e1, wrapu64]
        have e2 : (((cut b at_ n).getD i 0).toNat : Int) % 18446744073709551616 = ((((cut b at_ n).getD i 0).toNat : Nat) : Int) := by omega
        rw [e2, arith_orU rfl (by show _ < 2 ^ 64; omega) (by show _ < 2 ^ 64; omega), or_add _ _ _ (by omega), be_take_succ _ _ (by omega)]
        simp
      · rw [List.take_of_length_le (by omega)]
        simp only [getV, e, if_true]
theorem pow_lt8 (v : Nat) (h : v < 18446744073709551616) {k : Nat} (hk : k = 8) : v < 256 ^ k := by subst hk; simpa using h
def putE (v : Nat) (n : Int) : Int := if n < 1 ∨ 8 < n then 1 else if v < 256 ^ n.toNat then 0 else 6
def putB (v : Nat) (n : Int) : List UInt8 := if putE v n = 0 then toBE n.toNat v else []
theorem putE_zero {v : Nat} {n : Int} : putE v n = 0 ↔ 1 ≤ n ∧ n ≤ 8 ∧ v < 256 ^ n.toNat := by
  unfold putE
  split
  · simp; omega
  · split
    · simp [*]; omega
    · simp [*]
theorem pc_octet_Put (v : Nat) (n : Int) (h1 : v < 18446744073709551616) :
    PC Try.prog f_octet_Put [(U64, .int v), (I64, .int n)] [(Byt, B (putB v n)), (I64, .int (putE v n))] := by
  apply pcv_octet_Put rfl
  simp only [vc_octet_Put, VC.H_asrt, VC.H_cond, VC.H_ret, VC.H_call1, ev_var, ev_int, ev_bool, ev_nilS, ev_bin, ev_mul, ev_neq, ev_lss, ev_gtr, ev_geq, ev_ite, ev_conv, ev_fits64, ea_nil, ea_cons, env_zero, env_succ, env_cons, env_nil, List.map_cons, List.map_nil, v_int, v_bool, bool_ite, pres_nil, pres_cons, orT, orF, andT, andF, nnE, decide_eq_true_eq, decide_eq_false_iff_not, forall_const, and_true, Int.not_lt]
  refine ⟨fun hc => ?_, fun hc => ⟨fun h => by omega, fun h => by rw [wrapu64]; omega, fun hc' => ?_, fun hc' => ?_⟩⟩
  · have e : putE v n = 1 := by rw [putE, if_pos (by omega)]
    simp [putB, e]
  · have e : putE v n = 6 := by
      rw [putE, if_neg (by omega), if_neg]
      have h3 := hc'.2
      intro h
      apply h3
      rw [arith_shr, wrapu64]
      obtain ⟨m, rfl⟩ : ∃ m : Nat, n = m := ⟨n.toNat, by omega⟩
      have e1 : ((8 : Int) * m % 18446744073709551616).toNat = 8 * m := by omega
      rw [e1, Nat.min_eq_left (by simp [IntKind.bits]; omega)]
      simp only [Int.toNat_natCast] at h
      have : (256 : Nat) ^ m = 2 ^ (8 * m) := by rw [Nat.pow_mul]
      rw [this] at h
      exact Int.ediv_eq_zero_of_lt (by omega) (by exact_mod_cast h)
    simp [putB, e]
  · have e : putE v n = 0 := by
      rw [putE_zero]
      refine ⟨by omega, by omega, ?_⟩
      rcases hc' with h | h
      · exact pow_lt8 v h1 (by omega)
      · rw [arith_shr, wrapu64] at h
        obtain ⟨m, rfl⟩ : ∃ m : Nat, n = m := ⟨n.toNat, by omega⟩
        have e1 : ((8 : Int) * m % 18446744073709551616).toNat = 8 * m := by omega
        rw [e1, Nat.min_eq_left (by simp [IntKind.bits]; omega)] at h
        simp only [Int.toNat_natCast]
        have : (256 : Nat) ^ m = 2 ^ (8 * m) := by rw [Nat.pow_mul]
        rw [this]
        apply Nat.lt_of_not_le
        intro hle
        have h5 : v / 2 ^ (8 * m) = 0 := by exact_mod_cast h
        have h6 : 0 < v / 2 ^ (8 * m) := Nat.div_pos hle (Nat.pow_pos (by decide))
        omega
    obtain ⟨m, rfl⟩ : ∃ m : Nat, n = m := ⟨n.toNat, by omega⟩
    refine ⟨_, pc_octet_bytesOf v m h1 (by omega), ?_⟩
    simp [putB, e]

theorem eight (n : Int) (h : 1 ≤ n ∧ n ≤ 8) : n = 1 ∨ n = 2 ∨ n = 3 ∨ n = 4 ∨ n = 5 ∨ n = 6 ∨ n = 7 ∨ n = 8 := by omega
def sgnV (b : List UInt8) (at_ n : Int) : Int := if getE b.length at_ n = 0 then sgn n.toNat (getV b at_ n) else 0
theorem getV_lt' {b : List UInt8} {at_ n : Int} (e : getE b.length at_ n = 0) : getV b at_ n < 256 ^ n.toNat := by
  have h := getE_zero.1 e
  rw [getV, if_pos e]
  have := be_lt (cut b at_ n)
  rwa [cut_length ⟨h.2.2.2.1, h.2.2.2.2⟩ h.2.2.1] at this
theorem shift_sgn (v : Nat) (n : Int) (hn : 1 ≤ n ∧ n ≤ 8) (hv : v < 256 ^ n.toNat) :
    arith .shr .i64 (IntKind.i64.wrap (arith .shl .u64 (v : Int) (IntKind.u64.wrap (64 - 8 * n)))) (IntKind.u64.wrap (64 - 8 * n)) = sgn n.toNat v := by
  rw [arith_shr, arith_shl, wrapi64]
  simp only [wrapu64]
  unfold sgn
  rcases eight n hn with rfl | rfl | rfl | rfl | rfl | rfl | rfl | rfl <;> simp [IntKind.bits] at hv ⊢ <;> split <;> omega
theorem pc_octet_Signed (b : List UInt8) (at_ n : Int) (h1 : b.length ≤ 9223372036854775807) :
    PC Try.prog f_octet_Signed [(Byt, B b), (I64, .int at_), (I64, .int n)] [(I64, .int (sgnV b at_ n)), (I64, .int (getE b.length at_ n))] := by
  apply pcv_octet_Signed rfl
  simp only [vc_octet_Signed, VC.H_asrt, VC.H_cond, VC.H_ret, VC.H_call2, ev_var, ev_int, ev_bin, ev_sub', ev_mul, ev_neq, ev_geq, ev_conv, ev_fits64, ea_nil, ea_cons, env_zero, env_succ, env_cons, env_nil, List.map_cons, List.map_nil, v_int, v_bool, pres_nil, nnE, decide_eq_true_eq, decide_eq_false_iff_not, forall_const]
  refine ⟨_, _, pc_octet_Get b at_ n h1, fun he => ?_, fun he => ?_⟩
  · simp only [C.toInt_int] at he
    rw [sgnV, if_neg he]
  · simp only [C.toInt_int] at he ⊢
    have hz := getE_zero.1 he
    refine ⟨by omega, by omega, by rw [wrapu64]; omega, by rw [wrapu64]; omega, ?_⟩
    rw [shift_sgn _ _ ⟨hz.1, hz.2.1⟩ (getV_lt' he), sgnV, if_pos he, he]
def psE (s : Int) (n : Int) : Int := if n < 1 ∨ 8 < n then 1 else if -(2 : Int) ^ (8 * n.toNat - 1) ≤ s ∧ s < 2 ^ (8 * n.toNat - 1) then 0 else 6
def psB (s : Int) (n : Int) : List UInt8 := if psE s n = 0 then toBE n.toNat (s % 18446744073709551616).toNat else []
theorem psE_zero {s n : Int} : psE s n = 0 ↔ 1 ≤ n ∧ n ≤ 8 ∧ -(2 : Int) ^ (8 * n.toNat - 1) ≤ s ∧ s < 2 ^ (8 * n.toNat - 1) := by
  unfold psE
  split
  · simp; omega
  · split
    · simp [*]; omega
    · rename_i h1 h2
      simp only [Int.reduceEq, false_iff]
      intro h
      exact h2 ⟨h.2.2.1, h.2.2.2⟩
theorem shift_fits (s : Int) (n : Int) (hn : 1 ≤ n ∧ n ≤ 8) (hs : -9223372036854775808 ≤ s ∧ s ≤ 9223372036854775807) :
    arith .shr .i64 (arith .shl .i64 s (IntKind.u64.wrap (64 - 8 * n))) (IntKind.u64.wrap (64 - 8 * n)) = s ↔ -(2 : Int) ^ (8 * n.toNat - 1) ≤ s ∧ s < 2 ^ (8 * n.toNat - 1) := by
  rw [arith_shr, arith_shl, wrapi64]
  simp only [wrapu64]
  rcases eight n hn with rfl | rfl | rfl | rfl | rfl | rfl | rfl | rfl <;> simp [IntKind.bits] <;> omega
theorem pc_octet_PutSigned (s n : Int) (hs : -9223372036854775808 ≤ s ∧ s ≤ 9223372036854775807) :
    PC Try.prog f_octet_PutSigned [(I64, .int s), (I64, .int n)] [(Byt, B (psB s n)), (I64, .int (psE s n))] := by
  apply pcv_octet_PutSigned rfl
  simp only [vc_octet_PutSigned, VC.H_asrt, VC.H_cond, VC.H_ret, VC.H_call1, ev_var, ev_int, ev_bool, ev_nilS, ev_bin, ev_sub', ev_mul, ev_neq, ev_lss, ev_gtr, ev_geq, ev_ite, ev_conv, ev_fits64, ea_nil, ea_cons, env_zero, env_succ, env_cons, env_nil, List.map_cons, List.map_nil, v_int, v_bool, bool_ite, pres_nil, orT, orF, nnE, decide_eq_true_eq, decide_eq_false_iff_not, forall_const, Int.not_lt]
  refine ⟨fun hc => ?_, fun hc => ⟨by omega, by omega, by rw [wrapu64]; omega, by rw [wrapu64]; omega, fun hc' => ?_, fun hc' => ?_⟩⟩
  · have e : psE s n = 1 := by rw [psE, if_pos (by omega)]
    simp [psB, e]
  · have e : psE s n = 6 := by
      rw [psE, if_neg (by omega), if_neg]
      rwa [← shift_fits s n (by omega) hs]
    simp [psB, e]
  · have e : psE s n = 0 := by
      rw [psE_zero]
      exact ⟨by omega, by omega, (shift_fits s n (by omega) hs).1 hc'⟩
    obtain ⟨m, rfl⟩ : ∃ m : Nat, n = m := ⟨n.toNat, by omega⟩
    have e1 : IntKind.u64.wrap s = (((s % 18446744073709551616).toNat : Nat) : Int) := by rw [wrapu64]; omega
    rw [e1]
    refine ⟨_, pc_octet_bytesOf _ m (by omega) (by omega), ?_⟩
    simp only [psB, e, if_true, Int.toNat_natCast]
def setE (len at_ n : Int) (v : Nat) : Int := if putE v n ≠ 0 then putE v n else if at_ < 0 then 1 else spanE len at_ n
def put (b : List UInt8) (k : Nat) (x : List UInt8) : List UInt8 := b.take k ++ (x ++ b.drop (k + x.length))
def setB (b : List UInt8) (at_ n : Int) (v : Nat) : List UInt8 := if setE b.length at_ n v = 0 then put b at_.toNat (toBE n.toNat v) else []
theorem setE_zero {len at_ n : Int} {v : Nat} : setE len at_ n v = 0 ↔ putE v n = 0 ∧ 0 ≤ at_ ∧ at_ ≤ len ∧ n ≤ len - at_ := by
  unfold setE spanE
  split
  · simp [*]
  · split
    · simp [*]; omega
    · split <;> simp <;> omega
theorem cut_splice (b : List UInt8) (at_ n : Int) (h : (cut b at_ n).length = n.toNat) : splice (List.replicate n.toNat 0) 0 ((cut b at_ n).take n.toNat) = cut b at_ n := by
  rw [List.take_of_length_le (by omega)]
  simp [splice, h]
  rw [List.take_of_length_le (by omega)]
def partE (len at_ n : Int) : Int := if n < 0 ∨ at_ < 0 then 1 else spanE len at_ n
def partB (b : List UInt8) (at_ n : Int) : List UInt8 := if partE b.length at_ n = 0 then cut b at_ n else []
theorem partE_zero {len at_ n : Int} : partE len at_ n = 0 ↔ 0 ≤ n ∧ 0 ≤ at_ ∧ at_ ≤ len ∧ n ≤ len - at_ := by
  unfold partE spanE
  split
  · simp; omega
  · split <;> simp <;> omega
/-- Many lists of bytes. -/
abbrev Bs (l : List (List UInt8)) : C := .ls (l.map B)
theorem Bs_getD (l : List (List UInt8)) (i : Nat) (h : i < l.length) : (l.map B).getD i default = B (l.getD i []) := by
  simp [List.getD, h]
theorem flat_take (l : List (List UInt8)) (i : Nat) (h : i < l.length) : (l.take (i + 1)).flatten = (l.take i).flatten ++ l.getD i [] := by
  rw [List.take_succ_eq_append_getElem h, List.flatten_append]
  simp [List.getD, h]
theorem flat_le (l : List (List UInt8)) (i : Nat) : (l.take i).flatten.length ≤ l.flatten.length := by
  have h := congrArg (fun x : List (List UInt8) => x.flatten.length) (List.take_append_drop i l)
  simp only [List.flatten_append, List.length_append] at h
  omega
theorem pc_crossbarref01_Get (b : List UInt8) (at_ n : Int) (h1 : b.length ≤ 9223372036854775807) :
    PC Try.prog f_crossbarref01_Get [(Byt, B b), (I64, .int at_), (I64, .int n)] [(U64, .int (getV b at_ n)), (I64, .int (getE b.length at_ n))] := by
  apply pcv_crossbarref01_Get rfl
  simp only [vc_crossbarref01_Get, VC.H_asrt, VC.H_cond, VC.H_ret, ev_var, ev_int, ev_bool, ev_sub', ev_lss, ev_gtr, ev_ite, ev_len, ev_fits64, ea_nil, ea_cons, env_zero, env_succ, List.map_cons, List.map_nil, v_int, v_bool, v_ls, bool_ite, pres_nil, pres_cons, orT, orF, decide_eq_true_eq, decide_eq_false_iff_not, and_true, Int.not_lt, ofBytes_length]
  refine ⟨fun hc => ?_, fun hc => ⟨fun _ => by omega, fun hs => ?_, fun hs => ?_⟩⟩
  · have e : getE b.length at_ n = 1 := by rw [getE, if_pos (by omega)]
    simp [getV, e]
  · have e : getE b.length at_ n = 2 := by rw [getE, if_neg (by omega), spanE, if_pos (by omega)]
    simp [getV, e]
  · have e : getE b.length at_ n = 0 := by rw [getE, if_neg (by omega), spanE, if_neg (by omega)]
    have hz := getE_zero.1 e
    have hl := cut_length ⟨hz.2.2.2.1, hz.2.2.2.2⟩ hz.2.2.1
    refine VC.go_loop (fun i : Nat => [.int ((be ((cut b at_ n).take i) : Nat) : Int), .int i]) (fun i => i ≤ n.toNat) (fun i => n.toNat - i) 0 rfl (Nat.zero_le _) fun i hi => ?_
    simp only [VC.H_asrt, VC.H_cond, VC.H_ret, VC.H_back, ev_var, ev_int, ev_bin, ev_add, ev_lss, ev_geq, ev_conv, ev_len, ev_idx, ev_fits64, ea_nil, ea_cons, env_zero, env_succ, env_cons, env_nil, List.map_cons, List.map_nil, v_int, v_bool, v_ls, pres_nil, decide_eq_true_eq, decide_eq_false_iff_not, forall_const, Int.not_lt, ofBytes_length]
    refine ⟨fun hc => ⟨by omega, by omega, by omega, by omega, i + 1, ?_, by omega, by omega⟩, fun hc => ?_⟩
    · have hx := getD_toNat_lt (cut b at_ n) i
      have hv := be_take_lt (cut b at_ n) i
      have hp : 256 ^ i ≤ 256 ^ 7 := Nat.pow_le_pow_right (by decide) (by omega)
      have hp' : (256 : Nat) ^ 7 = 72057594037927936 := by decide
      have e1 : (at_ + (i : Int)).toNat = at_.toNat + i := by omega
      have e4 : b.getD (at_.toNat + i) 0 = (cut b at_ n).getD i 0 := by
        simp only [cut, List.getD_eq_getElem?_getD]
        rw [List.getElem?_take, if_pos (by omega), List.getElem?_drop]
      rw [be_take_succ _ _ (by omega)]
      simp only [e1, ofBytes_getD, e4, v_int, wrapu64, arith_add, arith_mul]
      congr 2
      · omega
    · rw [List.take_of_length_le (by omega)]
      simp only [getV, e, if_true]
theorem pow_loop {P : Program} {Post : List (Sh × C) → Prop} {B : List (List C → Prop)} {ρ : List C} {k : VC} (n : Int) (hn : 0 ≤ n)
    (h : ∀ i : Nat, i ≤ n.toNat → k.holds P Post (B ++ [fun vs => ∃ s', vs = [.int ((256 ^ s' : Nat) : Int), .int s'] ∧ s' ≤ n.toNat ∧ n.toNat - s' < n.toNat - i]) (ρ ++ [.int ((256 ^ i : Nat) : Int), .int i])) :
    (VC.loop [.int 1, .int 0] k).holds P Post B ρ :=
  VC.go_loop (fun i : Nat => [.int ((256 ^ i : Nat) : Int), .int i]) (fun i => i ≤ n.toNat) (fun i => n.toNat - i) 0 rfl (Nat.zero_le _) h
theorem pow_le7 {i : Nat} (h : i ≤ 7) : 256 ^ i ≤ 72057594037927936 := Nat.le_trans (Nat.pow_le_pow_right (by decide) h) (by decide)
theorem pc_crossbarref01_Signed (b : List UInt8) (at_ n : Int) (h1 : b.length ≤ 9223372036854775807) :
    PC Try.prog f_crossbarref01_Signed [(Byt, B b), (I64, .int at_), (I64, .int n)] [(I64, .int (sgnV b at_ n)), (I64, .int (getE b.length at_ n))] := by
  apply pcv_crossbarref01_Signed rfl
  simp only [vc_crossbarref01_Signed, VC.H_cond, VC.H_ret, VC.H_call2, ev_var, ev_int, ev_bool, ev_eql, ev_neq, ev_ite, ev_conv, ea_nil, ea_cons, env_zero, env_succ, env_cons, env_nil, List.map_cons, List.map_nil, v_int, v_bool, bool_ite, pres_nil, orT, orF, nnE, decide_eq_true_eq, decide_eq_false_iff_not, forall_const]
  refine ⟨_, _, pc_crossbarref01_Get b at_ n h1, fun he => ?_, fun he => ?_⟩
  · simp only [v_int] at he ⊢
    by_cases h0 : getE b.length at_ n = 0
    · have e8 : n = 8 := by omega
      have hv := getV_lt b at_ n
      subst e8
      have e : IntKind.i64.wrap (getV b at_ 8 : Int) = sgn 8 (getV b at_ 8) := by
        rw [wrapi64]
        unfold sgn
        simp
        split <;> omega
      rw [sgnV, if_pos h0, e]
      rfl
    · rw [sgnV, if_neg h0, getV, if_neg h0]
      rfl
  · simp only [v_int] at he ⊢
    have hz := getE_zero.1 he.1
    have hv := getV_lt' he.1
    refine pow_loop n (by omega) fun i hi => ?_
    simp only [VC.H_asrt, VC.H_cond, VC.H_ret, VC.H_back, ev_var, ev_int, ev_bin, ev_add, ev_sub', ev_mul, ev_lss, ev_geq, ev_conv, ev_fits64, ea_nil, ea_cons, env_zero, env_succ, env_cons, env_nil, List.map_cons, List.map_nil, v_int, v_bool, pres_nil, decide_eq_true_eq, decide_eq_false_iff_not, forall_const, Int.not_lt, Int.not_le]
    refine ⟨fun hc => ?_, fun hc => ?_⟩
    · have := pow_le7 (i := i + 1) (by omega)
      have e : 256 ^ (i + 1) = 256 ^ i * 256 := Nat.pow_succ ..
      refine ⟨by omega, by omega, i + 1, ?_, by omega, by omega⟩
      rw [e]
      simp
    · have hin : i = n.toNat := by omega
      subst hin
      rw [arith_quo _ _ _ (by omega), sgnV, if_pos he.1, he.1]
      simp only [wrapi64]
      unfold sgn
      generalize getV b at_ n = v at hv
      rcases eight n ⟨hz.1, hz.2.1⟩ with rfl | rfl | rfl | rfl | rfl | rfl | rfl | rfl <;> simp at hv ⊢ <;> omega
theorem pc_crossbarref01_Put (v : Nat) (n : Int) (h1 : v < 18446744073709551616) :
    PC Try.prog f_crossbarref01_Put [(U64, .int v), (I64, .int n)] [(Byt, B (putB v n)), (I64, .int (putE v n))] := by
  apply pcv_crossbarref01_Put rfl
  simp only [vc_crossbarref01_Put, VC.H_asrt, VC.H_cond, VC.H_ret, ev_var, ev_int, ev_bool, ev_nilS, ev_mul, ev_lss, ev_leq, ev_gtr, ev_geq, ev_ite, ea_nil, ea_cons, env_zero, env_succ, List.map_cons, List.map_nil, v_int, v_bool, bool_ite, pres_nil, orT, orF, decide_eq_true_eq, decide_eq_false_iff_not, forall_const, Int.not_lt]
  refine ⟨fun hc => ?_, fun hc => ⟨by omega, by omega, by omega, ?_⟩⟩
  · have e : putE v n = 1 := by rw [putE, if_pos (by omega)]
    simp [putB, e]
  · obtain ⟨m, rfl⟩ : ∃ m : Nat, n = m := ⟨n.toNat, by omega⟩
    refine VC.go_loop (fun j : Nat => [.int ((v / 256 ^ j : Nat) : Int), .int j, Go.Vc.B (List.replicate (m - j) 0 ++ toBE j v)]) (fun j => j ≤ m) (fun j => m - j) 0 ?_ (Nat.zero_le _) fun j hj => ?_
    · simp only [ev_var, ev_int, ev_rep, env_zero, env_succ, List.map_cons, List.map_nil, v_int]
      simp [toBE, ofBytes_rep]
    · simp only [VC.H_asrt, VC.H_cond, VC.H_ret, VC.H_back, ev_var, ev_int, ev_nilS, ev_bin, ev_add, ev_sub', ev_lss, ev_gtr, ev_geq, ev_conv, ev_set, ev_fits64, ea_nil, ea_cons, env_zero, env_succ, env_cons, env_nil, List.map_cons, List.map_nil, v_int, v_bool, v_ls, pres_nil, decide_eq_true_eq, decide_eq_false_iff_not, forall_const, Int.not_lt]
      refine ⟨fun hc => ⟨by omega, by omega, by omega, by omega, by omega, j + 1, ?_, by omega, by omega⟩, fun hc => ?_⟩
      · have e1 : ((m : Int) - 1 - j).toNat = m - 1 - j := by omega
        have e2 : arith .quo .u64 ((v / 256 ^ j : Nat) : Int) 256 = ((v / 256 ^ (j + 1) : Nat) : Int) := by
          have hq : v / 256 ^ j ≤ v := Nat.div_le_self _ _
          rw [Nat.pow_succ, ← Nat.div_div_eq_div_mul]
          generalize v / 256 ^ j = q at hq
          rw [arith_quo _ _ _ (by omega), wrapu64]
          omega
        have e3 : arith .rem .u64 ((v / 256 ^ j : Nat) : Int) 256 = ((v / 256 ^ j % 256 : Nat) : Int) := by
          generalize v / 256 ^ j = q
          rw [arith_rem _ _ _ (by omega)]
          omega
        have e4 : UInt8.ofNat (v / 256 ^ j % 256) = UInt8.ofNat (v / 256 ^ j) := by
          apply UInt8.toNat_inj.1
          simp
        rw [e1, e2, e3, byte_of, ofBytes_set', rep_set m j (by omega), e4, ← toBE_cons]
        simp
      · have : j = m := by omega
        subst this
        refine ⟨fun hp => ?_, fun hp => ?_⟩
        · have e : putE v j = 6 := by
            rw [putE, if_neg (by omega), if_neg]
            intro h
            rw [Int.toNat_natCast] at h
            rw [Nat.div_eq_of_lt h] at hp
            omega
          simp [putB, e]
        · have e : putE v j = 0 := by
            rw [putE_zero]
            refine ⟨by omega, by omega, Nat.lt_of_not_le fun hle => ?_⟩
            have := Nat.div_pos hle (Nat.pow_pos (by decide))
            rw [Int.toNat_natCast] at this
            omega
          simp [putB, e]
theorem pc_crossbarref01_PutSigned (s n : Int) (hs : -9223372036854775808 ≤ s ∧ s ≤ 9223372036854775807) :
    PC Try.prog f_crossbarref01_PutSigned [(I64, .int s), (I64, .int n)] [(Byt, B (psB s n)), (I64, .int (psE s n))] := by
  apply pcv_crossbarref01_PutSigned rfl
  simp only [vc_crossbarref01_PutSigned, VC.H_cond, VC.H_ret, VC.H_call2, ev_var, ev_int, ev_bool, ev_nilS, ev_eql, ev_lss, ev_gtr, ev_ite, ev_conv, ea_nil, ea_cons, env_zero, env_succ, env_cons, env_nil, List.map_cons, List.map_nil, v_int, v_bool, bool_ite, pres_nil, orT, orF, decide_eq_true_eq, decide_eq_false_iff_not, forall_const, Int.not_lt]
  have e1 : IntKind.u64.wrap s = (((s % 18446744073709551616).toNat : Nat) : Int) := by rw [wrapu64]; omega
  refine ⟨fun hc => ?_, fun hc => ⟨fun h8 => ?_, fun h8 => ?_⟩⟩
  · have e : psE s n = 1 := by rw [psE, if_pos (by omega)]
    simp [psB, e]
  · subst h8
    rw [e1]
    refine ⟨_, _, pc_crossbarref01_Put _ 8 (by omega), ?_⟩
    have e : psE s 8 = 0 := by rw [psE_zero]; simp; omega
    have e' : putE (s % 18446744073709551616).toNat 8 = 0 := by rw [putE_zero]; simp; omega
    simp [psB, e, putB, e']
  · refine pow_loop n (by omega) fun i hi => ?_
    simp only [VC.H_asrt, VC.H_cond, VC.H_ret, VC.H_back, VC.H_call2, ev_var, ev_int, ev_bool, ev_nilS, ev_bin, ev_add, ev_sub', ev_mul, ev_lss, ev_geq, ev_ite, ev_conv, ev_fits64, ea_nil, ea_cons, env_zero, env_succ, env_cons, env_nil, List.map_cons, List.map_nil, v_int, v_bool, int_ite, bool_ite, pres_nil, pres_cons, orT, orF, decide_eq_true_eq, decide_eq_false_iff_not, forall_const, and_true, Int.not_lt, Int.not_le]
    refine ⟨fun hc => ?_, fun hc => ?_⟩
    · have := pow_le7 (i := i + 1) (by omega)
      have e : 256 ^ (i + 1) = 256 ^ i * 256 := Nat.pow_succ ..
      refine ⟨by omega, by omega, i + 1, ?_, by omega, by omega⟩
      rw [e]
      simp
    · have hin : i = n.toNat := by omega
      subst hin
      have hp := pow_le7 (i := n.toNat) (by omega)
      have hpe : ((256 ^ n.toNat : Nat) : Int) = 2 * (2 : Int) ^ (8 * n.toNat - 1) := by
        rcases eight n (by omega) with rfl | rfl | rfl | rfl | rfl | rfl | rfl | rfl <;> decide
      have h0 : (0 : Int) < (2 : Int) ^ (8 * n.toNat - 1) := Int.pow_pos (by decide)
      have hp2 : 2 * (2 : Int) ^ (8 * n.toNat - 1) ≤ 72057594037927936 := by rw [← hpe]; omega
      rw [arith_quo _ _ _ (by omega), hpe, Int.mul_ediv_cancel_left _ (by decide), wrapi64_in (by omega)]
      refine ⟨by omega, fun hb => ?_, fun hb => ⟨fun hneg => by omega, ?_⟩⟩
      · have e : psE s n = 6 := by rw [psE, if_neg (by omega), if_neg (by omega)]
        simp [psB, e]
      · have e : psE s n = 0 := by rw [psE_zero]; omega
        have hz := psE_zero.1 e
        let t : Nat := (s % (256 ^ n.toNat : Nat)).toNat
        have ht0 : (0 : Int) ≤ s % (256 ^ n.toNat : Nat) := Int.emod_nonneg _ (by have := Nat.pow_pos (n := n.toNat) (show 0 < 256 by decide); omega)
        have ht : (if s < 0 then s + 2 * (2 : Int) ^ (8 * n.toNat - 1) else s) = (t : Int) := by
          show _ = ((s % (256 ^ n.toNat : Nat)).toNat : Int)
          rw [Int.toNat_of_nonneg ht0, hpe]
          split
          · rw [← Int.add_emod_right, Int.emod_eq_of_lt (by omega) (by omega)]
          · rw [Int.emod_eq_of_lt (by omega) (by omega)]
        have htl : t < 256 ^ n.toNat := by
          have : (0 : Int) < (256 ^ n.toNat : Nat) := by have := Nat.pow_pos (n := n.toNat) (show 0 < 256 by decide); omega
          have h3 := Int.emod_lt_of_pos s this
          show (s % (256 ^ n.toNat : Nat)).toNat < _
          omega
        have e2 : IntKind.u64.wrap (t : Int) = (t : Int) := by rw [wrapu64]; omega
        rw [ht, e2]
        refine ⟨_, _, pc_crossbarref01_Put t n (by omega), ?_⟩
        have e' : putE t n = 0 := by rw [putE_zero]; omega
        have e5 : toBE n.toNat t = toBE n.toNat (s % 18446744073709551616).toNat := by
          rw [← toBE_mod n.toNat (s % 18446744073709551616).toNat]
          congr 1
          show (s % (256 ^ n.toNat : Nat)).toNat = _
          rcases eight n (by omega) with rfl | rfl | rfl | rfl | rfl | rfl | rfl | rfl <;> simp <;> omega
        simp [psB, e, putB, e', e5]
theorem pc_crossbarref01_Must (v : Nat) (n : Int) (h1 : v < 18446744073709551616) :
    PC Try.prog f_crossbarref01_Must [(U64, .int v), (I64, .int n)] [(Byt, B (putB v n))] := by
  apply pcv_crossbarref01_Must rfl
  simp only [vc_crossbarref01_Must, VC.H_ret, VC.H_call2, ev_var, ea_nil, ea_cons, env_zero, env_succ, env_cons, env_nil, List.map_cons, List.map_nil, pres_nil, forall_const]
  exact ⟨_, _, pc_crossbarref01_Put v n h1, rfl⟩
end Go.Vc
