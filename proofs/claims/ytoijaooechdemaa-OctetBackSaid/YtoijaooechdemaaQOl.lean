/-
  The laws of octet: each function returns true, whatever it is handed.
-/
import Derived.Test.YtoijaooechdemaaQVol
import Derived.Test.YtoijaooechdemaaQOc
import Derived.Test.YtoijaooechdemaaQBase2
set_option maxRecDepth 100000
namespace Go.Vc
open Go Go.Proofs Go.Plain
theorem ty_i64 {c : C} (h : Ty I64 c) : ∃ n : Int, c = .int n ∧ -9223372036854775808 ≤ n ∧ n ≤ 9223372036854775807 := ty_int h
theorem ty_u64 {c : C} (h : Ty U64 c) : ∃ n : Nat, c = .int n ∧ n < 18446744073709551616 := ty_nat rfl h
theorem law_OctetRight (cs : List C) (h : TyAll [Byt, I64, I64, U64, I64] cs) : PC Try.prog f_crossbarlaw01_OctetRight ([Byt, I64, I64, U64, I64].zip cs) [(.bool, .bool true)] := by
  obtain ⟨_, _, rfl, h1, _, _, rfl, h2, _, _, rfl, h3, _, _, rfl, h4, _, _, rfl, h5, rfl⟩ := h
  obtain ⟨b, rfl⟩ := ty_bytes h1
  obtain ⟨at_, rfl, ha⟩ := ty_i64 h2
  obtain ⟨n, rfl, hn⟩ := ty_i64 h3
  obtain ⟨v, rfl, hv⟩ := ty_u64 h4
  obtain ⟨s, rfl, hs⟩ := ty_i64 h5
  apply pcv_crossbarlaw01_OctetRight rfl
  simp only [vc_crossbarlaw01_OctetRight, VC.H_cond, VC.H_ret, VC.H_call1, VC.H_call2, ev_var, ev_int, ev_bool, ev_eql, ev_neq, ev_gtr, ev_seql, ev_sneq, ev_not, ev_ite, ev_len, ev_toStr, ea_nil, ea_cons, env_zero, env_succ, env_cons, env_nil, List.map_cons, List.map_nil, List.zip_cons_cons, List.zip_nil_right, v_int, v_bool, v_str, v_ls, toBool_ite, pres_nil, orT, orF, notT, notF, nnE, decide_eq_true_eq, decide_eq_false_iff_not, forall_const, Int.not_lt]
  refine ⟨_, pc_crossbarlaw01_awake, fun h => by simp at h, fun _ => ⟨fun _ => trivial, fun hb => ?_⟩⟩
  rw [ofBytes_length] at hb
  refine ⟨_, _, pc_octet_Get b at_ n (by omega), _, _, pc_crossbarref01_Get b at_ n (by omega), fun h => by simp at h, fun _ => ?_⟩
  refine ⟨_, _, pc_octet_Signed b at_ n (by omega), _, _, pc_crossbarref01_Signed b at_ n (by omega), fun h => by simp at h, fun _ => ?_⟩
  refine ⟨_, _, pc_octet_Put v n (by omega), _, _, pc_crossbarref01_Put v n (by omega), fun h => by simp at h, fun _ => ?_⟩
  refine ⟨_, _, pc_octet_PutSigned s n (by omega), _, _, pc_crossbarref01_PutSigned s n (by omega), fun h => by simp at h, fun _ => ?_⟩
  refine ⟨_, _, pc_octet_Set b at_ n v (by omega) (by omega), _, _, pc_crossbarref01_Set b at_ n v (by omega) (by omega), ?_⟩
  simp

/-! What the plain functions say of each other. -/
theorem put_length {b x : List UInt8} {k : Nat} (h : k + x.length ≤ b.length) : (put b k x).length = b.length := by
  simp [put]; omega
theorem put_cut {b x : List UInt8} {k : Nat} (h : k + x.length ≤ b.length) : ((put b k x).drop k).take x.length = x := by
  have e : (b.take k).length = k := by simp; omega
  simp only [put]
  rw [List.drop_append, e, List.drop_of_length_le (by omega)]
  simp
theorem put_put {b x y : List UInt8} {k : Nat} (h : k + x.length ≤ b.length) (hy : y.length = x.length) : put (put b k x) k y = put b k y := by
  have e : (b.take k).length = k := by simp; omega
  simp only [put, hy]
  rw [List.take_append, e, List.take_of_length_le (by omega)]
  have e2 : List.drop (k + x.length) (b.take k ++ (x ++ b.drop (k + x.length))) = b.drop (k + x.length) := by
    rw [List.drop_append, e, List.drop_of_length_le (by omega), List.nil_append, List.drop_append]
    simp
  rw [e2]
  simp
theorem put_self {b x : List UInt8} {k : Nat} (h : k + x.length ≤ b.length) (hx : (b.drop k).take x.length = x) : put b k x = b := by
  simp only [put]
  conv => lhs; rw [← hx]
  have e : ((b.drop k).take x.length).length = x.length := by simp; omega
  rw [e, ← List.drop_drop, List.take_append_drop, List.take_append_drop]
theorem put_get {b x : List UInt8} {k i : Nat} (h : k + x.length ≤ b.length) : (put b k x)[i]? = if k ≤ i ∧ i < k + x.length then x[i - k]? else b[i]? := by
  have e : (b.take k).length = k := by simp; omega
  simp only [put]
  by_cases h1 : i < k
  · rw [List.getElem?_append_left (by omega), if_neg (by omega), List.getElem?_take, if_pos h1]
  · rw [List.getElem?_append_right (by omega), e]
    by_cases h2 : i < k + x.length
    · rw [List.getElem?_append_left (by omega), if_pos (by omega)]
    · rw [List.getElem?_append_right (by omega), if_neg (by omega), List.getElem?_drop]
      congr 1
      omega
theorem put_comm {b x y : List UInt8} {k m : Nat} (h : k + x.length ≤ b.length) (h' : m + y.length ≤ b.length) (hd : k + x.length ≤ m ∨ m + y.length ≤ k) : put (put b k x) m y = put (put b m y) k x := by
  apply List.ext_getElem?
  intro i
  rw [put_get (by rw [put_length h]; exact h'), put_get h, put_get (by rw [put_length h']; exact h), put_get h']
  split <;> split <;> first | rfl | (exfalso; omega)
theorem setB_ok {b : List UInt8} {at_ n : Int} {v : Nat} (e : setE b.length at_ n v = 0) : setB b at_ n v = put b at_.toNat (toBE n.toNat v) := by rw [setB, if_pos e]
theorem setB_room {b : List UInt8} {at_ n : Int} {v : Nat} (e : setE b.length at_ n v = 0) : at_.toNat + (toBE n.toNat v).length ≤ b.length := by
  have h := setE_zero.1 e
  have h' := putE_zero.1 h.1
  rw [toBE_length]
  omega
theorem setB_length {b : List UInt8} {at_ n : Int} {v : Nat} (e : setE b.length at_ n v = 0) : (setB b at_ n v).length = b.length := by rw [setB_ok e, put_length (setB_room e)]
theorem setE_get {len at_ n : Int} {v : Nat} (e : setE len at_ n v = 0) : getE len at_ n = 0 := by
  have h := setE_zero.1 e
  have h' := putE_zero.1 h.1
  rw [getE_zero]
  omega
theorem get_set {b : List UInt8} {at_ n : Int} {v : Nat} (e : setE b.length at_ n v = 0) : getV (setB b at_ n v) at_ n = v := by
  have h := setE_zero.1 e
  have h' := putE_zero.1 h.1
  have hr := setB_room e
  rw [getV, setB_length e, if_pos (setE_get e), setB_ok e, cut]
  have := put_cut hr
  rw [toBE_length] at this
  rw [this, be_toBE, Nat.mod_eq_of_lt h'.2.2]
theorem set_was {b : List UInt8} {at_ n : Int} {v : Nat} (e : setE b.length at_ n v = 0) :
    setE (setB b at_ n v).length at_ n (getV b at_ n) = 0 ∧ setB (setB b at_ n v) at_ n (getV b at_ n) = b := by
  have hg := setE_get e
  have h := setE_zero.1 e
  have hz := getE_zero.1 hg
  have hr := setB_room e
  have hv := getV_lt' hg
  have e1 : setE (setB b at_ n v).length at_ n (getV b at_ n) = 0 := by
    rw [setB_length e, setE_zero, putE_zero]
    exact ⟨⟨hz.1, hz.2.1, hv⟩, h.2.1, h.2.2.1, h.2.2.2⟩
  refine ⟨e1, ?_⟩
  have hc : (cut b at_ n).length = n.toNat := cut_length ⟨hz.2.2.2.1, hz.2.2.2.2⟩ hz.2.2.1
  have e2 : toBE n.toNat (getV b at_ n) = cut b at_ n := by
    rw [getV, if_pos hg]
    exact toBE_be _ _ hc
  rw [setB_ok e1, setB_ok e, put_put hr (by rw [toBE_length, toBE_length]), e2]
  apply put_self
  · rw [hc]; rw [toBE_length] at hr; exact hr
  · rw [hc]; rfl
theorem set_other {b : List UInt8} {at_ n : Int} {v : Nat} {i : Nat} (e : setE b.length at_ n v = 0) (h : (i : Int) < at_ ∨ n ≤ i - at_) : (setB b at_ n v).getD i 0 = b.getD i 0 := by
  have hz := setE_zero.1 e
  have hp := putE_zero.1 hz.1
  have hr := setB_room e
  rw [setB_ok e, List.getD_eq_getElem?_getD, List.getD_eq_getElem?_getD, put_get hr, if_neg]
  rw [toBE_length]
  omega
theorem set_two {b : List UInt8} {at_ n too m : Int} {v w : Nat} (e : setE b.length at_ n v = 0) (e' : setE b.length too m w = 0) (hd : at_ + n ≤ too ∨ too + m ≤ at_) :
    setB (setB b at_ n v) too m w = setB (setB b too m w) at_ n v := by
  have h := setE_zero.1 e
  have h' := setE_zero.1 e'
  have hp := putE_zero.1 h.1
  have hp' := putE_zero.1 h'.1
  have hr := setB_room e
  have hr' := setB_room e'
  have e1 : setE (setB b at_ n v).length too m w = 0 := by rw [setB_length e]; exact e'
  have e2 : setE (setB b too m w).length at_ n v = 0 := by rw [setB_length e']; exact e
  rw [setB_ok e1, setB_ok e2, setB_ok e, setB_ok e']
  apply put_comm hr hr'
  rw [toBE_length, toBE_length]
  omega
theorem law_OctetSet (cs : List C) (h : TyAll [Byt, I64, I64, I64, I64, U64, U64] cs) : PC Try.prog f_crossbarlaw01_OctetSet ([Byt, I64, I64, I64, I64, U64, U64].zip cs) [(.bool, .bool true)] := by
  obtain ⟨_, _, rfl, h1, _, _, rfl, h2, _, _, rfl, h3, _, _, rfl, h4, _, _, rfl, h5, _, _, rfl, h6, _, _, rfl, h7, rfl⟩ := h
  obtain ⟨b, rfl⟩ := ty_bytes h1
  obtain ⟨at_, rfl, ha⟩ := ty_i64 h2
  obtain ⟨n, rfl, hn⟩ := ty_i64 h3
  obtain ⟨too, rfl, ht⟩ := ty_i64 h4
  obtain ⟨m, rfl, hm⟩ := ty_i64 h5
  obtain ⟨v, rfl, hv⟩ := ty_u64 h6
  obtain ⟨w, rfl, hw⟩ := ty_u64 h7
  apply pcv_crossbarlaw01_OctetSet rfl
  simp only [vc_crossbarlaw01_OctetSet, VC.H_cond, VC.H_ret, VC.H_call1, VC.H_call2, ev_var, ev_int, ev_bool, ev_eql, ev_neq, ev_gtr, ev_sneq, ev_not, ev_ite, ev_len, ev_toStr, ea_nil, ea_cons, env_zero, env_succ, env_cons, env_nil, List.map_cons, List.map_nil, List.zip_cons_cons, List.zip_nil_right, v_int, v_bool, v_str, v_ls, toBool_ite, pres_nil, orT, orF, notT, notF, nnE, decide_eq_true_eq, decide_eq_false_iff_not, forall_const, Int.not_lt]
  refine ⟨_, pc_crossbarlaw01_awake, fun h => by simp at h, fun _ => ⟨fun _ => trivial, fun hb => ?_⟩⟩
  rw [ofBytes_length] at hb
  refine ⟨_, _, pc_octet_Set b at_ n v (by omega) hv, fun he => ?_, fun he => ?_⟩
  · simp only [v_int, v_ls] at he ⊢
    rw [setB, if_neg he]
    rfl
  simp only [v_int] at he
  have hl := setB_length he
  refine ⟨_, _, pc_octet_Get _ at_ n (by omega), _, _, pc_octet_Get b at_ n (by omega), _, _, pc_octet_Set _ at_ n _ (by omega) (getV_lt b at_ n), fun hc => ?_, fun _ => ?_⟩
  · exfalso
    simp only [v_int, v_ls, bytesOf_ofBytes, ofBytes_length, hl, get_set he, (set_was he).2, setE_get he] at hc
    rw [← hl, (set_was he).1] at hc
    simp at hc
  refine VC.go_loop (fun i : Nat => [.bool false, .int i]) (fun i => i ≤ b.length) (fun i => b.length - i) 0 rfl (Nat.zero_le _) fun i hi => ?_
  simp only [VC.H_asrt, VC.H_cond, VC.H_ret, VC.H_back, VC.H_call2, ev_var, ev_int, ev_bool, ev_add, ev_sub', ev_eql, ev_neq, ev_lss, ev_geq, ev_seql, ev_ite, ev_len, ev_idx, ev_toStr, ev_fits64, ea_nil, ea_cons, env_zero, env_succ, env_cons, env_nil, List.map_cons, List.map_nil, v_int, v_bool, v_str, v_ls, toBool_ite, pres_nil, pres_cons, orT, orF, andT, andF, nnE, decide_eq_true_eq, decide_eq_false_iff_not, forall_const, and_true, Int.not_lt, ofBytes_length, hl]
  have hz0 := setE_zero.1 he
  refine ⟨fun hc => ⟨fun _ => by omega, fun _ => by omega, fun _ => by omega, fun _ => by omega, fun _ => by omega, fun hx => ?_, fun hx => ⟨by omega, i + 1, by simp, by omega, by omega⟩⟩, fun hc => ?_⟩
  · exfalso
    obtain ⟨hx1, hx2⟩ := hx
    apply hx2
    rw [Int.toNat_natCast, ofBytes_getD, ofBytes_getD, set_other he (by omega)]
  refine ⟨_, _, pc_octet_Set _ too m w (by omega) hw, _, _, pc_octet_Set b too m w (by omega) hw, fun hc => ?_, fun hc => ⟨fun h0 => ?_, fun h0 => ?_, fun h0 => trivial, fun h0 => ?_⟩⟩
  · exfalso
    simp [hl] at hc
  · have hz := setE_zero.1 he
    simp only [v_int, hl] at h0
    omega
  · have hz := setE_zero.1 he
    simp only [v_int, hl] at h0
    have hz' := setE_zero.1 h0.1
    omega
  · have hz := setE_zero.1 he
    have hp := putE_zero.1 hz.1
    simp only [v_int, hl] at h0
    have hz' := setE_zero.1 h0.1
    have hp' := putE_zero.1 hz'.1
    have hl' := setB_length h0.1
    refine ⟨_, _, pc_octet_Set _ at_ n v (by omega) hv, ?_⟩
    simp only [v_int, v_ls, bytesOf_ofBytes, hl', he, set_two he h0.1 (by omega)]
    simp

theorem part_join {b : List UInt8} {at_ n : Int} (h : partE b.length at_ n = 0) : (cut b 0 at_ ++ (cut b at_ n ++ (cut b (at_ + n) (b.length - at_ - n) ++ []))) = b := by
  have hz := partE_zero.1 h
  simp only [cut, List.append_nil]
  have e1 : (at_ + n).toNat = at_.toNat + n.toNat := by omega
  have e2 : ((b.length : Int) - at_ - n).toNat = b.length - at_.toNat - n.toNat := by omega
  rw [e1, e2, List.take_of_length_le (l := b.drop (at_.toNat + n.toNat)) (by simp; omega), ← List.drop_drop, List.take_append_drop]
  show (b.drop 0).take at_.toNat ++ _ = _
  simp
theorem cut_cut {b : List UInt8} {at_ n i m : Int} (h : partE b.length at_ n = 0) (h' : partE n i m = 0) : cut (cut b at_ n) i m = cut b (at_ + i) m := by
  have hz := partE_zero.1 h
  have hz' := partE_zero.1 h'
  simp only [cut]
  have e1 : (at_ + i).toNat = at_.toNat + i.toNat := by omega
  rw [List.drop_take, List.drop_drop, List.take_take, Nat.min_eq_left (by omega), e1]
theorem partB_ok {b : List UInt8} {at_ n : Int} (h : partE b.length at_ n = 0) : partB b at_ n = cut b at_ n ∧ (partB b at_ n).length = n.toNat := by
  have hz := partE_zero.1 h
  rw [partB, if_pos h]
  exact ⟨rfl, cut_length ⟨hz.2.2.1, hz.2.2.2⟩ hz.2.1⟩
theorem law_OctetJoin (cs : List C) (h : TyAll [Byt, I64, I64, I64, I64] cs) : PC Try.prog f_crossbarlaw01_OctetJoin ([Byt, I64, I64, I64, I64].zip cs) [(.bool, .bool true)] := by
  obtain ⟨_, _, rfl, h1, _, _, rfl, h2, _, _, rfl, h3, _, _, rfl, h4, _, _, rfl, h5, rfl⟩ := h
  obtain ⟨b, rfl⟩ := ty_bytes h1
  obtain ⟨at_, rfl, ha⟩ := ty_i64 h2
  obtain ⟨n, rfl, hn⟩ := ty_i64 h3
  obtain ⟨i, rfl, hi⟩ := ty_i64 h4
  obtain ⟨m, rfl, hm⟩ := ty_i64 h5
  apply pcv_crossbarlaw01_OctetJoin rfl
  simp only [vc_crossbarlaw01_OctetJoin, VC.H_asrt, VC.H_cond, VC.H_ret, VC.H_call1, VC.H_call2, ev_var, ev_int, ev_bool, ev_nil, ev_cons, ev_add, ev_sub', ev_eql, ev_neq, ev_lss, ev_gtr, ev_seql, ev_sneq, ev_beq, ev_not, ev_ite, ev_len, ev_toStr, ev_fits64, ea_nil, ea_cons, env_zero, env_succ, env_cons, env_nil, List.map_cons, List.map_nil, List.zip_cons_cons, List.zip_nil_right, v_int, v_bool, v_str, v_ls, toBool_ite, pres_nil, pres_cons, orT, orF, notT, notF, nnE, decide_eq_true_eq, decide_eq_false_iff_not, forall_const, and_true, Int.not_lt]
  refine ⟨_, pc_crossbarlaw01_awake, fun h => by simp at h, fun _ => ⟨fun _ => trivial, fun hb => ?_⟩⟩
  rw [ofBytes_length] at hb
  refine ⟨_, _, pc_octet_Part b at_ n (by omega), fun he => ?_, fun he => ?_⟩
  · simp only [v_int, v_ls] at he ⊢
    rw [partB, if_neg he]
    have : partE b.length at_ n = 1 ↔ at_ < 0 ∨ n < 0 := by
      unfold partE spanE
      split
      · simp; omega
      · split <;> simp <;> omega
    by_cases hx : partE b.length at_ n = 1
    · simp [hx]; omega
    · simp [hx]; omega
  simp only [v_int] at he
  have hz := partE_zero.1 he
  have hp := partB_ok he
  have e1 : partE b.length 0 at_ = 0 := by rw [partE_zero]; omega
  have e2 : partE b.length (at_ + n) (b.length - at_ - n) = 0 := by rw [partE_zero]; omega
  have hp1 := partB_ok e1
  have hp2 := partB_ok e2
  simp only [ofBytes_length]
  refine ⟨_, _, pc_octet_Part b 0 at_ (by omega), by omega, by omega, by omega, _, _, pc_octet_Part b _ _ (by omega), ?_⟩
  have hj := part_join he
  refine ⟨_, fun _ => pc_octet_Join [partB b 0 at_, partB b at_ n, partB b (at_ + n) (b.length - at_ - n)] (by simp) ?_, fun hc => ?_, fun _ => ?_⟩
  · simp only [List.flatten_cons, List.flatten_nil, hp.1, hp1.1, hp2.1, hj]
    omega
  · exfalso
    simp only [v_int, v_ls, bytesOf_ofBytes, ofBytes_length, List.flatten_cons, List.flatten_nil] at hc
    rw [hp.2, hp.1, hp1.1, hp2.1, hj, e1, e2] at hc
    have hn0 : (n.toNat : Int) = n := by omega
    simp [hn0] at hc
  · refine ⟨_, _, pc_octet_Part (partB b at_ n) i m (by omega), fun hx => ?_, fun hx => ?_⟩
    · simp only [v_int, v_ls] at hx ⊢
      rw [partB, if_neg hx]
      rfl
    · simp only [v_int] at hx
      have hn' : ((partB b at_ n).length : Int) = n := by rw [hp.2]; omega
      have hx' : partE n i m = 0 := by rw [hn'] at hx; exact hx
      have hz' := partE_zero.1 hx'
      have e3 : partE b.length (at_ + i) m = 0 := by rw [partE_zero]; omega
      refine ⟨by omega, _, _, pc_octet_Part b _ m (by omega), ?_⟩
      simp only [v_int, v_ls, bytesOf_ofBytes]
      rw [(partB_ok hx).1, (partB_ok e3).1, hp.1, cut_cut he hx', e3]
      simp
theorem cut_mid (b x c : List UInt8) (n : Int) (h : x.length = n.toNat) : cut (b ++ (x ++ c)) b.length n = x := by
  simp only [cut, Int.toNat_natCast]
  rw [List.drop_append, List.drop_of_length_le (Nat.le_refl _)]
  simp [← h]
theorem putB_ok {v : Nat} {n : Int} (h : putE v n = 0) : putB v n = toBE n.toNat v ∧ (putB v n).length = n.toNat := by
  rw [putB, if_pos h]
  exact ⟨rfl, toBE_length _ _⟩
theorem psB_ok {v : Int} {n : Int} (h : psE v n = 0) : psB v n = toBE n.toNat (v % 18446744073709551616).toNat ∧ (psB v n).length = n.toNat := by
  rw [psB, if_pos h]
  exact ⟨rfl, toBE_length _ _⟩
theorem get_mid {b c : List UInt8} {v : Nat} {n : Int} (h : putE v n = 0) : getE (b ++ (putB v n ++ c)).length b.length n = 0 ∧ getV (b ++ (putB v n ++ c)) b.length n = v := by
  have hz := putE_zero.1 h
  have hp := putB_ok h
  have e : getE (b ++ (putB v n ++ c)).length b.length n = 0 := by
    rw [getE_zero]
    simp only [List.length_append, hp.2]
    omega
  refine ⟨e, ?_⟩
  rw [getV, if_pos e, cut_mid _ _ _ _ hp.2, hp.1, be_toBE, Nat.mod_eq_of_lt hz.2.2]
theorem sgn_mid {b c : List UInt8} {v : Int} {n : Int} (h : psE v n = 0) : getE (b ++ (psB v n ++ c)).length b.length n = 0 ∧ sgnV (b ++ (psB v n ++ c)) b.length n = v := by
  have hz := psE_zero.1 h
  have hp := psB_ok h
  have e : getE (b ++ (psB v n ++ c)).length b.length n = 0 := by
    rw [getE_zero]
    simp only [List.length_append, hp.2]
    omega
  refine ⟨e, ?_⟩
  rw [sgnV, if_pos e, getV, if_pos e, cut_mid _ _ _ _ hp.2, hp.1, be_toBE]
  unfold sgn
  rcases eight n ⟨hz.1, hz.2.1⟩ with rfl | rfl | rfl | rfl | rfl | rfl | rfl | rfl <;> simp at hz ⊢ <;> split <;> omega
theorem put_get_ {b : List UInt8} {at_ n : Int} (h : getE b.length at_ n = 0) : putE (getV b at_ n) n = 0 ∧ putB (getV b at_ n) n = partB b at_ n ∧ partE b.length at_ n = 0 := by
  have hz := getE_zero.1 h
  have hv := getV_lt' h
  have e : putE (getV b at_ n) n = 0 := by rw [putE_zero]; exact ⟨hz.1, hz.2.1, hv⟩
  have e' : partE b.length at_ n = 0 := by rw [partE_zero]; omega
  refine ⟨e, ?_, e'⟩
  have hc : (cut b at_ n).length = n.toNat := cut_length ⟨hz.2.2.2.1, hz.2.2.2.2⟩ hz.2.2.1
  rw [(putB_ok e).1, (partB_ok e').1, getV, if_pos h, toBE_be _ _ hc]
theorem ps_sgn {b : List UInt8} {at_ n : Int} (h : getE b.length at_ n = 0) : psE (sgnV b at_ n) n = 0 ∧ psB (sgnV b at_ n) n = partB b at_ n := by
  have hz := getE_zero.1 h
  have hv := getV_lt' h
  have hp := put_get_ h
  have e : psE (sgnV b at_ n) n = 0 := by
    rw [psE_zero, sgnV, if_pos h]
    unfold sgn
    rcases eight n ⟨hz.1, hz.2.1⟩ with rfl | rfl | rfl | rfl | rfl | rfl | rfl | rfl <;> simp at hv ⊢ <;> split <;> omega
  refine ⟨e, ?_⟩
  rw [(psB_ok e).1, ← hp.2.1, (putB_ok hp.1).1, ← toBE_mod]
  congr 1
  rw [sgnV, if_pos h]
  unfold sgn
  rcases eight n ⟨hz.1, hz.2.1⟩ with rfl | rfl | rfl | rfl | rfl | rfl | rfl | rfl <;> simp at hv ⊢ <;> split <;> omega
theorem sgnV_range {b : List UInt8} {at_ n : Int} : -9223372036854775808 ≤ sgnV b at_ n ∧ sgnV b at_ n ≤ 9223372036854775807 := by
  by_cases h : getE b.length at_ n = 0
  · have hz := getE_zero.1 h
    have h1 := psE_zero.1 (ps_sgn h).1
    have h2 : (2 : Int) ^ (8 * n.toNat - 1) ≤ 2 ^ 63 := by
      rcases eight n ⟨hz.1, hz.2.1⟩ with rfl | rfl | rfl | rfl | rfl | rfl | rfl | rfl <;> decide
    have h3 : (2 : Int) ^ 63 = 9223372036854775808 := by decide
    omega
  · rw [sgnV, if_neg h]; omega
theorem law_OctetBack (cs : List C) (h : TyAll [Byt, I64, I64, U64, U64, I64] cs) : PC Try.prog f_crossbarlaw01_OctetBack ([Byt, I64, I64, U64, U64, I64].zip cs) [(.bool, .bool true)] := by
  obtain ⟨_, _, rfl, h1, _, _, rfl, h2, _, _, rfl, h3, _, _, rfl, h4, _, _, rfl, h5, _, _, rfl, h6, rfl⟩ := h
  obtain ⟨b, rfl⟩ := ty_bytes h1
  obtain ⟨at_, rfl, ha⟩ := ty_i64 h2
  obtain ⟨n, rfl, hn⟩ := ty_i64 h3
  obtain ⟨v, rfl, hv⟩ := ty_u64 h4
  obtain ⟨w, rfl, hw⟩ := ty_u64 h5
  obtain ⟨s, rfl, hs⟩ := ty_i64 h6
  apply pcv_crossbarlaw01_OctetBack rfl
  simp only [vc_crossbarlaw01_OctetBack, VC.H_cond, VC.H_ret, VC.H_call1, VC.H_call2, ev_var, ev_int, ev_bool, ev_nil, ev_cons, ev_eql, ev_neq, ev_gtr, ev_seql, ev_beq, ev_not, ev_ite, ev_len, ev_toStr, ea_nil, ea_cons, env_zero, env_succ, env_cons, env_nil, List.map_cons, List.map_nil, List.zip_cons_cons, List.zip_nil_right, v_int, v_bool, v_str, v_ls, toBool_ite, pres_nil, orT, orF, andT, andF, notT, notF, nnE, decide_eq_true_eq, decide_eq_false_iff_not, forall_const, Int.not_lt]
  refine ⟨_, pc_crossbarlaw01_awake, fun h => by simp at h, fun _ => ⟨fun _ => trivial, fun hb => ?_⟩⟩
  rw [ofBytes_length] at hb
  have hl1 : ∀ x : List UInt8, x.length ≤ 8 → ([b, x, b].flatten).length ≤ 140737488355328 := by
    intro x hx; simp; omega
  have hl2 : ∀ x : List UInt8, x.length ≤ 8 → ([b, x].flatten).length ≤ 140737488355328 := by
    intro x hx; simp; omega
  have lp : ∀ u, (putB u n).length ≤ 8 := by
    intro u
    by_cases h : putE u n = 0
    · have := putE_zero.1 h; rw [(putB_ok h).2]; omega
    · rw [putB, if_neg h]; simp
  have ls_ : (psB s n).length ≤ 8 := by
    by_cases h : psE s n = 0
    · have := psE_zero.1 h; rw [(psB_ok h).2]; omega
    · rw [psB, if_neg h]; simp
  refine ⟨_, _, pc_octet_Put v n hv, fun he => ?_, fun he => ?_⟩
  · simp only [v_int, ofBytes_length] at he ⊢
    have hm := get_mid (b := b) (c := b ++ []) he
    have hz := putE_zero.1 he
    refine ⟨_, pc_octet_Join [b, putB v n, b] (by simp) (hl1 _ (lp v)), _, _, pc_octet_Get _ _ n (by have := hl1 _ (lp v); omega), _, _, pc_octet_Put w n hw, fun hc => ?_, fun _ => ?_⟩
    · exfalso
      simp only [List.flatten_cons, List.flatten_nil, v_int, v_ls, hm.1, hm.2, ofBytes_length, (putB_ok he).2, bytesOf_ofBytes] at hc
      simp at hc
      rcases hc with hc | hc
      · omega
      · have hz' := putE_zero.1 hc.1
        apply hc.2
        rw [(putB_ok he).1, (putB_ok hc.1).1]
        have : toBE n.toNat v = toBE n.toNat w ↔ v = w := ⟨toBE_inj hz.2.2 hz'.2.2, fun h => by rw [h]⟩
        have e : ((v : Int) = (w : Int)) ↔ v = w := by omega
        simp [this, e]
    · refine ⟨_, _, pc_octet_PutSigned s n hs, fun he' => ?_, fun he' => ?_⟩
      · simp only [v_int] at he'
        have hm := sgn_mid (b := b) (c := []) he'
        have hz' := psE_zero.1 he'
        refine ⟨_, pc_octet_Join [b, psB s n] (by simp) (hl2 _ ls_), _, _, pc_octet_Signed _ _ n (by have := hl2 _ ls_; omega), fun hc => ?_, fun _ => ?_⟩
        · exfalso
          simp only [List.flatten_cons, List.flatten_nil, v_int, v_ls, hm.1, hm.2, ofBytes_length, (psB_ok he').2] at hc
          simp at hc
          omega
        · refine ⟨_, _, pc_octet_Get b at_ n (by omega), _, _, pc_octet_Signed b at_ n (by omega), fun hg => ?_, fun hg => ?_⟩
          · simp only [v_int] at hg ⊢
            rw [getV, if_neg hg, sgnV, if_neg hg]
            simp
          · simp only [v_int] at hg ⊢
            refine ⟨_, _, pc_octet_Put _ n (getV_lt b at_ n), _, _, pc_octet_PutSigned _ n sgnV_range, _, _, pc_octet_Part b at_ n (by omega), ?_⟩
            simp only [v_int, v_ls, bytesOf_ofBytes, (put_get_ hg).1, (put_get_ hg).2.1, (put_get_ hg).2.2, (ps_sgn hg).1, (ps_sgn hg).2]
            simp
      · refine ⟨_, _, pc_octet_Get b at_ n (by omega), _, _, pc_octet_Signed b at_ n (by omega), fun hg => ?_, fun hg => ?_⟩
        · simp only [v_int] at hg ⊢
          rw [getV, if_neg hg, sgnV, if_neg hg]
          simp
        · simp only [v_int] at hg ⊢
          refine ⟨_, _, pc_octet_Put _ n (getV_lt b at_ n), _, _, pc_octet_PutSigned _ n sgnV_range, _, _, pc_octet_Part b at_ n (by omega), ?_⟩
          simp only [v_int, v_ls, bytesOf_ofBytes, (put_get_ hg).1, (put_get_ hg).2.1, (put_get_ hg).2.2, (ps_sgn hg).1, (ps_sgn hg).2]
          simp
  · refine ⟨_, _, pc_octet_PutSigned s n hs, fun he' => ?_, fun he' => ?_⟩
    · simp only [v_int, ofBytes_length] at he' ⊢
      have hm := sgn_mid (b := b) (c := []) he'
      have hz' := psE_zero.1 he'
      refine ⟨_, pc_octet_Join [b, psB s n] (by simp) (hl2 _ ls_), _, _, pc_octet_Signed _ _ n (by have := hl2 _ ls_; omega), fun hc => ?_, fun _ => ?_⟩
      · exfalso
        simp only [List.flatten_cons, List.flatten_nil, v_int, v_ls, hm.1, hm.2, ofBytes_length, (psB_ok he').2] at hc
        simp at hc
        omega
      · refine ⟨_, _, pc_octet_Get b at_ n (by omega), _, _, pc_octet_Signed b at_ n (by omega), fun hg => ?_, fun hg => ?_⟩
        · simp only [v_int] at hg ⊢
          rw [getV, if_neg hg, sgnV, if_neg hg]
          simp
        · simp only [v_int] at hg ⊢
          refine ⟨_, _, pc_octet_Put _ n (getV_lt b at_ n), _, _, pc_octet_PutSigned _ n sgnV_range, _, _, pc_octet_Part b at_ n (by omega), ?_⟩
          simp only [v_int, v_ls, bytesOf_ofBytes, (put_get_ hg).1, (put_get_ hg).2.1, (put_get_ hg).2.2, (ps_sgn hg).1, (ps_sgn hg).2]
          simp
    · refine ⟨_, _, pc_octet_Get b at_ n (by omega), _, _, pc_octet_Signed b at_ n (by omega), fun hg => ?_, fun hg => ?_⟩
      · simp only [v_int] at hg ⊢
        rw [getV, if_neg hg, sgnV, if_neg hg]
        simp
      · simp only [v_int] at hg ⊢
        refine ⟨_, _, pc_octet_Put _ n (getV_lt b at_ n), _, _, pc_octet_PutSigned _ n sgnV_range, _, _, pc_octet_Part b at_ n (by omega), ?_⟩
        simp only [v_int, v_ls, bytesOf_ofBytes, (put_get_ hg).1, (put_get_ hg).2.1, (put_get_ hg).2.2, (ps_sgn hg).1, (ps_sgn hg).2]
        simp
end Go.Vc
