/-
  The contracts of h264's reference.
-/
import Derived.Test.YtodhgafhllbojaaQUd
import Derived.Test.YtodhgafhllbojaaQVw
set_option maxRecDepth 100000
namespace Go.Vc
open Go Go.Proofs Go.Plain
theorem pc_crossbarref25_unit (u : Un) : PC Try.prog f_crossbarref25_unit [(UnSh, UnC u)] [(.bool, .bool (decide u.right))] := by
  apply pcv_crossbarref25_unit rfl
  simp only [vc_crossbarref25_unit, VC.H_ret, ev_var, ev_int, ev_bool, ev_hd, ev_tl, ev_lss, ev_gtr, ev_geq, ev_ite, ea_nil, ea_cons, env_zero, List.map_cons, List.map_nil, v_int, v_bool, v_hd, v_tl, bool_ite, andT, decide_eq_true_eq]
  apply boolR
  simp only [Un.right, Bool.ite_eq_true_distrib, decide_eq_true_eq, Bool.false_eq_true, if_false_right]
  omega
theorem pc_crossbarref25_SameUnit (u v : Un) : PC Try.prog f_crossbarref25_SameUnit [(UnSh, UnC u), (UnSh, UnC v)] [(.bool, .bool (decide (u = v)))] := by
  apply pcv_crossbarref25_SameUnit rfl
  simp only [vc_crossbarref25_SameUnit, VC.H_ret, ev_var, ev_bool, ev_hd, ev_tl, ev_eql, ev_seql, ev_ite, ev_toStr, ea_nil, ea_cons, env_zero, env_succ, List.map_cons, List.map_nil, v_int, v_bool, v_str, v_ls, v_hd, v_tl, bool_ite, andT, decide_eq_true_eq, bytesOf_ofBytes]
  apply boolR
  obtain ⟨a, b, c⟩ := u
  obtain ⟨a', b', c'⟩ := v
  simp [and_assoc]
theorem not_three {p : Pi} (hk : ¬ p.kind = 3) (h : p.right) : p.start = false ∧ p.fin = false ∧ p.part = Un.zero ∧ p.units ≠ [] := by
  rcases h with h | h | h
  · refine ⟨h.2.2.1, h.2.2.2.1, h.2.2.2.2.1, fun hc => ?_⟩
    have := h.2.2.2.2.2.1
    rw [hc] at this
    exact absurd this (by decide)
  · exact ⟨h.2.2.1, h.2.2.2.1, h.2.2.2.2.1, h.2.2.2.2.2.1⟩
  · exact absurd h.1 hk
theorem pc_crossbarref25_Right (p : Pi) (hp : Pi.ok p) : PC Try.prog f_crossbarref25_Right [(PiSh, PiC p)] [(.bool, .bool (decide p.right))] := by
  apply pcv_crossbarref25_Right rfl
  simp only [vc_crossbarref25_Right, VC.H_asrt, VC.H_cond, VC.H_ret, VC.H_call1, ev_var, ev_int, ev_bool, ev_nil, ev_cons, ev_hd, ev_tl, ev_eql, ev_lss, ev_gtr, ev_not, ev_ite, ev_len, ev_idx, ea_nil, ea_cons, env_zero, env_succ, env_cons, env_nil, List.map_cons, List.map_nil, v_int, v_bool, v_ls, v_hd, v_tl, toBool_ite, bool_ite, pres_nil, pres_cons, orT, orF, andT, andF, notT, decide_eq_true_eq, decide_eq_false_iff_not, and_true, List.length_map, ofBytes_length]
  have hz : p.part = Un.zero ↔ (p.part.ref = 0 ∧ p.part.typ = 0) ∧ ((p.part.bytes.length : Nat) : Int) = 0 := by
    rw [un_zero, ← List.length_eq_zero_iff]
    omega
  refine ⟨fun hk => ⟨_, fun _ => pc_crossbarref25_unit p.part, ?_⟩, fun hk => ⟨fun hc => ?_, fun hc => ⟨fun hk1 => ⟨fun h => by omega, .bool (decide (p.units.getD 0 Un.zero).right), fun h => ?_, ?_⟩, fun hk1 => ?_⟩⟩⟩
  · apply boolR
    rw [right3 hk]
    simp only [v_bool, decide_eq_true_eq, Bool.ite_eq_true_distrib, Bool.false_eq_true, if_false_right]
    have e : p.part.bytes ≠ [] ↔ p.part.bytes.length ≠ 0 := by rw [ne_eq, ne_eq, List.length_eq_zero_iff]
    have e2 : p.units = [] ↔ p.units.length = 0 := by rw [List.length_eq_zero_iff]
    have e3 : ((p.units.length : Nat) : Int) = 0 ↔ p.units.length = 0 := by omega
    have e4 : (0 : Int) < ((p.part.bytes.length : Nat) : Int) ↔ p.part.bytes.length ≠ 0 := by omega
    rw [e, e2, e3, e4]
    cases p.start <;> cases p.fin <;> simp [and_assoc]
  · rw [show (false : Bool) = decide p.right by
      symm
      rw [decide_eq_false_iff_not]
      intro h
      obtain ⟨n1, n2, n3, n4⟩ := not_three hk h
      have n3 := hz.1 n3
      have := List.length_pos_iff.2 n4
      simp only [n1, n2, Bool.false_eq_true, or_self, false_or] at hc
      omega]
  · rw [Int.toNat_zero, un_getD _ _ (by omega)]
    exact pc_crossbarref25_unit _
  · rw [toBool_ite']
    apply boolR
    rw [right1 hk1]
    simp only [not_or, Bool.not_eq_true, Decidable.not_not] at hc
    obtain ⟨⟨⟨c1, c2⟩, c3⟩, c4⟩ := hc
    simp only [c1, c2, hz.2 c3, decide_eq_true_eq, Bool.ite_eq_true_distrib, Bool.false_eq_true, if_false_right, and_assoc, true_and]
    have e3 : ((p.units.length : Nat) : Int) = 1 ↔ p.units.length = 1 := by omega
    rw [e3]
  · simp only [not_or, Bool.not_eq_true, Decidable.not_not] at hc
    obtain ⟨⟨⟨c1, c2⟩, c3⟩, c4⟩ := hc
    have c3 := hz.2 c3
    refine VC.go_loop (fun i : Nat => [.bool false, .int i]) (fun i => i ≤ p.units.length ∧ ∀ b ∈ p.units.take i, b.fits) (fun i => p.units.length - i) 0 rfl ⟨Nat.zero_le _, by simp⟩ fun i hi => ?_
    simp only [VC.H_asrt, VC.H_cond, VC.H_ret, VC.H_back, VC.H_call1, ev_var, ev_int, ev_bool, ev_hd, ev_tl, ev_add, ev_eql, ev_lss, ev_gtr, ev_geq, ev_not, ev_ite, ev_len, ev_idx, ev_fits64, ea_nil, ea_cons, env_zero, env_succ, env_cons, env_nil, List.map_cons, List.map_nil, v_int, v_bool, v_ls, v_hd, v_tl, bool_ite, pres_nil, pres_cons, orT, orF, andT, notT, notF, decide_eq_true_eq, decide_eq_false_iff_not, forall_const, and_true, Int.not_lt, List.length_map]
    refine ⟨fun hl => ⟨by omega, by omega, ?_⟩, fun hl => ?_⟩
    · have hmem := un_mem (l := p.units) (i := i) (by omega)
      have hsz := hp.2.2 _ hmem
      have hsl := hp.1
      rw [Int.toNat_natCast, un_getD _ _ (by omega)]
      simp only [v_hd, v_tl, v_ls, ofBytes_length]
      refine ⟨_, pc_crossbarref25_unit _, fun _ => by omega, fun _ => by omega, fun hbad => ?_, fun hgood => ⟨by omega, i + 1, by simp, ⟨by omega, un_take (by omega) hi.2 ?_⟩, by omega⟩⟩
      · rw [show (false : Bool) = decide p.right by
          symm
          rw [decide_eq_false_iff_not]
          intro hr
          rcases hr with hr | hr | hr
          · exact hk1 hr.1
          · have := hr.2.2.2.2.2.2 _ hmem
            simp only [v_bool, decide_eq_false_iff_not] at hbad
            rcases hbad with h | h
            · exact h this.1
            · have := this.2
              omega
          · exact hk hr.1]
      · simp only [v_bool, Bool.not_eq_false, decide_eq_true_eq] at hgood
        exact ⟨hgood.1, by omega⟩
    · apply boolR
      simp only [decide_eq_true_eq, Bool.ite_eq_true_distrib, Bool.false_eq_true, if_false_right]
      have h6 := hi.2
      rw [List.take_of_length_le (by omega)] at h6
      constructor
      · intro hx
        refine (right2 hx.1.1).2 ⟨by omega, c1, c2, c3, ?_, h6⟩
        intro h
        rw [h] at c4
        exact c4 rfl
      · intro hr
        rcases hr with hr | hr | hr
        · exact absurd hr.1 hk1
        · have := hr.1
          have := hr.2.1
          omega
        · exact absurd hr.1 hk
theorem pc_crossbarref25_Bytes (u : Un) (hu : u.right) (hb : u.bytes.length ≤ 10000000) : PC Try.prog f_crossbarref25_Bytes [(UnSh, UnC u)] [(Byt, B u.b)] := by
  apply pcv_crossbarref25_Bytes rfl
  simp only [vc_crossbarref25_Bytes, VC.H_asrt, VC.H_ret, ev_var, ev_int, ev_nil, ev_cons, ev_hd, ev_tl, ev_add, ev_mul, ev_leq, ev_conv, ev_len, ev_app, ev_fits64, ea_nil, ea_cons, env_zero, env_cons, env_nil, List.map_cons, List.map_nil, v_int, v_bool, v_ls, v_hd, v_tl, pres_nil, decide_eq_true_eq, forall_const, ofBytes_length]
  obtain ⟨h1, h2⟩ := hu
  refine ⟨by omega, by omega, by omega, ?_⟩
  have e : IntKind.u8.wrap (32 * u.ref + u.typ) = ((32 * u.ref.toNat + u.typ.toNat : Nat) : Int) := by
    rw [wrapu8]
    omega
  rw [e]
  have e2 := byteL (32 * u.ref.toNat + u.typ.toNat) (by omega) u.bytes
  rw [e2]
  rfl
theorem be2 (n : Nat) (h : n < 65536) : [C.int (IntKind.u8.wrap (arith .quo .i64 (n : Int) 256)), C.int (IntKind.u8.wrap (arith .rem .i64 (n : Int) 256))] = ofBytes (toBE 2 n) := by
  have e1 : arith .quo .i64 (n : Int) 256 = ((n / 256 : Nat) : Int) := by
    rw [arith_quo _ _ _ (by omega)]
    exact wrapi64_in (by omega)
  have e2 : arith .rem .i64 (n : Int) 256 = ((n % 256 : Nat) : Int) := by
    rw [arith_rem _ _ _ (by omega)]
    omega
  have e4 : UInt8.ofNat (n % 256) = UInt8.ofNat n := by
    apply UInt8.toNat_inj.1
    simp
  rw [e1, e2, byte_of, byte_of, e4]
  show [C.int ((UInt8.ofNat (n / 256)).toNat : Int), C.int ((UInt8.ofNat n).toNat : Int)] = ofBytes (toBE 2 n)
  have e : toBE 2 n = [UInt8.ofNat (n / 256), UInt8.ofNat n] := by simp [toBE]
  rw [e]
  rfl
theorem pc_crossbarref25_Write (p : Pi) (hr : p.right) (hp : Pi.ok p) : PC Try.prog f_crossbarref25_Write [(PiSh, PiC p)] [(Byt, B p.bytes)] := by
  apply pcv_crossbarref25_Write rfl
  simp only [vc_crossbarref25_Write, VC.H_asrt, VC.H_cond, VC.H_ret, VC.H_call1, ev_var, ev_int, ev_nil, ev_cons, ev_hd, ev_tl, ev_add, ev_mul, ev_eql, ev_lss, ev_leq, ev_ite, ev_conv, ev_len, ev_idx, ev_app, ev_fits64, ea_nil, ea_cons, env_zero, env_succ, env_cons, env_nil, List.map_cons, List.map_nil, v_int, v_bool, v_ls, v_hd, v_tl, int_ite, pres_nil, pres_cons, decide_eq_true_eq, decide_eq_false_iff_not, forall_const, and_true, ofBytes_length, List.length_map]
  refine ⟨fun hk => ?_, fun hk => ⟨fun hk3 => ?_, fun hk3 => ?_⟩⟩
  · obtain ⟨_, _, _, _, h5, h6⟩ := (right1 hk).1 hr
    have hmem := un_mem (l := p.units) (i := 0) (by omega)
    have hsz := hp.2.2 _ hmem
    rw [Int.toNat_zero, un_getD _ _ (by omega)]
    refine ⟨by omega, _, pc_crossbarref25_Bytes _ h6 hsz, ?_⟩
    rw [Pi.bytes, if_pos hk]
  · obtain ⟨_, _, ⟨h1, h2⟩, _, _⟩ := (right3 hk3).1 hr
    have hsz := hp.2.1
    refine ⟨fun _ => by omega, fun _ => by split <;> omega, by omega, by omega, by omega, ?_⟩
    have e1 : IntKind.u8.wrap (32 * p.part.ref + 28) = ((32 * p.part.ref.toNat + 28 : Nat) : Int) := by
      rw [wrapu8]
      omega
    have e2 : IntKind.u8.wrap (if p.fin = true then (if p.start = true then p.part.typ + 128 else p.part.typ) + 64 else (if p.start = true then p.part.typ + 128 else p.part.typ)) = ((p.part.typ.toNat + 128 * p.start.toNat + 64 * p.fin.toNat : Nat) : Int) := by
      rw [wrapu8]
      cases p.start <;> cases p.fin <;> simp <;> omega
    rw [e1, e2, byteL _ (by have := bool_le p.start; have := bool_le p.fin; omega), byteL _ (by omega), Pi.bytes, if_neg hk, if_neg (by omega), Pi.second]
  · have hk2 : p.kind = 2 := by rcases hr with h | h | h <;> omega
    obtain ⟨h1, _, _, _, h5, h6⟩ := (right2 hk2).1 hr
    refine ⟨by omega, by omega, ?_⟩
    refine VC.go_loop (fun i : Nat => [B (UInt8.ofNat (32 * p.ref.toNat + 24) :: longs (p.units.take i)), .int i]) (fun i => i ≤ p.units.length) (fun i => p.units.length - i) 0 ?_ (Nat.zero_le _) fun i hi => ?_
    · simp only [ev_var, ev_int, ev_nil, ev_cons, ev_hd, ev_tl, ev_add, ev_mul, ev_conv, env_zero, List.map_cons, List.map_nil, v_int, v_ls, v_hd, v_tl]
      have e1 : IntKind.u8.wrap (32 * p.ref + 24) = ((32 * p.ref.toNat + 24 : Nat) : Int) := by
        rw [wrapu8]
        omega
      have e : C.ls [C.int ((32 * p.ref.toNat + 24 : Nat) : Int)] = B (UInt8.ofNat (32 * p.ref.toNat + 24) :: longs []) := congrArg C.ls (byteL _ (by omega) [])
      rw [e1, List.take_zero, ← e]
      rfl
    · simp only [VC.H_asrt, VC.H_cond, VC.H_ret, VC.H_back, VC.H_call1, ev_var, ev_int, ev_nil, ev_cons, ev_hd, ev_tl, ev_bin, ev_add, ev_mul, ev_lss, ev_leq, ev_geq, ev_conv, ev_len, ev_idx, ev_app, ev_fits64, ea_nil, ea_cons, env_zero, env_succ, env_cons, env_nil, List.map_cons, List.map_nil, v_int, v_bool, v_ls, v_hd, v_tl, pres_nil, decide_eq_true_eq, decide_eq_false_iff_not, forall_const, Int.not_lt, List.length_map, ofBytes_length]
      have hsl := hp.1
      refine ⟨fun hc => ?_, fun hc => ?_⟩
      · have hmem := un_mem (l := p.units) (i := i) (by omega)
        have hf := h6 _ hmem
        have hle := longs_le (p.units.take i) fun u hu => hp.2.2 u (List.mem_of_mem_take hu)
        rw [List.length_take] at hle
        rw [Int.toNat_natCast, un_getD _ _ (by omega)]
        refine ⟨by omega, by omega, _, pc_crossbarref25_Bytes _ hf.1 (by have := hf.2; omega), ?_⟩
        have hbl : (p.units.getD i Un.zero).b.length = 1 + (p.units.getD i Un.zero).bytes.length := by simp [Un.b]; omega
        have f3 := hf.2
        simp only [v_ls, ofBytes_length, List.length_cons, List.length_nil]
        refine ⟨by omega, by omega, by omega, i + 1, ?_, by omega, by omega⟩
        rw [longs_snoc _ _ (by omega), Un.long, hbl]
        rw [be2 _ (by omega), ofBytes_append, ofBytes_append, List.cons_append, List.cons_append, List.append_assoc]
        rfl
      · have : i = p.units.length := by omega
        subst this
        rw [List.take_length]
        rw [Pi.bytes, if_neg hk, if_pos hk2]
end Go.Vc
