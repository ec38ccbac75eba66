/-
  The contracts of the functions of h264, each out of its condition.
-/
import Derived.Test.YtodhgafhllbojaaQVu
import Derived.Test.YtodhgafhllbojaaQOc
import Derived.Test.YtodhgafhllbojaaQBase3
set_option maxRecDepth 100000
namespace Go.Vc
open Go Go.Proofs Go.Plain
abbrev U8 : Sh := .int .u8
abbrev UnSh : Sh := .pair I64 (.pair I64 (.pair Byt .unit))
abbrev PiSh : Sh := .pair I64 (.pair I64 (.pair (.sl UnSh) (.pair .bool (.pair .bool (.pair UnSh .unit)))))
abbrev UnC (u : Un) : C := .ls [.int u.ref, .int u.typ, B u.bytes]
abbrev PiC (p : Pi) : C := .ls [.int p.kind, .int p.ref, .ls (p.units.map UnC), .bool p.start, .bool p.fin, UnC p.part]
theorem boolR {p : Prop} [Decidable p] {x : Bool} (h : x = true ↔ p) : [(Sh.bool, C.bool x)] = [(Sh.bool, C.bool (decide p))] := by
  rw [show x = decide p by rw [Bool.eq_iff_iff, h, decide_eq_true_eq]]
theorem un_getD (l : List Un) (i : Nat) (h : i < l.length) : (l.map UnC).getD i default = UnC (l.getD i Un.zero) := by
  simp [List.getD, h]
theorem un_mem {l : List Un} {i : Nat} (h : i < l.length) : l.getD i Un.zero ∈ l := by
  simp [List.getD, h]
theorem un_take {l : List Un} {q : Un → Prop} {i : Nat} (h : i < l.length) (h1 : ∀ u ∈ l.take i, q u) (h2 : q (l.getD i Un.zero)) : ∀ u ∈ l.take (i + 1), q u := by
  intro b hb
  rw [List.take_succ_eq_append_getElem h] at hb
  rcases List.mem_append.1 hb with hb | hb
  · exact h1 b hb
  · simp only [List.mem_singleton] at hb
    have e : l.getD i Un.zero = l[i] := by simp [List.getD, h]
    rw [hb, ← e]
    exact h2
theorem un_zero (u : Un) : u = Un.zero ↔ u.ref = 0 ∧ u.typ = 0 ∧ u.bytes = [] := by
  obtain ⟨a, b, c⟩ := u
  simp [Un.zero]
/-- Pieces whose lists are not too long for the machine. -/
def Pi.ok (p : Pi) : Prop := p.units.length ≤ 10000000 ∧ p.part.bytes.length ≤ 10000000 ∧ ∀ u ∈ p.units, u.bytes.length ≤ 10000000
theorem pc_h264_rightUnit (u : Un) : PC Try.prog f_h264_rightUnit [(UnSh, UnC u)] [(.bool, .bool (decide u.right))] := by
  apply pcv_h264_rightUnit rfl
  simp only [vc_h264_rightUnit, VC.H_ret, ev_var, ev_int, ev_bool, ev_hd, ev_tl, ev_leq, ev_geq, ev_ite, ea_nil, ea_cons, env_zero, List.map_cons, List.map_nil, v_int, v_bool, v_hd, v_tl, bool_ite, andT, decide_eq_true_eq]
  apply boolR
  simp only [Un.right, Bool.ite_eq_true_distrib, decide_eq_true_eq, Bool.false_eq_true, if_false_right]
  omega
theorem pc_h264_noUnit (u : Un) : PC Try.prog f_h264_noUnit [(UnSh, UnC u)] [(.bool, .bool (decide (u = Un.zero)))] := by
  apply pcv_h264_noUnit rfl
  simp only [vc_h264_noUnit, VC.H_ret, ev_var, ev_int, ev_bool, ev_hd, ev_tl, ev_eql, ev_ite, ev_len, ea_nil, ea_cons, env_zero, List.map_cons, List.map_nil, v_int, v_bool, v_ls, v_hd, v_tl, bool_ite, andT, decide_eq_true_eq]
  apply boolR
  simp only [un_zero, Bool.ite_eq_true_distrib, decide_eq_true_eq, Bool.false_eq_true, if_false_right, ofBytes_length, ← List.length_eq_zero_iff]
  omega
theorem toBool_ite' {c : Prop} [Decidable c] {a b : Bool} : (if c then C.bool a else C.bool b) = C.bool (if c then a else b) := by split <;> rfl
theorem right1 {p : Pi} (h : p.kind = 1) : p.right ↔ p.ref = 0 ∧ p.start = false ∧ p.fin = false ∧ p.part = Un.zero ∧ p.units.length = 1 ∧ (p.units.getD 0 Un.zero).right := by
  have h2 : ¬ p.kind = 2 := by omega
  have h3 : ¬ p.kind = 3 := by omega
  simp only [Pi.right, h, true_and, false_and, or_false, Int.reduceEq]
  refine and_congr_right fun _ => and_congr_right fun _ => and_congr_right fun _ => and_congr_right fun _ => and_congr_right fun hl => ?_
  match p.units, hl with
  | [u], _ => simp
theorem right2 {p : Pi} (h : p.kind = 2) : p.right ↔ (0 ≤ p.ref ∧ p.ref ≤ 3) ∧ p.start = false ∧ p.fin = false ∧ p.part = Un.zero ∧ p.units ≠ [] ∧ ∀ u ∈ p.units, u.fits := by
  have h2 : ¬ p.kind = 1 := by omega
  have h3 : ¬ p.kind = 3 := by omega
  simp only [Pi.right, h, true_and, false_and, or_false, false_or, Int.reduceEq]
theorem right3 {p : Pi} (h : p.kind = 3) : p.right ↔ p.ref = 0 ∧ p.units = [] ∧ p.part.right ∧ p.part.bytes ≠ [] ∧ ¬ (p.start = true ∧ p.fin = true) := by
  have h2 : ¬ p.kind = 2 := by omega
  have h3 : ¬ p.kind = 1 := by omega
  simp only [Pi.right, h, true_and, false_and, false_or, Int.reduceEq]
theorem pc_h264_Right (p : Pi) (hp : Pi.ok p) : PC Try.prog f_h264_Right [(PiSh, PiC p)] [(.bool, .bool (decide p.right))] := by
  apply pcv_h264_Right rfl
  simp only [vc_h264_Right, VC.H_asrt, VC.H_cond, VC.H_ret, VC.H_call1, ev_var, ev_int, ev_bool, ev_nil, ev_cons, ev_hd, ev_tl, ev_eql, ev_lss, ev_gtr, ev_not, ev_ite, ev_len, ev_idx, ea_nil, ea_cons, env_zero, env_succ, env_cons, env_nil, List.map_cons, List.map_nil, v_int, v_bool, v_ls, v_hd, v_tl, toBool_ite, bool_ite, pres_nil, pres_cons, orT, orF, andT, notT, decide_eq_true_eq, decide_eq_false_iff_not, and_true, List.length_map]
  refine ⟨fun hk => ⟨_, fun _ => pc_h264_noUnit p.part, fun h => by omega, .bool (decide (p.units.getD 0 Un.zero).right), fun h => ?_, ?_⟩, fun hk => ⟨fun hk2 => ⟨_, fun _ => pc_h264_noUnit p.part, fun hc => ?_, fun hc => ?_⟩, fun hk2 => ⟨fun hk3 => ⟨_, fun _ => pc_h264_rightUnit p.part, ?_⟩, fun hk3 => ?_⟩⟩⟩
  · rw [Int.toNat_zero, un_getD _ _ (by omega)]
    exact pc_h264_rightUnit _
  · rw [toBool_ite']
    apply boolR
    rw [right1 hk]
    simp only [v_bool, decide_eq_true_eq, Bool.ite_eq_true_distrib, Bool.false_eq_true, if_false_right, and_assoc]
    have e3 : ((p.units.length : Nat) : Int) = 1 ↔ p.units.length = 1 := by omega
    rw [e3]
  · rw [show (false : Bool) = decide p.right by
      symm
      rw [decide_eq_false_iff_not, right2 hk2]
      simp only [v_bool, decide_eq_false_iff_not] at hc
      rintro ⟨h1, h2, h3, h4, h5, h6⟩
      simp only [h2, h3, h4, Bool.false_eq_true, not_true_eq_false, or_false] at hc
      have := List.length_pos_iff.2 h5
      omega]
  · simp only [v_bool, decide_eq_false_iff_not, not_or, Decidable.not_not, Bool.not_eq_true] at hc
    obtain ⟨⟨⟨⟨c1, c2⟩, c3⟩, c4⟩, c5⟩ := hc
    refine VC.go_loop (fun i : Nat => [.bool false, .int i]) (fun i => i ≤ p.units.length ∧ ∀ b ∈ p.units.take i, b.fits) (fun i => p.units.length - i) 0 rfl ⟨Nat.zero_le _, by simp⟩ fun i hi => ?_
    simp only [VC.H_asrt, VC.H_cond, VC.H_ret, VC.H_back, VC.H_call1, ev_var, ev_int, ev_bool, ev_nil, ev_cons, ev_hd, ev_tl, ev_add, ev_lss, ev_gtr, ev_geq, ev_not, ev_ite, ev_len, ev_idx, ev_fits64, ea_nil, ea_cons, env_zero, env_succ, env_cons, env_nil, List.map_cons, List.map_nil, v_int, v_bool, v_ls, v_hd, v_tl, bool_ite, pres_nil, pres_cons, orT, orF, notT, notF, decide_eq_true_eq, decide_eq_false_iff_not, forall_const, and_true, Int.not_lt, List.length_map]
    refine ⟨fun hl => ⟨by omega, by omega, ?_⟩, fun hl => ?_⟩
    · have hmem := un_mem (l := p.units) (i := i) (by omega)
      have hsz := hp.2.2 _ hmem
      have hsl := hp.1
      rw [Int.toNat_natCast, un_getD _ _ (by omega)]
      simp only [v_hd, v_tl, v_ls, ofBytes_length]
      refine ⟨_, pc_h264_rightUnit _, fun _ => by omega, fun hbad => ?_, fun hgood => ⟨by omega, i + 1, by simp, ⟨by omega, un_take (by omega) hi.2 ?_⟩, by omega⟩⟩
      · rw [show (false : Bool) = decide p.right by
          symm
          rw [decide_eq_false_iff_not, right2 hk2]
          rintro ⟨_, _, _, _, _, h6⟩
          have := h6 _ hmem
          simp only [v_bool, decide_eq_false_iff_not] at hbad
          rcases hbad with h | h
          · exact h this.1
          · have := this.2
            omega]
      · simp only [v_bool, decide_eq_false_iff_not, Decidable.not_not] at hgood
        exact ⟨hgood.1, by omega⟩
    · rw [show (true : Bool) = decide p.right by
        symm
        rw [decide_eq_true_eq, right2 hk2]
        have h6 := hi.2
        rw [List.take_of_length_le (by omega)] at h6
        refine ⟨by omega, c2, c3, c4, ?_, h6⟩
        intro h
        rw [h] at c5
        exact c5 rfl]
  · apply boolR
    rw [right3 hk3]
    simp only [v_bool, decide_eq_true_eq, Bool.ite_eq_true_distrib, Bool.false_eq_true, if_false_right, ofBytes_length]
    have e : p.part.bytes ≠ [] ↔ p.part.bytes.length ≠ 0 := by rw [ne_eq, ne_eq, List.length_eq_zero_iff]
    have e2 : p.units = [] ↔ p.units.length = 0 := by rw [List.length_eq_zero_iff]
    rw [e, e2]
    have e3 : ((p.units.length : Nat) : Int) = 0 ↔ p.units.length = 0 := by omega
    have e4 : (0 : Int) < ((p.part.bytes.length : Nat) : Int) ↔ p.part.bytes.length ≠ 0 := by omega
    rw [e3, e4]
    cases p.start <;> cases p.fin <;> simp [and_assoc]
  · rw [show (false : Bool) = decide p.right by
      symm
      rw [decide_eq_false_iff_not]
      intro h
      rcases h with h | h | h <;> omega]
def h2wB (p : Pi) : List UInt8 := if p.right then p.bytes else []
def h2wE (p : Pi) : Int := if p.right then 0 else 1
theorem first_all : ∀ r t : Nat, r < 4 → t < 32 → arith .or .u8 (arith .shl .u8 (IntKind.u8.wrap (r : Int)) 5) (IntKind.u8.wrap (t : Int)) = ((32 * r + t : Nat) : Int) := by
  have : ∀ r : Nat, r < 4 → ∀ t : Nat, t < 32 → arith .or .u8 (arith .shl .u8 (IntKind.u8.wrap (r : Int)) 5) (IntKind.u8.wrap (t : Int)) = ((32 * r + t : Nat) : Int) := by decide +kernel
  exact fun r t h1 h2 => this r h1 t h2
theorem pc_h264_first (r t : Int) (hr : 0 ≤ r ∧ r ≤ 3) (ht : 0 ≤ t ∧ t ≤ 31) : PC Try.prog f_h264_first [(I64, .int r), (I64, .int t)] [(U8, .int (32 * r.toNat + t.toNat : Nat))] := by
  apply pcv_h264_first rfl
  simp only [vc_h264_first, VC.H_ret, ev_var, ev_int, ev_bin, ev_conv, ea_nil, ea_cons, env_zero, env_succ, List.map_cons, List.map_nil, v_int]
  have := first_all r.toNat t.toNat (by omega) (by omega)
  rw [Int.toNat_of_nonneg hr.1, Int.toNat_of_nonneg ht.1] at this
  rw [this]
theorem byteL (n : Nat) (h : n < 256) (l : List UInt8) : C.int (n : Int) :: ofBytes l = ofBytes (UInt8.ofNat n :: l) := by
  simp only [ofBytes, List.map_cons]
  rw [ofNat_toNat h]
theorem longs_snoc (l : List Un) (i : Nat) (h : i < l.length) : longs (l.take (i + 1)) = longs (l.take i) ++ (l.getD i Un.zero).long := by
  rw [List.take_succ_eq_append_getElem h, show l.getD i Un.zero = l[i] by simp [List.getD, h], longs, longs, List.map_append, List.flatten_append]
  simp
theorem longs_le : ∀ (l : List Un), (∀ u ∈ l, u.bytes.length ≤ 10000000) → (longs l).length ≤ l.length * 10000003
  | [], _ => Nat.le_refl 0
  | u :: l, h => by
    have ih := longs_le l fun x hx => h x (by simp [hx])
    have hu := h u (by simp)
    have e : longs (u :: l) = u.long ++ longs l := by simp [longs]
    rw [e, List.length_append, long_length, List.length_cons]
    omega
theorem second_all : ∀ t : Nat, t < 32 → ∀ s f : Bool, (if f = true then arith .or .u8 (if s = true then arith .or .u8 (IntKind.u8.wrap (t : Int)) 128 else IntKind.u8.wrap (t : Int)) 64 else (if s = true then arith .or .u8 (IntKind.u8.wrap (t : Int)) 128 else IntKind.u8.wrap (t : Int))) = ((t + 128 * s.toNat + 64 * f.toNat : Nat) : Int) := by decide +kernel
theorem pc_h264_Write (p : Pi) (hp : Pi.ok p) : PC Try.prog f_h264_Write [(PiSh, PiC p)] [(Byt, B (h2wB p)), (I64, .int (h2wE p))] := by
  apply pcv_h264_Write rfl
  simp only [vc_h264_Write, VC.H_asrt, VC.H_cond, VC.H_ret, VC.H_call1, ev_var, ev_int, ev_nil, ev_nilS, ev_cons, ev_hd, ev_tl, ev_bin, ev_add, ev_mul, ev_eql, ev_lss, ev_leq, ev_not, ev_ite, ev_conv, ev_len, ev_idx, ev_app, ea_nil, ea_cons, env_zero, env_succ, env_cons, env_nil, List.map_cons, List.map_nil, v_int, v_bool, v_ls, v_hd, v_tl, int_ite, pres_nil, notT, notF, decide_eq_true_eq, decide_eq_false_iff_not, forall_const, List.length_map, ofBytes_length]
  refine ⟨_, pc_h264_Right p hp, fun h => ?_, fun h => ?_⟩
  · have h : ¬ p.right := by simpa using h
    rw [h2wB, h2wE, if_neg h, if_neg h]
    rfl
  · have h : p.right := by simpa using h
    rw [h2wB, h2wE, if_pos h, if_pos h]
    refine ⟨fun hk => ?_, fun hk => ⟨fun hk2 => ?_, fun hk2 => ⟨fun hk3 => ?_, fun hk3 => ?_⟩⟩⟩
    · obtain ⟨_, _, _, _, h5, h6⟩ := (right1 hk).1 h
      have hmem := un_mem (l := p.units) (i := 0) (by omega)
      have hsz := hp.2.2 _ hmem
      rw [Int.toNat_zero, un_getD _ _ (by omega)]
      simp only [v_hd, v_tl, v_ls, ofBytes_length]
      refine ⟨by omega, _, pc_h264_first _ _ h6.1 (by have := h6.2; omega), by omega, ?_⟩
      have e : C.ls (C.int ((32 * (p.units.getD 0 Un.zero).ref.toNat + (p.units.getD 0 Un.zero).typ.toNat : Nat) : Int) :: ofBytes (p.units.getD 0 Un.zero).bytes) = B p.bytes := by
        rw [Pi.bytes, if_pos hk, Un.b, byteL _ (by have := h6.1; have := h6.2; omega)]
      rw [e]
    · obtain ⟨h1, _, _, _, h5, h6⟩ := (right2 hk2).1 h
      refine ⟨_, pc_h264_first _ _ h1 (by omega), ?_⟩
      refine VC.go_loop (fun i : Nat => [B (UInt8.ofNat (32 * p.ref.toNat + 24) :: longs (p.units.take i)), .int i]) (fun i => i ≤ p.units.length) (fun i => p.units.length - i) 0 ?_ (Nat.zero_le _) fun i hi => ?_
      · simp only [ev_var, ev_int, ev_nil, ev_cons, env_zero, env_succ, List.map_cons, List.map_nil, v_ls]
        have e : C.ls [C.int ((32 * p.ref.toNat + 24 : Nat) : Int)] = B (UInt8.ofNat (32 * p.ref.toNat + 24) :: longs []) := congrArg C.ls (byteL _ (by omega) [])
        rw [List.take_zero, ← e]
        rfl
      · simp only [VC.H_asrt, VC.H_cond, VC.H_ret, VC.H_back, VC.H_call1, VC.H_call2, ev_var, ev_int, ev_nil, ev_cons, ev_hd, ev_tl, ev_add, ev_mul, ev_lss, ev_leq, ev_geq, ev_conv, ev_len, ev_idx, ev_app, ev_fits64, ea_nil, ea_cons, env_zero, env_succ, env_cons, env_nil, List.map_cons, List.map_nil, v_int, v_bool, v_ls, v_hd, v_tl, pres_nil, decide_eq_true_eq, decide_eq_false_iff_not, forall_const, Int.not_lt, List.length_map, ofBytes_length]
        have hsl := hp.1
        refine ⟨fun hc => ?_, fun hc => ?_⟩
        · have hmem := un_mem (l := p.units) (i := i) (by omega)
          have hf := h6 _ hmem
          obtain ⟨⟨f1, f2⟩, f3⟩ := hf
          have hle := longs_le (p.units.take i) fun u hu => hp.2.2 u (List.mem_of_mem_take hu)
          rw [List.length_take] at hle
          rw [Int.toNat_natCast, un_getD _ _ (by omega)]
          simp only [v_hd, v_tl, v_ls, ofBytes_length]
          have e1 : IntKind.u64.wrap (1 + ((p.units.getD i Un.zero).bytes.length : Int)) = ((1 + (p.units.getD i Un.zero).bytes.length : Nat) : Int) := by
            rw [wrapu64]
            omega
          have pe : putE (1 + (p.units.getD i Un.zero).bytes.length) 2 = 0 := by rw [putE_zero]; refine ⟨by omega, by omega, ?_⟩; show _ < 65536; omega
          have pb : putB (1 + (p.units.getD i Un.zero).bytes.length) 2 = toBE 2 (1 + (p.units.getD i Un.zero).bytes.length) := by rw [putB, if_pos pe]; rfl
          rw [e1]
          refine ⟨by omega, by omega, by omega, _, _, pc_octet_Put _ 2 (by omega), ?_⟩
          rw [pb]
          simp only [v_ls, ofBytes_length, toBE_length, List.length_cons, List.length_nil]
          refine ⟨by omega, _, pc_h264_first _ _ f1 (by omega), by omega, by omega, by omega, i + 1, ?_, by omega, by omega⟩
          rw [longs_snoc _ _ (by omega), Un.long, Un.b]
          have e2 : [C.int ((32 * (p.units.getD i Un.zero).ref.toNat + (p.units.getD i Un.zero).typ.toNat : Nat) : Int)] ++ ofBytes (p.units.getD i Un.zero).bytes = ofBytes (UInt8.ofNat (32 * (p.units.getD i Un.zero).ref.toNat + (p.units.getD i Un.zero).typ.toNat) :: (p.units.getD i Un.zero).bytes) := byteL _ (by omega) _
          rw [List.append_assoc _ [_] _, e2, ofBytes_append, ofBytes_append, List.append_assoc, List.cons_append]
          rfl
        · have : i = p.units.length := by omega
          subst this
          rw [List.take_length]
          rw [Pi.bytes, if_neg hk, if_pos hk2]
    · obtain ⟨h1, h2, h3, h4, _⟩ := (right3 hk3).1 h
      have hsz := hp.2.1
      refine ⟨_, pc_h264_first _ _ h3.1 (by omega), by omega, ?_⟩
      have e := second_all p.part.typ.toNat (by have := h3.2; omega) p.start p.fin
      rw [Int.toNat_of_nonneg (by have := h3.2; omega)] at e
      have e3 : Int.toNat 28 = 28 := rfl
      rw [e, e3, byteL _ (by have := h3.2; have := bool_le p.start; have := bool_le p.fin; omega), byteL _ (by have := h3.1; omega), Pi.bytes, if_neg hk, if_neg hk2, Pi.second]
    · rcases h with h | h | h <;> omega
end Go.Vc
