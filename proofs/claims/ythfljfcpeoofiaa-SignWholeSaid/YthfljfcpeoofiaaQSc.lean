/-
  The contracts of sign's reference, each out of its condition; the fixed answer.
-/
import Derived.Test.YthfljfcpeoofiaaQVr
import Derived.Test.YthfljfcpeoofiaaQSb
set_option maxRecDepth 100000
namespace Go.Vc
open Go Go.Proofs Go.Plain
theorem pc_ref09_Right (s : Sg) (hs : s.text.length ≤ 1000000) : PC Try.prog f_crossbarref09_Right [(SgSh, SgC s)] [(.bool, .bool (decide s.right))] := by
  apply pcv_crossbarref09_Right rfl
  simp only [vc_crossbarref09_Right, SgC, VC.H_cond, VC.H_ret, VC.H_call1, ev_var, ev_int, ev_bool, ev_str, ev_hd, ev_tl, ev_eql, ev_lss, ev_geq, ev_seql, ev_not, ev_ite, ea_nil, ea_cons, env_zero, env_succ, env_cons, env_nil, List.map_cons, List.map_nil, v_int, v_bool, v_str, v_hd, v_tl, bool_ite, pres_nil, andT, notT, decide_eq_true_eq, decide_eq_false_iff_not, forall_const]
  have fin : ∀ (x : Bool), (x = true ↔ s.right) → [(Sh.bool, C.bool x)] = [(Sh.bool, C.bool (decide s.right))] := by
    intro x h
    congr 3
    rw [Bool.eq_iff_iff, decide_eq_true_eq, h]
  have hi : ∀ (n : Nat) (m : Nat), (n : Int) = (m : Int) ↔ n = m := fun n m => by omega
  rcases kinds s.kind with ⟨h1, h2, h3, h4⟩ | ⟨h1, h2, h3, h4⟩ | ⟨h1, h2, h3⟩ | ⟨h1, h2, h3⟩ | ⟨h1, h2, h3, h4⟩
  · have hk : s.kind = 1 ∨ s.kind = 2 := h1
    refine ⟨fun h => ⟨_, pc_ref04_Token _ hs, ?_⟩, fun h => ?_⟩
    · simp only [v_bool]
      apply fin
      unfold Sg.right
      rw [if_pos h1]
      simp only [iteB, decide_eq_true_eq, and_false, or_false, and_assoc, Bool.false_eq_true]
      have := hi s.num 0
      simp only [show ((0 : Nat) : Int) = 0 from rfl] at this
      rw [this]
    · simp only [iteF, decide_eq_false_iff_not] at h
      exfalso; omega
  · have hk : s.kind = 3 ∨ s.kind = 5 := h2
    refine ⟨fun h => ?_, fun h => ⟨fun h5 => ?_, fun h5 => ⟨fun h6 => ?_, fun h6 => ⟨fun h7 => ?_, fun h7 => ?_⟩⟩⟩⟩
    · simp only [iteB, decide_eq_true_eq] at h
      exfalso; omega
    · apply fin
      unfold Sg.right sgMany
      rw [if_neg h1, if_pos h2, if_pos h5]
      simp only [iteB, decide_eq_true_eq, and_false, or_false, and_assoc, Bool.false_eq_true]
      rw [show (256 : Nat) ^ 3 = 16777216 from rfl]
      have : (s.num : Int) < 16777216 ↔ s.num < 16777216 := by omega
      rw [this]
    · exact absurd h6 h3
    · apply fin
      unfold Sg.right sgMany
      rw [if_neg h1, if_pos h2, if_neg h5]
      simp only [iteB, decide_eq_true_eq, and_false, or_false, and_assoc, Bool.false_eq_true]
      rw [show (256 : Nat) ^ 2 = 65536 from rfl]
      have : (s.num : Int) < 65536 ↔ s.num < 65536 := by omega
      rw [this]
    · exfalso; omega
  · refine ⟨fun h => ?_, fun h => ⟨fun h5 => ?_, fun h5 => ⟨fun h6 => ?_, fun h6 => absurd h3 h6⟩⟩⟩
    · simp only [iteB, decide_eq_true_eq] at h
      exfalso; omega
    · exfalso; omega
    · apply fin
      unfold Sg.right
      rw [if_neg h1, if_neg h2, if_pos h3]
      simp only [iteB, decide_eq_true_eq, and_false, or_false, and_assoc, Bool.false_eq_true]
      have : (s.num : Int) < 128 ↔ s.num < 128 := by omega
      rw [this]
  · refine ⟨fun h => ?_, fun h => ⟨fun h5 => ?_, fun h5 => ⟨fun h6 => ?_, fun h6 => ⟨fun h7 => ?_, fun h7 => ⟨fun h8 => ?_, fun h8 => absurd h3 h8⟩⟩⟩⟩⟩
    · simp only [iteB, decide_eq_true_eq] at h
      exfalso; omega
    · exfalso; omega
    · exfalso; omega
    · exfalso; omega
    · apply fin
      unfold Sg.right
      rw [if_neg h1, if_neg h2, if_neg h6, if_pos h3]
      simp only [iteB, decide_eq_true_eq, and_false, or_false, and_assoc, Bool.false_eq_true]
      have := hi s.num 0
      simp only [show ((0 : Nat) : Int) = 0 from rfl] at this
      rw [this]
  · have hn : ¬ s.right := by unfold Sg.right; rw [if_neg h1, if_neg h2, if_neg h3, if_neg h4]; exact id
    unfold sgWord at h1
    unfold sgNum at h2
    refine ⟨fun h => ?_, fun h => ⟨fun h5 => ?_, fun h5 => ⟨fun h6 => ?_, fun h6 => ⟨fun h7 => ?_, fun h7 => ⟨fun h8 => ?_, fun h8 => ?_⟩⟩⟩⟩⟩
    · simp only [iteB, decide_eq_true_eq] at h
      exfalso; omega
    · exfalso; omega
    · exfalso; omega
    · exfalso; omega
    · exfalso; omega
    · rw [decide_eq_false hn]
theorem sgR_err {k : Int} {b : List UInt8} (h : sgE k b ≠ 0) : sgR k b = Sg.zero := if_neg h
theorem sgR_ok {k : Int} {b : List UInt8} (h : sgE k b = 0) : sgR k b = sgV k b := if_pos h
theorem rd_w {k : Int} (h : sgWord k) (b : List UInt8) : (b.length < 1 ∨ 16 < b.length → sgE k b = 4) ∧ (1 ≤ b.length → b.length ≤ 16 → sgE k b = if tokL b = true then 0 else 6) := by
  unfold sgE
  rw [if_pos h]
  exact ⟨fun h2 => if_pos h2, fun h2 h3 => if_neg (by omega)⟩
theorem rd_n {k : Int} (h0 : ¬ sgWord k) (h : sgNum k) (b : List UInt8) : sgE k b = if b.length = sgMany k then 0 else 4 := by unfold sgE; rw [if_neg h0, if_pos h]
theorem rd_1 {k : Int} (h : k = 4 ∨ k = 6) (b : List UInt8) : sgE k b = if b.length = 1 then 0 else 4 := by
  have h0 : ¬ sgWord k := by unfold sgWord; omega
  have h1 : ¬ sgNum k := by unfold sgNum; omega
  unfold sgE; rw [if_neg h0, if_neg h1, if_pos h]
theorem at0_get' {b : List UInt8} (h : b.length = 1) : ((ofBytes b)[0]?.getD default).toInt = ((at0 b : Nat) : Int) := by
  cases b with
  | nil => cases h
  | cons x l => rfl
theorem getV_all (b : List UInt8) (n : Nat) (hn : 1 ≤ n ∧ n ≤ 8) (hl : b.length = n) : getV b 0 n = be b := by
  have hg : getE b.length 0 n = 0 := by rw [getE_zero]; omega
  unfold getV cut
  rw [if_pos hg, Int.toNat_natCast, ← hl]
  simp
theorem be_small (b : List UInt8) (h : b.length ≤ 4) : be b < 4294967296 := Nat.lt_of_lt_of_le (be_lt _) (Nat.le_trans (Nat.pow_le_pow_right (by decide) h) (by decide))
theorem pc_ref09_Read (k : Int) (b : List UInt8) (hb : b.length ≤ 1000000) : PC Try.prog f_crossbarref09_Read [(I64, .int k), (Byt, B b)] [(SgSh, SgC (sgR k b)), (I64, .int (sgE k b))] := by
  apply pcv_crossbarref09_Read rfl
  by_cases hk : k < 1 ∨ 6 < k
  · have h0 : ¬ sgWord k := by unfold sgWord; omega
    have h1 : ¬ sgNum k := by unfold sgNum; omega
    have he : sgE k b = 1 := by
      unfold sgE
      rw [if_neg h0, if_neg h1, if_neg (show ¬ (k = 4 ∨ k = 6) by omega)]
    rw [sgR_err (by rw [he]; decide), he]
    simp only [vc_crossbarref09_Read, VC.H_asrt, VC.H_cond, VC.H_ret, VC.H_call1, VC.H_call2, ev_var, ev_int, ev_bool, ev_str, ev_nil, ev_cons, ev_bin, ev_eql, ev_neq, ev_lss, ev_gtr, ev_geq, ev_not, ev_ite, ev_conv, ev_len, ev_idx, ev_toStr, ea_nil, ea_cons, env_zero, env_succ, env_cons, env_nil, List.map_cons, List.map_nil, v_int, v_bool, v_ls, bool_ite, pres_nil, orT, orF, andT, andF, notT, notF, nnE, decide_eq_true_eq, decide_eq_false_iff_not, forall_const, Int.not_lt, ofBytes_length, bytesOf_ofBytes]
    refine ⟨fun _ => rfl, fun h => ?_⟩
    exfalso; omega
  · have : k = 1 ∨ k = 2 ∨ k = 3 ∨ k = 4 ∨ k = 5 ∨ k = 6 := by omega
    have word : ∀ k : Int, sgWord k → (((b.length : Nat) : Int) < 1 ∨ 16 < ((b.length : Nat) : Int) → C.ls [C.int 0, C.str [], C.int 0, C.bool false, C.bool false, C.int 0] = SgC (sgR k b) ∧ 4 = sgE k b) ∧
        (1 ≤ ((b.length : Nat) : Int) → ((b.length : Nat) : Int) ≤ 16 → ∃ x, PC Try.prog f_crossbarref04_Token [(Sh.str, C.str b)] [(Sh.bool, x)] ∧
          (x.toBool = false → C.ls [C.int 0, C.str [], C.int 0, C.bool false, C.bool false, C.int 0] = SgC (sgR k b) ∧ 6 = sgE k b) ∧
          (x.toBool = true → C.ls [C.int k, C.str b, C.int 0, C.bool false, C.bool false, C.int 0] = SgC (sgR k b) ∧ 0 = sgE k b)) := by
      intro k hk
      obtain ⟨e1, e2⟩ := rd_w hk b
      refine ⟨fun h => ?_, fun h1 h2 => ⟨_, pc_ref04_Token b hb, fun h => ?_, fun h => ?_⟩⟩
      · have e := e1 (by omega)
        rw [sgR_err (by rw [e]; decide), e]
        exact ⟨rfl, rfl⟩
      · have h : tokL b = false := h
        have e := e2 (by omega) (by omega)
        rw [h, if_neg (by decide)] at e
        rw [sgR_err (by rw [e]; decide), e]
        exact ⟨rfl, rfl⟩
      · have h : tokL b = true := h
        have e := e2 (by omega) (by omega)
        rw [h, if_pos rfl] at e
        rw [sgR_ok e, e]
        unfold sgV
        rw [if_pos hk]
        exact ⟨rfl, rfl⟩
    have numb : ∀ k : Int, ¬ sgWord k → sgNum k → ∀ n : Int, n = ((sgMany k : Nat) : Int) → (¬ ((b.length : Nat) : Int) = n → C.ls [C.int 0, C.str [], C.int 0, C.bool false, C.bool false, C.int 0] = SgC (sgR k b) ∧ 4 = sgE k b) ∧
        (((b.length : Nat) : Int) = n → ∃ x, (∃ y, PC Try.prog f_crossbarref01_Get [(Byt, B b), (I64, .int 0), (I64, .int n)] [(U64, x), (I64, y)]) ∧
          C.ls [C.int k, C.str [], C.int (x.toInt % 4294967296), C.bool false, C.bool false, C.int 0] = SgC (sgR k b) ∧ 0 = sgE k b) := by
      rintro k h0 h1 _ rfl
      have e := rd_n h0 h1 b
      have hm : 1 ≤ sgMany k ∧ sgMany k ≤ 4 := by unfold sgMany; split <;> omega
      refine ⟨fun h => ?_, fun h => ⟨_, ⟨_, pc_crossbarref01_Get b 0 _ (by omega)⟩, ?_⟩⟩
      · rw [if_neg (by omega)] at e
        rw [sgR_err (by rw [e]; decide), e]
        exact ⟨rfl, rfl⟩
      · have hl : b.length = sgMany k := by omega
        rw [if_pos hl] at e
        rw [sgR_ok e, e, getV_all b _ ⟨hm.1, by omega⟩ hl]
        unfold sgV
        rw [if_neg h0, if_pos h1]
        have := be_small b (by omega)
        refine ⟨?_, rfl⟩
        show C.ls [C.int k, C.str [], C.int (((be b : Nat) : Int) % 4294967296), C.bool false, C.bool false, C.int 0] = C.ls [C.int k, C.str [], C.int ((be b : Nat) : Int), C.bool false, C.bool false, C.int 0]
        rw [Int.emod_eq_of_lt (by omega) (by omega)]
    have zero : ∀ k : Int, k = 4 ∨ k = 6 → ¬ ((b.length : Nat) : Int) = 1 → C.ls [C.int 0, C.str [], C.int 0, C.bool false, C.bool false, C.int 0] = SgC (sgR k b) ∧ 4 = sgE k b := by
      intro k hk h
      have e := rd_1 hk b
      rw [if_neg (by omega)] at e
      rw [sgR_err (by rw [e]; decide), e]
      exact ⟨rfl, rfl⟩
    have hx := at0_lt b
    rcases this with rfl | rfl | rfl | rfl | rfl | rfl
    all_goals simp [vc_crossbarref09_Read, VC.H_asrt, VC.H_cond, VC.H_ret, VC.H_call1, VC.H_call2, ev_var, ev_int, ev_bool, ev_str, ev_nil, ev_cons, ev_bin, ev_eql, ev_neq, ev_lss, ev_gtr, ev_geq, ev_not, ev_ite, ev_conv, ev_len, ev_idx, ev_toStr, ea_nil, ea_cons, List.map_cons, List.map_nil, bool_ite, pres_nil, decide_eq_true_eq, decide_eq_false_iff_not, forall_const, and_true, true_and, Int.not_lt, ofBytes_length, bytesOf_ofBytes]
    · exact word 1 (by decide)
    · exact word 2 (by decide)
    · exact numb 3 (by decide) (by decide) 3 rfl
    · refine ⟨zero 4 (by decide), fun h => ?_⟩
      have hl : b.length = 1 := by omega
      have e := rd_1 (.inl rfl : (4 : Int) = 4 ∨ (4 : Int) = 6) b
      rw [if_pos hl] at e
      rw [at0_get' hl, sgR_ok e, e, arith_rem _ _ _ (by omega)]
      refine ⟨by omega, ?_, rfl⟩
      show C.ls [C.int 4, C.str [], C.int (((at0 b : Nat) : Int) % 128 % 4294967296), C.bool (decide (128 ≤ ((at0 b : Nat) : Int))), C.bool false, C.int 0] = C.ls [C.int 4, C.str [], C.int ((at0 b % 128 : Nat) : Int), C.bool (decide (128 ≤ at0 b)), C.bool false, C.int 0]
      have e1 : ((at0 b : Nat) : Int) % 128 % 4294967296 = ((at0 b % 128 : Nat) : Int) := by omega
      have e2 : decide (128 ≤ ((at0 b : Nat) : Int)) = decide (128 ≤ at0 b) := by apply decide_eq_decide.2; omega
      rw [e1, e2]
    · exact numb 5 (by decide) (by decide) 2 rfl
    · refine ⟨zero 6 (by decide), fun h => ?_⟩
      have hl : b.length = 1 := by omega
      have e := rd_1 (.inr rfl : (6 : Int) = 4 ∨ (6 : Int) = 6) b
      rw [if_pos hl] at e
      rw [at0_get' hl, sgR_ok e, e]
      refine ⟨by omega, ?_, rfl⟩
      have q : ∀ m : Nat, 1 ≤ m → arith .quo .u8 ((at0 b : Nat) : Int) (m : Int) = ((at0 b / m : Nat) : Int) := fun m hm => by
        have hle : at0 b / m ≤ at0 b := Nat.div_le_self _ _
        rw [arith_quo _ _ _ (by omega), ← Int.natCast_ediv, wrapu8]
        generalize at0 b / m = t at hle
        omega
      have q8 := q 8 (by decide)
      have q4 := q 4 (by decide)
      rw [show ((8 : Nat) : Int) = 8 from rfl] at q8
      rw [show ((4 : Nat) : Int) = 4 from rfl] at q4
      rw [q8, q4, arith_rem _ _ _ (by omega), arith_rem _ _ _ (by omega), arith_rem _ _ _ (by omega)]
      show C.ls [C.int 6, C.str [], C.int 0, C.bool (decide (((at0 b / 8 : Nat) : Int) % 2 = 1)), C.bool (decide (((at0 b / 4 : Nat) : Int) % 2 = 1)), C.int (IntKind.i64.wrap (((at0 b : Nat) : Int) % 4))] = C.ls [C.int 6, C.str [], C.int 0, C.bool (decide (at0 b / 8 % 2 = 1)), C.bool (decide (at0 b / 4 % 2 = 1)), C.int ((at0 b % 4 : Nat) : Int)]
      have e1 : IntKind.i64.wrap (((at0 b : Nat) : Int) % 4) = ((at0 b % 4 : Nat) : Int) := by rw [wrapi64_in (by omega)]; omega
      have e2 : decide (((at0 b / 8 : Nat) : Int) % 2 = 1) = decide (at0 b / 8 % 2 = 1) := by apply decide_eq_decide.2; omega
      have e3 : decide (((at0 b / 4 : Nat) : Int) % 2 = 1) = decide (at0 b / 4 % 2 = 1) := by apply decide_eq_decide.2; omega
      rw [e1, e2, e3]
theorem putB_of {v n : Nat} (hn : 1 ≤ n ∧ n ≤ 8) (h : v < 256 ^ n) : putB v n = toBE n v := by
  have e : putE v n = 0 := by rw [putE_zero, Int.toNat_natCast]; exact ⟨by omega, by omega, h⟩
  unfold putB
  rw [if_pos e, Int.toNat_natCast]
theorem pc_ref09_Write (s : Sg) (hr : s.right) (hs : s.text.length ≤ 1000000) : PC Try.prog f_crossbarref09_Write [(SgSh, SgC s)] [(Byt, B s.bytes)] := by
  apply pcv_crossbarref09_Write rfl
  simp only [vc_crossbarref09_Write, SgC, VC.H_asrt, VC.H_cond, VC.H_ret, VC.H_call1, ev_var, ev_int, ev_nil, ev_cons, ev_hd, ev_tl, ev_bin, ev_add, ev_eql, ev_ite, ev_conv, ev_slen, ev_ofStr, ev_fits64, ea_nil, ea_cons, env_zero, env_succ, env_cons, env_nil, List.map_cons, List.map_nil, v_int, v_bool, v_str, v_ls, v_hd, v_tl, int_ite, pres_nil, pres_cons, decide_eq_true_eq, decide_eq_false_iff_not, forall_const, and_true]
  unfold Sg.right at hr
  unfold Sg.bytes
  rcases kinds s.kind with ⟨h1, h2, h3, h4⟩ | ⟨h1, h2, h3, h4⟩ | ⟨h1, h2, h3⟩ | ⟨h1, h2, h3⟩ | ⟨h1, h2, h3, h4⟩
  · have hk : s.kind = 1 ∨ s.kind = 2 := h1
    rw [if_pos h1]
    refine ⟨fun h => ?_, fun h => ⟨fun h5 => absurd h5 h3, fun _ => ⟨fun h6 => ?_, fun _ => ⟨fun h7 => absurd h7 h4, fun _ => ⟨by omega, rfl⟩⟩⟩⟩⟩ <;> exfalso <;> omega
  · have hk : s.kind = 3 ∨ s.kind = 5 := h2
    rw [if_neg h1, if_pos h2] at hr
    rw [if_neg h1, if_pos h2]
    obtain ⟨_, hn, _⟩ := hr
    refine ⟨fun h => ?_, fun h => ⟨fun h5 => absurd h5 h3, fun _ => ⟨fun h6 => ?_, fun h6 => ?_⟩⟩⟩
    · have hm : sgMany s.kind = 3 := if_pos h
      rw [hm] at hn ⊢
      have hn' : s.num < 16777216 := hn
      have e : IntKind.u64.wrap (s.num : Int) = (s.num : Int) := by rw [wrapu64]; omega
      rw [e, ← putB_of (by decide) hn]
      exact ⟨_, pc_crossbarref01_Must s.num (3 : Nat) (by omega), rfl⟩
    · have hm : sgMany s.kind = 2 := if_neg h
      rw [hm] at hn ⊢
      have hn' : s.num < 65536 := hn
      have e : IntKind.u64.wrap (s.num : Int) = (s.num : Int) := by rw [wrapu64]; omega
      rw [e, ← putB_of (by decide) hn]
      exact ⟨_, pc_crossbarref01_Must s.num (2 : Nat) (by omega), rfl⟩
    · exfalso; omega
  · rw [if_neg h1, if_neg h2, if_pos h3] at hr
    rw [if_neg h1, if_neg h2, if_pos h3]
    obtain ⟨_, hn, _⟩ := hr
    refine ⟨fun h => by omega, fun h => ⟨fun h5 => ⟨fun ha => ?_, fun ha => ?_⟩, fun h5 => absurd h3 h5⟩⟩
    · rw [ha, byte1 _ (by simp; omega)]
      congr 4
      rw [arith_add, wrapu8, wrapu32]
      simp
      omega
    · have ha : s.a = false := by simpa using ha
      rw [ha, byte1 _ (by simp; omega)]
      congr 4
      rw [wrapu8]
      simp
      omega
  · have h5 : ¬ s.kind = 4 := by omega
    rw [if_neg h1, if_neg h2, if_neg h5, if_pos h3] at hr
    rw [if_neg h1, if_neg h2, if_neg h5, if_pos h3]
    obtain ⟨_, _, hn⟩ := hr
    obtain ⟨m, hm⟩ : ∃ m : Nat, s.turns = m := ⟨s.turns.toNat, by omega⟩
    have hm4 : m < 4 := by omega
    refine ⟨fun h => by omega, fun h => ⟨fun h5 => by omega, fun h5 => ⟨fun h6 => by omega, fun h6 => ⟨fun _ => ?_, fun h7 => absurd h3 h7⟩⟩⟩⟩
    unfold sgTurn
    rw [hm]
    cases ha : s.a <;> cases hb : s.b <;> simp
    all_goals have hm' : m = 0 ∨ m = 1 ∨ m = 2 ∨ m = 3 := by omega
    all_goals rcases hm' with rfl | rfl | rfl | rfl
    all_goals first | rfl | exact ⟨by omega, rfl⟩ | exact ⟨by omega, by omega, rfl⟩
  · rw [if_neg h1, if_neg h2, if_neg h3, if_neg h4] at hr
    exact absurd hr id
theorem pc_ref09_Canon (k : Int) (b : List UInt8) (hb : b.length ≤ 1000000) : PC Try.prog f_crossbarref09_Canon [(I64, .int k), (Byt, B b)] [(.bool, .bool (sgCanon k b))] := by
  apply pcv_crossbarref09_Canon rfl
  simp only [vc_crossbarref09_Canon, VC.H_ret, VC.H_call1, VC.H_call2, ev_var, ev_int, ev_bool, ev_nil, ev_cons, ev_hd, ev_tl, ev_eql, ev_seql, ev_ite, ev_toStr, ea_nil, ea_cons, env_zero, env_succ, env_cons, env_nil, List.map_cons, List.map_nil, v_int, v_bool, v_str, v_ls, bool_ite, pres_nil, pres_cons, decide_eq_true_eq, forall_const, and_true]
  refine ⟨_, _, pc_ref09_Read k b hb, ?_⟩
  simp only [SgC, v_int, v_hd, v_tl]
  unfold sgCanon
  have hl := sgR_len k b
  by_cases h : sgE k b = 0
  · obtain ⟨hr, _⟩ := sg_right h
    refine ⟨_, fun _ => pc_ref09_Write (sgR k b) hr (by omega), ?_⟩
    simp [h, bytesOf_ofBytes, true_and]
  · refine ⟨C.ls [], fun h2 => absurd h2 h, ?_⟩
    simp [h]
theorem pc_law09_awake : PC Try.prog f_crossbarlaw09_awake [] [(.bool, .bool true)] := by
  apply pcv_crossbarlaw09_awake rfl
  simp only [vc_crossbarlaw09_awake, VC.H_ret, VC.H_call1, VC.H_call2, ev_var, ev_int, ev_bool, ev_str, ev_nil, ev_cons, ev_hd, ev_tl, ev_eql, ev_seql, ev_not, ev_ite, ev_toStr, ev_deq, ea_nil, ea_cons, env_zero, env_succ, env_cons, env_nil, List.map_nil, v_int, v_bool, v_str, v_ls, toBool_ite, bool_ite, pres_nil, pres_cons, andT, notT, decide_eq_true_eq, forall_const, and_true]
  have w1 := pc_sign_Write ⟨6, [], 0, false, true, 2⟩ (by decide) (by decide)
  have w2 := pc_sign_Write ⟨4, [], 5, true, false, 0⟩ (by decide) (by decide)
  have r1 := pc_sign_Read 6 [246] (by decide)
  have r2 := pc_sign_Read 1 [118, 45, 49] (by decide)
  have r3 := pc_sign_Read 3 [1, 2] (by decide)
  have c1 := pc_sign_Canon 6 [6] (by decide)
  have c2 := pc_sign_Canon 6 [246] (by decide)
  have t1 := pc_sign_Right ⟨6, [], 0, false, true, 2⟩ (by decide) (by decide)
  rw [show (if (⟨6, [], 0, false, true, 2⟩ : Sg).right then (⟨6, [], 0, false, true, 2⟩ : Sg).bytes else []) = [6] by decide, show (if (⟨6, [], 0, false, true, 2⟩ : Sg).right then (0 : Int) else 1) = 0 by decide] at w1
  rw [show (if (⟨4, [], 5, true, false, 0⟩ : Sg).right then (⟨4, [], 5, true, false, 0⟩ : Sg).bytes else []) = [133] by decide, show (if (⟨4, [], 5, true, false, 0⟩ : Sg).right then (0 : Int) else 1) = 0 by decide] at w2
  rw [show sgR 6 [246] = ⟨6, [], 0, false, true, 2⟩ by decide, show sgE 6 [246] = 0 by decide] at r1
  rw [show sgR 1 [118, 45, 49] = ⟨1, [118, 45, 49], 0, false, false, 0⟩ by decide, show sgE 1 [118, 45, 49] = 0 by decide] at r2
  rw [show sgR 3 [1, 2] = Sg.zero by decide, show sgE 3 [1, 2] = 4 by decide] at r3
  rw [show sgCanon 6 [6] = true by decide] at c1
  rw [show sgCanon 6 [246] = false by decide] at c2
  rw [decide_eq_true (by decide)] at t1
  refine ⟨_, _, w1, _, _, r1, _, _, w2, _, _, r2, _, _, r3, _, fun _ => c1, _, fun _ => c2, _, fun _ => t1, ?_⟩
  simp only [SgC, deq_sg, v_int, v_bool, v_str, v_ls, v_hd, v_tl, bool_ite, decide_eq_true_eq, and_true, true_and]
  rfl
end Go.Vc
