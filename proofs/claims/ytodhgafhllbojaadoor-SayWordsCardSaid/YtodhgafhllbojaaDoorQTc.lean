/-
  The contracts of text's functions that count runes, each out of its condition.
-/
import Derived.Test.YtodhgafhllbojaaDoorQVcs1
import Derived.Test.YtodhgafhllbojaaDoorQTb
import Derived.Lib.TrimUEq
set_option maxRecDepth 100000
namespace Go.Vc
open Go Go.Proofs Go.Plain
abbrev Byt : Sh := .sl (.int .u8)
abbrev I64 : Sh := .int .i64
abbrev I32 : Sh := .int .i32
abbrev U8 : Sh := .int .u8
theorem iteB {p : Prop} [Decidable p] {a b : Bool} : (if p then a else b) = true ↔ (p ∧ a = true ∨ ¬ p ∧ b = true) := by by_cases h : p <;> simp [h]
theorem iteF {p : Prop} [Decidable p] {a b : Bool} : (if p then a else b) = false ↔ (p ∧ a = false ∨ ¬ p ∧ b = false) := by by_cases h : p <;> simp [h]
theorem pc_text_signOf (x : UInt8) : PC Tryd.prog f_text_signOf [(U8, .int (x.toNat : Nat))] [(.bool, .bool (tsgn x))] := by
  apply pcv_text_signOf rfl
  simp only [vc_text_signOf, VC.H_cond, VC.H_ret, ev_var, ev_int, ev_bool, ev_eql, ev_leq, ev_geq, ev_ite, ea_nil, ea_cons, env_zero, List.map_cons, List.map_nil, v_int, v_bool, bool_ite, andT, decide_eq_true_eq]
  unfold tsgn
  refine ⟨fun h => ?_, fun h => ?_⟩
  · congr 3
    symm
    simp only [iteB, decide_eq_true_eq, Bool.false_eq_true, and_false, or_false] at h ⊢
    omega
  · congr 3
    rw [Bool.eq_iff_iff]
    simp only [iteB, iteF, decide_eq_true_eq, decide_eq_false_iff_not, and_true] at h ⊢
    omega
theorem tok_step {s : List UInt8} {i : Nat} (hi : i < s.length) (h : ∀ x ∈ s.take i, tsgn x = true) : (∀ x ∈ s.take (i + 1), tsgn x = true) ↔ tsgn (s.getD i 0) = true := by
  rw [show s.take (i + 1) = s.take i ++ [s[i]] from List.take_succ_eq_append_getElem hi]
  have e : s.getD i 0 = s[i] := by simp [List.getD, hi]
  rw [e]
  constructor
  · intro h2
    exact h2 _ (List.mem_append_right _ (by simp))
  · intro h2 x hx
    rcases List.mem_append.1 hx with hx | hx
    · exact h x hx
    · rw [List.mem_singleton] at hx
      rw [hx]; exact h2
theorem tok_bad {s : List UInt8} {i : Nat} (hi : i < s.length) (h : tsgn (s.getD i 0) = false) : tokL s = false := by
  have e : s.getD i 0 = s[i] := by simp [List.getD, hi]
  rw [e] at h
  unfold tokL
  have : s.all tsgn = false := by
    rw [List.all_eq_false]
    exact ⟨_, List.getElem_mem hi, by simp [h]⟩
  rw [this, Bool.and_false]
theorem pc_text_Token (s : List UInt8) (hs : s.length ≤ 1000000) : PC Tryd.prog f_text_Token [(.str, .str s)] [(.bool, .bool (tokL s))] := by
  apply pcv_text_Token rfl
  simp only [vc_text_Token, VC.H_cond, VC.H_ret, ev_var, ev_int, ev_bool, ev_lss, ev_gtr, ev_ite, ev_slen, ea_nil, ea_cons, env_zero, List.map_cons, List.map_nil, v_int, v_bool, v_str, bool_ite, orT, orF, decide_eq_true_eq, decide_eq_false_iff_not, Int.not_lt]
  refine ⟨fun h => ?_, fun h => ?_⟩
  · have : tokL s = false := by unfold tokL; rw [decide_eq_false (by omega)]; rfl
    rw [this]
  · refine VC.go_loop (fun i : Nat => [.bool false, .int (i : Int)]) (fun i => i ≤ s.length ∧ ∀ x ∈ s.take i, tsgn x = true) (fun i => s.length - i) 0 rfl ⟨Nat.zero_le _, by simp⟩ fun i hi => ?_
    obtain ⟨i1, i2⟩ := hi
    simp only [VC.H_asrt, VC.H_cond, VC.H_ret, VC.H_back, VC.H_call1, ev_var, ev_int, ev_bool, ev_add, ev_lss, ev_geq, ev_not, ev_slen, ev_sidx, ev_fits64, ea_nil, ea_cons, env_zero, env_succ, env_cons, env_nil, List.map_cons, List.map_nil, v_int, v_bool, v_str, pres_nil, notT, notF, decide_eq_true_eq, decide_eq_false_iff_not, forall_const, Int.not_lt]
    refine ⟨fun hc => ?_, fun hc => ?_⟩
    · have hk : i < s.length := by omega
      refine ⟨by omega, by omega, _, pc_text_signOf _, ?_⟩
      simp only [v_bool]
      refine ⟨fun h2 => ?_, fun h2 => ⟨by omega, i + 1, by simp, ⟨by omega, (tok_step hk i2).2 (by simpa using h2)⟩, by omega⟩⟩
      rw [tok_bad hk (by simpa using h2)]
    · have he : i = s.length := by omega
      rw [he, List.take_length] at i2
      have : tokL s = true := by
        unfold tokL
        rw [decide_eq_true (by omega), Bool.true_and, List.all_eq_true]
        exact i2
      rw [this]
theorem pc_ref04_Token (s : List UInt8) (hs : s.length ≤ 1000000) : PC Tryd.prog f_crossbarref04_Token [(.str, .str s)] [(.bool, .bool (tokL s))] := by
  apply pcv_crossbarref04_Token rfl
  simp only [vc_crossbarref04_Token, List.map_cons, List.map_nil]
  refine VC.go_loop (fun i : Nat => [.bool false, .int (i : Int)]) (fun i => i ≤ s.length ∧ ∀ x ∈ s.take i, tsgn x = true) (fun i => s.length - i) 0 rfl ⟨Nat.zero_le _, by simp⟩ fun i hi => ?_
  obtain ⟨i1, i2⟩ := hi
  simp only [VC.H_asrt, VC.H_cond, VC.H_ret, VC.H_back, ev_var, ev_int, ev_bool, ev_add, ev_neq, ev_lss, ev_leq, ev_gtr, ev_geq, ev_ite, ev_slen, ev_sidx, ev_fits64, ea_nil, ea_cons, env_zero, env_succ, env_cons, env_nil, List.map_cons, List.map_nil, v_int, v_bool, v_str, bool_ite, pres_nil, orT, andT, andF, nnE, decide_eq_true_eq, decide_eq_false_iff_not, forall_const, Int.not_lt]
  refine ⟨fun hc => ?_, fun hc => ?_⟩
  · have hk : i < s.length := by omega
    have hb := tok_bad hk
    have hg := (tok_step hk i2).2
    simp only [Int.toNat_natCast]
    generalize s.getD i 0 = x at hb hg
    have hx : tsgn x = true ↔ (97 ≤ x.toNat ∧ x.toNat ≤ 122 ∨ 65 ≤ x.toNat ∧ x.toNat ≤ 90 ∨ 48 ≤ x.toNat ∧ x.toNat ≤ 57 ∨ x.toNat = 45 ∨ x.toNat = 95) := by unfold tsgn; rw [decide_eq_true_eq]
    refine ⟨by omega, by omega, fun h2 => ?_, fun h2 => ⟨by omega, i + 1, by simp, ⟨by omega, hg ?_⟩, by omega⟩⟩
    · rw [hb (Bool.eq_false_iff.2 fun h3 => by rw [hx] at h3; omega)]
    · rw [hx]; omega
  · have he : i = s.length := by omega
    rw [he, List.take_length] at i2
    have : s.all tsgn = true := List.all_eq_true.2 i2
    unfold tokL
    rw [this, Bool.and_true]
    congr 3
    rw [Bool.eq_iff_iff]
    simp only [decide_eq_true_eq]
    split <;> simp <;> omega
theorem dec_at {s : List UInt8} {p : Nat} : Utf8.decode ⟨s.toArray⟩ p = Lib.decodeL (s.drop p) := (Lib.decodeL_drop ⟨s.toArray⟩ p).symm
theorem drop_ne {s : List UInt8} {p : Nat} (h : p < s.length) : s.drop p ≠ [] := by
  intro e
  have := congrArg List.length e
  simp at this
  omega
theorem pc_text_plain (r : Int) : PC Tryd.prog f_text_plain [(I32, .int r)] [(.bool, .bool (decide (32 ≤ r ∧ r ≠ 127)))] := by
  apply pcv_text_plain rfl
  simp only [vc_text_plain, VC.H_ret, ev_var, ev_int, ev_bool, ev_neq, ev_geq, ev_ite, ea_nil, ea_cons, env_zero, List.map_cons, List.map_nil, v_int, v_bool, bool_ite, decide_eq_true_eq]
  congr 3
  rw [Bool.eq_iff_iff]
  simp only [iteB, decide_eq_true_eq, Bool.false_eq_true, and_false, or_false]
theorem pc_text_stray (s : List UInt8) (p : Nat) (h : p < s.length) (hs : s.length ≤ 1000000) : PC Tryd.prog f_text_stray [(.str, .str s), (I64, .int (p : Int)), (I32, .int ((Lib.decodeL (s.drop p)).1 : Nat))] [(.bool, .bool (stray (s.drop p)))] := by
  apply pcv_text_stray rfl
  simp only [vc_text_stray, VC.H_asrt, VC.H_cond, VC.H_ret, VC.H_call2, ev_var, ev_int, ev_bool, ev_eql, ev_neq, ev_leq, ev_geq, ev_slen, ev_ssub, ea_nil, ea_cons, env_zero, env_succ, env_cons, env_nil, List.map_cons, List.map_nil, v_int, v_bool, v_str, pres_nil, nnE, decide_eq_true_eq, decide_eq_false_iff_not, forall_const]
  unfold stray
  refine ⟨fun hc => ?_, fun hc => ⟨by omega, by omega, by omega, ?_⟩⟩
  · rw [decide_eq_false (show ¬ (Lib.decodeL (s.drop p)).1 = 65533 by omega)]
    rfl
  · rw [Int.toNat_natCast, Int.toNat_natCast, List.take_length]
    refine ⟨_, _, pc_decode _ (drop_ne h), ?_⟩
    simp only [v_int]
    rw [decide_eq_true (show (Lib.decodeL (s.drop p)).1 = 65533 by omega), Bool.true_and]
    congr 3
    apply decide_eq_decide.2
    omega
theorem may_step {l : List UInt8} (h : l ≠ []) : mayL l = (decide (32 ≤ (Lib.decodeL l).1) && (decide ((Lib.decodeL l).1 ≠ 127) && !stray l) && mayL (l.drop (rwid l))) := by
  unfold mayL
  rw [chunks_ne h, List.all_cons]
  have hd := (head_chunk h).2
  have hst : stray (l.take (rwid l)) = stray l := by unfold stray; rw [hd]
  unfold okc
  rw [hd, hst]
theorem runes_step {l : List UInt8} (h : l ≠ []) : runesL l = runesL (l.drop (rwid l)) + 1 := by
  unfold runesL
  rw [chunks_ne h, List.length_cons]
theorem pc_text_May (s : List UInt8) (hs : s.length ≤ 1000000) : PC Tryd.prog f_text_May [(.str, .str s)] [(.bool, .bool (mayL s))] := by
  apply pcv_text_May rfl
  simp only [vc_text_May, List.map_cons, List.map_nil]
  refine VC.go_loop (fun p : Nat => [.bool false, .int (p : Int)]) (fun p => p ≤ s.length ∧ mayL s = mayL (s.drop p)) (fun p => s.length - p) 0 rfl ⟨Nat.zero_le _, rfl⟩ fun p hi => ?_
  obtain ⟨i1, i2⟩ := hi
  simp only [VC.H_asrt, VC.H_cond, VC.H_ret, VC.H_back, VC.H_call1, ev_var, ev_bool, ev_add, ev_lss, ev_not, ev_ite, ev_slen, ev_drune, ev_dwid, ea_nil, ea_cons, env_zero, env_succ, env_cons, env_nil, List.map_cons, List.map_nil, v_int, v_bool, v_str, toBool_ite, int_ite, pres_nil, pres_cons, orT, orF, notT, notF, decide_eq_true_eq, decide_eq_false_iff_not, forall_const, and_true, Int.not_lt, Int.toNat_natCast]
  refine ⟨fun hc => ?_, fun hc => ?_⟩
  · have hp : p < s.length := by omega
    have hne := drop_ne hp
    have hw := rwid_pos (s.drop p)
    have hle := rwid_le hne
    rw [List.length_drop] at hle
    rw [may_step hne, List.drop_drop] at i2
    rw [dec_at]
    have hwd : ((Lib.decodeL (s.drop p)).2 : Nat) = rwid (s.drop p) := rfl
    rw [hwd]
    refine ⟨by omega, by omega, _, pc_text_plain _, _, fun _ => pc_text_stray s p hp hs, fun hx => ?_, fun hx => ?_⟩
    · simp only [v_bool, decide_eq_false_iff_not] at hx
      have : mayL s = false := by
        rw [i2]
        rcases hx with hx | hx
        · have : ¬ (32 ≤ (Lib.decodeL (s.drop p)).1 ∧ (Lib.decodeL (s.drop p)).1 ≠ 127) := fun h2 => hx ⟨by omega, by omega⟩
          by_cases h32 : 32 ≤ (Lib.decodeL (s.drop p)).1
          · have : (Lib.decodeL (s.drop p)).1 = 127 := Classical.byContradiction fun h3 => this ⟨h32, h3⟩
            simp [this]
          · simp [h32]
        · simp [hx]
      rw [this]
    · simp only [v_bool, decide_eq_false_iff_not] at hx
      refine ⟨p + rwid (s.drop p), ?_, ⟨by omega, ?_⟩, by omega⟩
      · rw [if_pos (show ((p : Nat) : Int) < ((s.length : Nat) : Int) by omega)]
        congr 3
      · rw [i2]
        obtain ⟨h1, h2⟩ := Classical.not_not.1 hx.1
        have h3 := hx.2
        rw [h3, decide_eq_true (show 32 ≤ (Lib.decodeL (s.drop p)).1 by omega), decide_eq_true (show (Lib.decodeL (s.drop p)).1 ≠ 127 by omega)]
        rfl
  · have : p = s.length := by omega
    subst this
    rw [i2, List.drop_length]
    unfold mayL
    rw [chunks_nil]
    rfl
theorem pc_text_Runes (s : List UInt8) (hs : s.length ≤ 1000000) : PC Tryd.prog f_text_Runes [(.str, .str s)] [(I64, .int ((runesL s : Nat) : Int))] := by
  apply pcv_text_Runes rfl
  simp only [vc_text_Runes, List.map_cons, List.map_nil]
  refine VC.go_loop (fun x : Nat × Nat => [.int (x.1 : Int), .int (x.2 : Int)]) (fun x => x.2 ≤ s.length ∧ x.1 + runesL (s.drop x.2) = runesL s) (fun x => s.length - x.2) (0, 0) rfl ⟨Nat.zero_le _, by simp⟩ fun x hi => ?_
  obtain ⟨n, p⟩ := x
  obtain ⟨i1, i2⟩ := hi
  simp only at i1 i2
  have hr := runesL_le s
  simp only [VC.H_asrt, VC.H_cond, VC.H_ret, VC.H_back, ev_var, ev_int, ev_add, ev_lss, ev_ite, ev_slen, ev_fits64, ev_dwid, ea_nil, ea_cons, env_zero, env_succ, env_cons, env_nil, List.map_cons, List.map_nil, v_int, v_bool, v_str, int_ite, pres_nil, decide_eq_true_eq, decide_eq_false_iff_not, forall_const, Int.not_lt, Int.toNat_natCast]
  refine ⟨fun hc => ?_, fun hc => ?_⟩
  · have hp : p < s.length := by omega
    have hne := drop_ne hp
    have hw := rwid_pos (s.drop p)
    have hle := rwid_le hne
    rw [List.length_drop] at hle
    rw [runes_step hne, List.drop_drop] at i2
    rw [dec_at]
    have hwd : ((Lib.decodeL (s.drop p)).2 : Nat) = rwid (s.drop p) := rfl
    rw [hwd]
    refine ⟨by omega, (n + 1, p + rwid (s.drop p)), ?_, ⟨by omega, by simp only; omega⟩, by simp only; omega⟩
    rw [if_pos (show ((p : Nat) : Int) < ((s.length : Nat) : Int) by omega)]
    congr 3
  · have : p = s.length := by omega
    subst this
    rw [List.drop_length] at i2
    have : runesL ([] : List UInt8) = 0 := by unfold runesL; rw [chunks_nil]; rfl
    rw [← i2, this, Nat.add_zero]
end Go.Vc
