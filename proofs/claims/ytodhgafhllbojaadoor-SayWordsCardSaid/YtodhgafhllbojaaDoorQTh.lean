/-
  The contract of the reference's Quote, out of its condition.
-/
import Derived.Test.YtodhgafhllbojaaDoorQVcs1
import Derived.Test.YtodhgafhllbojaaDoorQTg
set_option maxRecDepth 100000
namespace Go.Vc
open Go Go.Proofs Go.Plain
theorem pc_ref04_digit (n : Nat) (h : n < 16) : PC Tryd.prog f_crossbarref04_digit [(U8, .int (n : Int))] [(U8, .int (((hexd n).toNat : Nat) : Int))] := by
  apply pcv_crossbarref04_digit rfl
  simp only [vc_crossbarref04_digit, VC.H_cond, VC.H_ret, ev_var, ev_int, ev_bin, ev_lss, ea_nil, ea_cons, env_zero, List.map_cons, List.map_nil, v_int, v_bool, decide_eq_true_eq, decide_eq_false_iff_not, Int.not_lt, arith_add, arith_sub, wrapu8]
  unfold hexd
  refine ⟨fun hc => ?_, fun hc => ?_⟩
  · rw [if_pos (by omega), UInt8.toNat_ofNat']
    congr 3
  · rw [if_neg (by omega), UInt8.toNat_ofNat']
    congr 3
    try omega
theorem okc_eq {l : List UInt8} (h : l ≠ []) : okc (l.take (rwid l)) = (decide (32 ≤ (Lib.decodeL l).1) && (decide ((Lib.decodeL l).1 ≠ 127) && !stray l)) := by
  have hd := (head_chunk h).2
  have hst : stray (l.take (rwid l)) = stray l := by unfold stray; rw [hd]
  unfold okc
  rw [hd, hst]
theorem take_one {l : List UInt8} (h : l ≠ []) : l.take 1 = [l.getD 0 0] := by cases l with | nil => exact absurd rfl h | cons x t => rfl
/-- What the chunk at the head is, quoted. -/
theorem qc_cases {l : List UInt8} (h : l ≠ []) :
    (runeN l = 1 ∧ rwid l = 1 ∧ ((l.getD 0 0).toNat = 34 ∨ (l.getD 0 0).toNat = 92) ∧ qc (l.take (rwid l)) = [92, l.getD 0 0]) ∨
    ((runeN l = 0 ∨ runeN l = 1 ∧ ((l.getD 0 0).toNat < 32 ∨ (l.getD 0 0).toNat = 127)) ∧ rwid l = 1 ∧ qc (l.take (rwid l)) = [92, hexd ((l.getD 0 0).toNat / 16), hexd ((l.getD 0 0).toNat % 16)]) ∨
    (runeN l = rwid l ∧ (runeN l = 1 → ¬ ((l.getD 0 0).toNat = 34 ∨ (l.getD 0 0).toNat = 92) ∧ ¬ ((l.getD 0 0).toNat < 32 ∨ (l.getD 0 0).toNat = 127)) ∧ qc (l.take (rwid l)) = l.take (rwid l)) := by
  have ho := okc_eq h
  have c34 := chunk_byte h 34 (by decide)
  have c92 := chunk_byte h 92 (by decide)
  have b34 : UInt8.toNat 34 = 34 := rfl
  have b92 : UInt8.toNat 92 = 92 := rfl
  rw [b34] at c34
  rw [b92] at c92
  have h1 := take_one h
  rcases rune_cases h with ⟨r1, r2, r3, r4⟩ | ⟨r1, r2, r3, r4, r5⟩ | ⟨r1, r2, r3, r4, r5⟩
  · refine .inr (.inl ⟨.inl r1, r2, ?_⟩)
    rw [r3] at ho
    unfold qc qk
    rw [ho, if_neg (by simp), r2, h1]
    rfl
  · by_cases hq : (l.getD 0 0).toNat = 34 ∨ (l.getD 0 0).toNat = 92
    · refine .inl ⟨r1, r2, hq, ?_⟩
      have : okc (l.take (rwid l)) = true := by
        rw [ho, r3, r4, decide_eq_true (show 32 ≤ (l.getD 0 0).toNat by omega), decide_eq_true (show (l.getD 0 0).toNat ≠ 127 by omega)]
        rfl
      unfold qc qk
      rw [if_pos this, if_pos (hq.imp c34.2 c92.2), r2, h1]
      rfl
    · have hcc : ¬ (l.take (rwid l) = [34] ∨ l.take (rwid l) = [92]) := fun hh => hq (hh.imp c34.1 c92.1)
      by_cases hb : (l.getD 0 0).toNat < 32 ∨ (l.getD 0 0).toNat = 127
      · refine .inr (.inl ⟨.inr ⟨r1, hb⟩, r2, ?_⟩)
        have : ¬ okc (l.take (rwid l)) = true := by
          rw [ho, r3, r4]
          simp only [Bool.and_eq_true, decide_eq_true_eq]
          omega
        unfold qc qk
        rw [if_neg this, r2, h1]
        rfl
      · refine .inr (.inr ⟨by omega, fun _ => ⟨hq, hb⟩, ?_⟩)
        have : okc (l.take (rwid l)) = true := by
          rw [ho, r3, r4, decide_eq_true (show 32 ≤ (l.getD 0 0).toNat by omega), decide_eq_true (show (l.getD 0 0).toNat ≠ 127 by omega)]
          rfl
        unfold qc qk
        rw [if_pos this, if_neg hcc]
        simp
  · have hcc : ¬ (l.take (rwid l) = [34] ∨ l.take (rwid l) = [92]) := fun hh => by
      rcases hh with hh | hh
      · have := c34.1 hh; omega
      · have := c92.1 hh; omega
    refine .inr (.inr ⟨r2, fun h1 => by omega, ?_⟩)
    have : okc (l.take (rwid l)) = true := by
      rw [ho, r3, decide_eq_true (show 32 ≤ (Lib.decodeL l).1 by omega), decide_eq_true (show (Lib.decodeL l).1 ≠ 127 by omega)]
      rfl
    unfold qc qk
    rw [if_pos this, if_neg hcc]
    simp
theorem pc_ref04_Quote (s : List UInt8) (hs : s.length ≤ 1000000) : PC Tryd.prog f_crossbarref04_Quote [(.str, .str s)] [(.str, .str (qs s))] := by
  apply pcv_crossbarref04_Quote rfl
  simp only [vc_crossbarref04_Quote, List.map_cons, List.map_nil]
  refine VC.go_loop (fun x : List UInt8 × Nat => [.ls (ofBytes x.1), .int (x.2 : Int)]) (fun x => x.2 ≤ s.length ∧ x.1.length ≤ 1 + 3 * x.2 ∧ qs s = x.1 ++ ((chunks (s.drop x.2)).flatMap qc ++ [34])) (fun x => s.length - x.2) ([34], 0) rfl
    ⟨Nat.zero_le _, Nat.le_refl _, by simp [qs]⟩ fun x hi => ?_
  obtain ⟨acc, p⟩ := x
  obtain ⟨i1, i2, i3⟩ := hi
  simp only at i1 i2 i3
  simp only [VC.H_asrt, VC.H_cond, VC.H_ret, VC.H_back, VC.H_call1, ev_var, ev_int, ev_bool, ev_nil, ev_cons, ev_bin, ev_add, ev_mul, ev_eql, ev_lss, ev_leq, ev_geq, ev_ite, ev_len, ev_slen, ev_sidx, ev_ssub, ev_app, ev_toStr, ev_ofStr, ev_fits64, ea_nil, ea_cons, env_zero, env_succ, env_cons, env_nil, List.map_cons, List.map_nil, v_int, v_bool, v_str, v_ls, bool_ite, pres_nil, orT, orF, andT, andF, decide_eq_true_eq, decide_eq_false_iff_not, forall_const, Int.not_lt, Int.toNat_natCast, ofBytes_length]
  refine ⟨fun hc => ?_, fun hc => ?_⟩
  · have hp : p < s.length := by omega
    have hne := drop_ne hp
    have hw := rwid_pos (s.drop p)
    have hle := rwid_le hne
    rw [List.length_drop] at hle
    rw [chunks_ne hne, List.drop_drop, List.flatMap_cons] at i3
    have hq := qc_cases hne
    rw [getD_drop, Nat.add_zero] at hq
    have hb := (s.getD p 0).toNat_lt
    refine ⟨_, pc_ref04_Rune s p hp hs, ?_⟩
    simp only [v_int]
    have a1 : arith .quo .u8 (((s.getD p 0).toNat : Nat) : Int) 16 = (((s.getD p 0).toNat / 16 : Nat) : Int) := by rw [arith_quo _ _ _ (by omega), wrapu8]; omega
    have a2 : arith .rem .u8 (((s.getD p 0).toNat : Nat) : Int) 16 = (((s.getD p 0).toNat % 16 : Nat) : Int) := by rw [arith_rem _ _ _ (by omega)]; omega
    rw [a1, a2]
    have go : ∀ (seg : List UInt8) (w : Nat), 1 ≤ w → p + w ≤ s.length → seg.length ≤ 3 * w → qs s = acc ++ (seg ++ (chunks (s.drop (p + w))).flatMap qc ++ [34]) →
        ∃ s' : List UInt8 × Nat, [C.ls (ofBytes acc ++ ofBytes seg), C.int ((p : Int) + (w : Nat))] = [C.ls (ofBytes s'.1), C.int (s'.2 : Int)] ∧
          (s'.2 ≤ s.length ∧ s'.1.length ≤ 1 + 3 * s'.2 ∧ qs s = s'.1 ++ ((chunks (s.drop s'.2)).flatMap qc ++ [34])) ∧ s.length - s'.2 < s.length - p :=
      fun seg w h1 h2 h3 h4 => ⟨(acc ++ seg, p + w), by rw [ofBytes_append]; rfl, ⟨by simp only; omega, by simp only [List.length_append]; omega, by rw [h4]; simp⟩, by simp only; omega⟩
    refine ⟨by omega, by omega, fun h1 => ?_, fun h1 => ⟨fun h2 => ?_, fun h2 => ?_⟩⟩
    · rcases hq with ⟨r1, r2, r3, r4⟩ | ⟨r1, r2, r4⟩ | ⟨r1, r2, r4⟩
      · rw [r4, r2] at i3
        rw [r1]
        exact ⟨by simp only [List.length_cons, List.length_nil]; omega, by omega, go [92, s.getD p 0] 1 (by omega) (by omega) (by simp) i3⟩
      · exfalso
        rcases r1 with r1 | r1 <;> omega
      · exfalso
        have := r2 (by omega)
        omega
    · rcases hq with ⟨r1, r2, r3, r4⟩ | ⟨r1, r2, r4⟩ | ⟨r1, r2, r4⟩
      · exfalso; omega
      · rw [r4, r2] at i3
        exact ⟨_, pc_ref04_digit _ (by omega), _, pc_ref04_digit _ (by omega), by simp only [List.length_cons, List.length_nil]; omega, by omega, go [92, hexd ((s.getD p 0).toNat / 16), hexd ((s.getD p 0).toNat % 16)] 1 (by omega) (by omega) (by simp) i3⟩
      · exfalso
        rcases h2 with h2 | h2
        · omega
        · have := r2 (by omega)
          omega
    · rcases hq with ⟨r1, r2, r3, r4⟩ | ⟨r1, r2, r4⟩ | ⟨r1, r2, r4⟩
      · exfalso; omega
      · exfalso
        rcases r1 with r1 | r1 <;> omega
      · rw [r4] at i3
        rw [r1]
        have hpw : ((p : Int) + ((rwid (s.drop p) : Nat) : Int)).toNat = p + rwid (s.drop p) := by omega
        have hsub : (s.take (p + rwid (s.drop p))).drop p = (s.drop p).take (rwid (s.drop p)) := by rw [List.drop_take, Nat.add_sub_cancel_left]
        have hcl : ((s.drop p).take (rwid (s.drop p))).length = rwid (s.drop p) := by rw [List.length_take, List.length_drop]; omega
        rw [hpw, hsub, hcl]
        exact ⟨by omega, by omega, by omega, by omega, by omega, by omega, go _ _ hw (by omega) (by rw [hcl]; omega) i3⟩
  · have : p = s.length := by omega
    subst this
    rw [List.drop_length, chunks_nil] at i3
    refine ⟨by simp only [List.length_cons, List.length_nil]; omega, ?_⟩
    have e : ofBytes acc ++ [C.int 34] = ofBytes (acc ++ [34]) := by rw [← ofBytes_append]; rfl
    rw [e, bytesOf_ofBytes, i3]
    rfl
end Go.Vc
