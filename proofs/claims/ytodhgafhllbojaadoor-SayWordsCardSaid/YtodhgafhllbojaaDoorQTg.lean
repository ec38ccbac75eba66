/-
  The contract of the reference's Words, out of its condition.
-/
import Derived.Test.YtodhgafhllbojaaDoorQVcs1
import Derived.Test.YtodhgafhllbojaaDoorQTf
set_option maxRecDepth 100000
namespace Go.Vc
open Go Go.Proofs Go.Plain
theorem chunk_byte {l : List UInt8} (h : l ≠ []) (k : UInt8) (hk : k.toNat < 128) : l.take (rwid l) = [k] ↔ (l.getD 0 0).toNat = k.toNat := by
  rw [chunk_code h k hk]
  rcases rune_cases h with ⟨r1, r2, r3, r4⟩ | ⟨r1, r2, r3, r4, r5⟩ | ⟨r1, r2, r3, r4, r5⟩
  · have : (Lib.decodeL l).1 = 65533 := by
      unfold stray at r3
      simp only [Bool.and_eq_true, decide_eq_true_eq] at r3
      exact r3.1
    omega
  · omega
  · omega
theorem pc_ref04_Words (s : List UInt8) (hs : s.length ≤ 1000000) : PC Tryd.prog f_crossbarref04_Words [(.str, .str s)] [(.sl .str, .ls (wdB (wordsL s))), (.bool, .bool (wordsL s).isSome)] := by
  apply pcv_crossbarref04_Words rfl
  simp only [vc_crossbarref04_Words, List.map_cons, List.map_nil]
  refine VC.go_loop (fun x : List (List UInt8) × List UInt8 × Nat × Bool × Bool => [.ls [], .bool false, .ls (x.1.map .str), .str x.2.1, .bool x.2.2.2.1, .bool x.2.2.2.2, .int (x.2.2.1 : Int)])
    (fun x => x.2.1.length ≤ x.2.2.1 ∧ x.2.2.1 ≤ s.length ∧ x.1.length ≤ x.2.2.1 ∧ wordsL s = (wd x.2.2.2.1 x.2.2.2.2 x.2.1 (chunks (s.drop x.2.2.1))).map (x.1 ++ ·)) (fun x => s.length - x.2.2.1) ([], [], 0, false, false) rfl
    ⟨Nat.le_refl _, Nat.zero_le _, Nat.le_refl _, by simp [wordsL]⟩ fun x hi => ?_
  obtain ⟨out, cur, p, q, t⟩ := x
  obtain ⟨i1, i2, i3, i4⟩ := hi
  simp only at i1 i2 i3 i4
  simp only [VC.H_asrt, VC.H_cond, VC.H_ret, VC.H_back, VC.H_call1, ev_var, ev_int, ev_bool, ev_str, ev_nil, ev_nilS, ev_cons, ev_add, ev_mul, ev_eql, ev_lss, ev_leq, ev_geq, ev_seql, ev_not, ev_ite, ev_len, ev_slen, ev_sidx, ev_ssub, ev_app, ev_cat, ev_fits64, ea_nil, ea_cons, env_zero, env_succ, env_cons, env_nil, List.map_cons, List.map_nil, v_int, v_bool, v_str, v_ls, toInt_ite, bool_ite, pres_nil, orT, orF, andT, andF, notT, notF, decide_eq_true_eq, decide_eq_false_iff_not, forall_const, Int.not_lt, Int.toNat_natCast, List.length_map]
  refine ⟨fun hc => ?_, fun hc => ?_⟩
  · have hp : p < s.length := by omega
    have hne := drop_ne hp
    have hw := rwid_pos (s.drop p)
    have hle := rwid_le hne
    rw [List.length_drop] at hle
    have c34 := chunk_byte hne 34 (by decide)
    have c92 := chunk_byte hne 92 (by decide)
    have c32 := chunk_byte hne 32 (by decide)
    rw [getD_drop, Nat.add_zero] at c34 c92 c32
    rw [chunks_ne hne, List.drop_drop] at i4
    refine ⟨_, pc_ref04_Rune s p hp hs, ?_⟩
    simp only [v_int]
    have e : (if ((runeN (s.drop p) : Nat) : Int) = 0 then (1 : Int) else ((runeN (s.drop p) : Nat) : Int)) = ((rwid (s.drop p) : Nat) : Int) := by
      rcases rune_cases hne with ⟨r1, r2, _⟩ | ⟨r1, r2, _⟩ | ⟨r1, r2, _⟩
      · rw [r1, r2]; rfl
      · rw [r1, r2]; rfl
      · rw [if_neg (by omega), r2]
    rw [e]
    have hpw : ((p : Int) + ((rwid (s.drop p) : Nat) : Int)).toNat = p + rwid (s.drop p) := by omega
    have hsub : (s.take (p + rwid (s.drop p))).drop p = (s.drop p).take (rwid (s.drop p)) := by rw [List.drop_take, Nat.add_sub_cancel_left]
    rw [hpw, hsub]
    have hcl : ((s.drop p).take (rwid (s.drop p))).length = rwid (s.drop p) := by rw [List.length_take, List.length_drop]; omega
    rw [hcl]
    have go : ∀ q' t', wordsL s = (wd q' t' (cur ++ (s.drop p).take (rwid (s.drop p))) (chunks (s.drop (p + rwid (s.drop p))))).map (out ++ ·) →
        (-9223372036854775808 ≤ ((cur.length : Nat) : Int) + ((rwid (s.drop p) : Nat) : Int) ∧ ((cur.length : Nat) : Int) + ((rwid (s.drop p) : Nat) : Int) ≤ 9223372036854775807) ∧ ∃ s' : List (List UInt8) × List UInt8 × Nat × Bool × Bool,
        [C.ls [], C.bool false, C.ls (out.map C.str), C.str (cur ++ (s.drop p).take (rwid (s.drop p))), C.bool q', C.bool t', C.int ((p : Int) + (rwid (s.drop p) : Nat))] =
          [C.ls [], C.bool false, C.ls (s'.1.map C.str), C.str s'.2.1, C.bool s'.2.2.2.1, C.bool s'.2.2.2.2, C.int (s'.2.2.1 : Int)] ∧
        (s'.2.1.length ≤ s'.2.2.1 ∧ s'.2.2.1 ≤ s.length ∧ s'.1.length ≤ s'.2.2.1 ∧ wordsL s = (wd s'.2.2.2.1 s'.2.2.2.2 s'.2.1 (chunks (s.drop s'.2.2.1))).map (s'.1 ++ ·)) ∧ s.length - s'.2.2.1 < s.length - p :=
      fun q' t' h => ⟨by omega, (out, cur ++ (s.drop p).take (rwid (s.drop p)), p + rwid (s.drop p), q', t'), rfl, ⟨by simp only [List.length_append, hcl]; omega, by simp only; omega, by simp only; omega, h⟩, by simp only; omega⟩
    have b34 : UInt8.toNat 34 = 34 := rfl
    have b92 : UInt8.toNat 92 = 92 := rfl
    have b32 : UInt8.toNat 32 = 32 := rfl
    rw [b34] at c34
    rw [b92] at c92
    rw [b32] at c32
    rw [wd] at i4
    refine ⟨by omega, by omega, by omega, by omega, by omega, by omega, by omega, fun ht => ?_, fun ht => ⟨fun h92 => ?_, fun h92 => ⟨fun h34 => ?_, fun h34 => ⟨fun h32 => ⟨fun hcn => ?_, fun hcn => ?_⟩, fun h32 => ?_⟩⟩⟩⟩
    · rw [if_pos ht] at i4
      exact go q false i4
    · obtain ⟨hq, h92⟩ := h92
      have e : (s.getD p 0).toNat = 92 := by omega
      rw [if_neg (by rw [ht]; decide), if_neg (fun h => by have := c34.1 h; omega), if_pos hq, decide_eq_true (c92.2 e)] at i4
      exact go q true i4
    · have e : (s.getD p 0).toNat = 34 := by omega
      rw [if_neg (by rw [ht]; decide), if_pos (c34.2 e)] at i4
      rw [ht]
      exact go (!q) false i4
    · obtain ⟨h32, hq⟩ := h32
      have e : (s.getD p 0).toNat = 32 := by omega
      rw [if_neg (by rw [ht]; decide), if_neg (fun h => by have := c34.1 h; omega), if_neg (by rw [hq]; decide), if_pos (c32.2 e), if_pos hcn] at i4
      rw [i4]
      rfl
    · obtain ⟨h32, hq⟩ := h32
      have e : (s.getD p 0).toNat = 32 := by omega
      rw [if_neg (by rw [ht]; decide), if_neg (fun h => by have := c34.1 h; omega), if_neg (by rw [hq]; decide), if_pos (c32.2 e), if_neg hcn, Option.map_map] at i4
      refine ⟨by simp only [List.length_cons, List.length_nil]; omega, (out ++ [cur], [], p + rwid (s.drop p), q, t), ?_, ⟨Nat.zero_le _, by simp only; omega, by simp; omega, ?_⟩, by simp only; omega⟩
      · rw [List.map_append]
        rfl
      · rw [i4, hq, ht]
        simp only []
        congr 1
        funext y
        simp
    · have e3 : ¬ ((s.getD p 0).toNat = 32 ∧ q = false) := fun ⟨ha, hb⟩ => by
        rcases h32 with h | h
        · omega
        · first
            | exact absurd hb h
            | (rw [hb] at h; cases h)
      rw [if_neg (by rw [ht]; decide), if_neg (fun h => by have := c34.1 h; omega)] at i4
      rw [ht]
      by_cases hq : q = true
      · have e2 : decide ((s.drop p).take (rwid (s.drop p)) = [92]) = false := decide_eq_false fun h => by
          have := c92.1 h
          rcases h92 with h | h
          · exact h hq
          · omega
        rw [if_pos hq, e2] at i4
        exact go q false i4
      · have hq : q = false := by simpa using hq
        rw [if_neg (by rw [hq]; decide), if_neg (fun h => e3 ⟨by have := c32.1 h; omega, hq⟩)] at i4
        exact go q false i4
  · have : p = s.length := by omega
    subst this
    rw [List.drop_length, chunks_nil, wd] at i4
    refine ⟨fun hx => ?_, fun hx => ⟨by simp only [List.length_cons, List.length_nil]; omega, ?_⟩⟩
    · rw [if_pos hx] at i4
      rw [i4]
      rfl
    · rw [if_neg (by
        rintro (h | h)
        · exact absurd h (by have := hx.1; simpa using this)
        · exact absurd h hx.2)] at i4
      rw [i4]
      simp [wdB]
end Go.Vc
