/-
  The contract of text.Words, out of its condition.
-/
import Derived.Test.YtodhgafhllbojaaDoorQVcs1
import Derived.Test.YtodhgafhllbojaaDoorQTe
set_option maxRecDepth 100000
namespace Go.Vc
open Go Go.Proofs Go.Plain
theorem chunk_code {l : List UInt8} (h : l ≠ []) (k : UInt8) (hk : k.toNat < 128) : l.take (rwid l) = [k] ↔ (Lib.decodeL l).1 = k.toNat := by
  cases dec h with
  | ascii x t hl hx hd =>
    have hw : rwid l = 1 := by unfold rwid; rw [hd]
    rw [hw, hd, hl]
    simp only [List.take_succ_cons, List.take_zero, List.cons.injEq, and_true]
    exact ⟨fun e => by rw [e], fun e => UInt8.toNat_inj.1 e⟩
  | bad x t hl hx hd =>
    have hw : rwid l = 1 := by unfold rwid; rw [hd]
    rw [hw, hd, hl]
    simp only [List.take_succ_cons, List.take_zero, List.cons.injEq, and_true]
    refine ⟨fun e => ?_, fun e => ?_⟩
    · exfalso; rw [e] at hx; omega
    · exfalso; omega
  | many c t hl hc h2 hw hr hd =>
    have e2 : rwid l = c.length := hw
    refine ⟨fun e => ?_, fun e => ?_⟩
    · exfalso
      have := congrArg List.length e
      rw [List.length_take, e2, hl, List.length_append] at this
      simp at this
      omega
    · exfalso; omega
theorem cur_step (s : List UInt8) {f p w : Nat} (hf : f ≤ p) (hp : p + w ≤ s.length) : (s.take p).drop f ++ (s.drop p).take w = (s.take (p + w)).drop f := by
  rw [List.take_add, List.drop_append_of_le_length (by rw [List.length_take]; omega)]
def wdB (o : Option (List (List UInt8))) : List C := (o.getD []).map .str
def wdE (o : Option (List (List UInt8))) : Int := if o.isSome then 0 else 6
theorem pc_text_Words (s : List UInt8) (hs : s.length ≤ 1000000) : PC Tryd.prog f_text_Words [(.str, .str s)] [(.sl .str, .ls (wdB (wordsL s))), (I64, .int (wdE (wordsL s)))] := by
  apply pcv_text_Words rfl
  simp only [vc_text_Words, List.map_cons, List.map_nil]
  refine VC.go_loop (fun x : List (List UInt8) × Nat × Nat × Bool × Bool => [.ls [], .int 0, .ls (x.1.map .str), .int (x.2.1 : Int), .bool x.2.2.2.1, .bool x.2.2.2.2, .int (x.2.2.1 : Int)])
    (fun x => x.2.1 ≤ x.2.2.1 ∧ x.2.2.1 ≤ s.length ∧ x.1.length ≤ x.2.1 ∧ wordsL s = (wd x.2.2.2.1 x.2.2.2.2 ((s.take x.2.2.1).drop x.2.1) (chunks (s.drop x.2.2.1))).map (x.1 ++ ·)) (fun x => s.length - x.2.2.1) ([], 0, 0, false, false) rfl
    ⟨Nat.le_refl _, Nat.zero_le _, Nat.le_refl _, by simp [wordsL]⟩ fun x hi => ?_
  obtain ⟨out, f, p, q, t⟩ := x
  obtain ⟨i1, i2, i3, i4⟩ := hi
  simp only at i1 i2 i3 i4
  simp only [VC.H_asrt, VC.H_cond, VC.H_ret, VC.H_back, ev_var, ev_int, ev_bool, ev_nil, ev_nilS, ev_cons, ev_add, ev_mul, ev_eql, ev_lss, ev_leq, ev_geq, ev_not, ev_ite, ev_len, ev_slen, ev_ssub, ev_app, ev_fits64, ev_drune, ev_dwid, ea_nil, ea_cons, env_zero, env_succ, env_cons, env_nil, List.map_cons, List.map_nil, v_int, v_bool, v_str, v_ls, int_ite, bool_ite, pres_nil, orT, orF, decide_eq_true_eq, decide_eq_false_iff_not, forall_const, Int.not_lt, Int.toNat_natCast, List.length_map]
  refine ⟨fun hc => ?_, fun hc => ?_⟩
  · have hp : p < s.length := by omega
    have hne := drop_ne hp
    have hw := rwid_pos (s.drop p)
    have hle := rwid_le hne
    rw [List.length_drop] at hle
    rw [dec_at]
    have hwd : ((Lib.decodeL (s.drop p)).2 : Nat) = rwid (s.drop p) := rfl
    have c34 := chunk_code hne 34 (by decide)
    have c92 := chunk_code hne 92 (by decide)
    have c32 := chunk_code hne 32 (by decide)
    rw [chunks_ne hne, List.drop_drop] at i4
    have hcur := cur_step s (w := rwid (s.drop p)) i1 (by omega)
    rw [hwd, if_pos (show ((p : Nat) : Int) < ((s.length : Nat) : Int) by omega)]
    have go : ∀ q' t', wordsL s = (wd q' t' ((s.take (p + rwid (s.drop p))).drop f) (chunks (s.drop (p + rwid (s.drop p))))).map (out ++ ·) → ∃ s' : List (List UInt8) × Nat × Nat × Bool × Bool,
        [C.ls [], C.int 0, C.ls (out.map C.str), C.int (f : Int), C.bool q', C.bool t', C.int ((p : Int) + (rwid (s.drop p) : Nat))] =
          [C.ls [], C.int 0, C.ls (s'.1.map C.str), C.int (s'.2.1 : Int), C.bool s'.2.2.2.1, C.bool s'.2.2.2.2, C.int (s'.2.2.1 : Int)] ∧
        (s'.2.1 ≤ s'.2.2.1 ∧ s'.2.2.1 ≤ s.length ∧ s'.1.length ≤ s'.2.1 ∧ wordsL s = (wd s'.2.2.2.1 s'.2.2.2.2 ((s.take s'.2.2.1).drop s'.2.1) (chunks (s.drop s'.2.2.1))).map (s'.1 ++ ·)) ∧ s.length - s'.2.2.1 < s.length - p :=
      fun q' t' h => ⟨(out, f, p + rwid (s.drop p), q', t'), rfl, ⟨by simp only; omega, by simp only; omega, i3, h⟩, by simp only; omega⟩
    have hcl : ((s.take p).drop f).length = p - f := by rw [List.length_drop, List.length_take]; omega
    rw [wd] at i4
    refine ⟨by omega, by omega, fun ht => ?_, fun ht => ⟨fun h34 => ?_, fun h34 => ⟨fun hq => ?_, fun hq => ⟨fun h32 => ⟨fun hpf => ?_, fun hpf => ?_⟩, fun h32 => ?_⟩⟩⟩⟩
    · rw [if_pos ht, hcur] at i4
      exact go q false i4
    · have e : (Lib.decodeL (s.drop p)).1 = 34 := by omega
      rw [if_neg (by rw [ht]; decide), if_pos (c34.2 e), hcur] at i4
      rw [ht]
      exact go (!q) false i4
    · have e : ¬ (Lib.decodeL (s.drop p)).1 = 34 := by omega
      rw [if_neg (by rw [ht]; decide), if_neg (fun h => e (c34.1 h)), if_pos hq, hcur] at i4
      have e2 : decide ((((Lib.decodeL (s.drop p)).1 : Nat) : Int) = 92) = decide ((s.drop p).take (rwid (s.drop p)) = [92]) := by
        apply decide_eq_decide.2
        rw [c92]
        have : UInt8.toNat 92 = 92 := rfl
        omega
      rw [e2]
      exact go q _ i4
    · have e : ¬ (Lib.decodeL (s.drop p)).1 = 34 := by omega
      have e3 : (Lib.decodeL (s.drop p)).1 = 32 := by omega
      have hcn : (s.take p).drop f = [] := List.eq_nil_of_length_eq_zero (by omega)
      rw [if_neg (by rw [ht]; decide), if_neg (fun h => e (c34.1 h)), if_neg (by rw [hq]; decide), if_pos (c32.2 e3), if_pos hcn] at i4
      rw [i4]
      rfl
    · have e : ¬ (Lib.decodeL (s.drop p)).1 = 34 := by omega
      have e3 : (Lib.decodeL (s.drop p)).1 = 32 := by omega
      have hcn : ¬ (s.take p).drop f = [] := fun h => by rw [h] at hcl; simp at hcl; omega
      have hw1 : rwid (s.drop p) = 1 := by
        have := congrArg List.length (c32.2 e3)
        rw [List.length_take, List.length_drop] at this
        simp at this
        omega
      rw [if_neg (by rw [ht]; decide), if_neg (fun h => e (c34.1 h)), if_neg (by rw [hq]; decide), if_pos (c32.2 e3), if_neg hcn, hw1, Option.map_map] at i4
      refine ⟨by omega, by omega, by omega, by simp only [List.length_cons, List.length_nil]; omega, by omega, (out ++ [(s.take p).drop f], p + 1, p + 1, q, t), ?_, ⟨Nat.le_refl _, by simp only; omega, by simp; omega, ?_⟩, by simp only; omega⟩
      · rw [hw1, List.map_append]
        rfl
      · rw [i4, hq, ht]
        have hd : (s.take (p + 1)).drop (p + 1) = [] := List.eq_nil_of_length_eq_zero (by rw [List.length_drop, List.length_take]; omega)
        simp only [hd]
        congr 1
        funext y
        simp
    · have e : ¬ (Lib.decodeL (s.drop p)).1 = 34 := by omega
      have e3 : ¬ (Lib.decodeL (s.drop p)).1 = 32 := by omega
      rw [if_neg (by rw [ht]; decide), if_neg (fun h => e (c34.1 h)), if_neg (by rw [hq]; decide), if_neg (fun h => e3 (c32.1 h)), hcur] at i4
      rw [ht]
      exact go q false i4
  · have : p = s.length := by omega
    subst this
    rw [List.drop_length, chunks_nil, wd, List.take_length] at i4
    refine ⟨fun hx => ?_, fun hx => ⟨by omega, by omega, by omega, by simp only [List.length_cons, List.length_nil]; omega, ?_⟩⟩
    · rw [if_pos (by
        rcases hx with hx | hx
        · exact .inl hx
        · exact .inr (List.eq_nil_of_length_eq_zero (by rw [List.length_drop]; omega)))] at i4
      rw [i4]
      rfl
    · rw [if_neg (by
        rintro (h | h)
        · rw [h] at hx; simp at hx
        · have := congrArg List.length h
          rw [List.length_drop] at this
          simp at this
          omega)] at i4
      rw [i4, List.take_length]
      simp [wdB, wdE]
end Go.Vc
