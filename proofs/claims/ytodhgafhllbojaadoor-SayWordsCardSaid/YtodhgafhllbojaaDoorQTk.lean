/-
  The contract of the reference's Unquote, out of its condition.
-/
import Derived.Test.YtodhgafhllbojaaDoorQVcs1
import Derived.Test.YtodhgafhllbojaaDoorQTj
set_option maxRecDepth 100000
namespace Go.Vc
open Go Go.Proofs Go.Plain
/-- What is left between the ends, from place i on. -/
def rest (s : List UInt8) (i : Nat) : List UInt8 := (s.drop i).take (s.length - 1 - i)
theorem rest_cons {s : List UInt8} {i : Nat} (h : i < s.length - 1) : rest s i = s.getD i 0 :: rest s (i + 1) := by
  unfold rest
  have e : s.drop i = s.getD i 0 :: s.drop (i + 1) := by
    rw [List.drop_eq_getElem_cons (show i < s.length by omega)]
    simp [List.getD, show i < s.length by omega]
  rw [e, show s.length - 1 - i = (s.length - 1 - (i + 1)) + 1 by omega, List.take_succ_cons]
theorem rest_end {s : List UInt8} {i : Nat} (h : s.length - 1 ≤ i) : rest s i = [] := by
  unfold rest
  rw [show s.length - 1 - i = 0 by omega, List.take_zero]
theorem rest_one (s : List UInt8) : rest s 1 = inner s := by
  unfold rest inner
  rw [show s.length - 1 - 1 = s.length - 2 by omega]
theorem u8_eq {x : UInt8} {k : Nat} (hk : k < 256) : x = UInt8.ofNat k ↔ x.toNat = k := by
  constructor
  · rintro rfl
    rw [UInt8.toNat_ofNat', Nat.mod_eq_of_lt (by simpa using hk)]
  · intro h
    apply UInt8.toNat_inj.1
    rw [h, UInt8.toNat_ofNat', Nat.mod_eq_of_lt (by simpa using hk)]
theorem lo_q (t : List UInt8) : lo (34 :: t) = none := by rw [lo.eq_def]; simp
theorem lo_b1 : lo [92] = none := by rw [lo.eq_def]; simp
theorem lo_b2 (y : UInt8) (h : ¬ (y = 34 ∨ y = 92)) : lo [92, y] = none := by rw [lo.eq_def]; simp [h]
theorem lo_b3 (y z : UInt8) (v : List UInt8) (h : ¬ (y = 34 ∨ y = 92)) (h2 : ¬ (hexv y < 16 ∧ hexv z < 16)) : lo (92 :: y :: z :: v) = none := by
  rw [lo.eq_def]
  simp only [show ¬ ((92 : UInt8) = 34) by decide, if_false, if_true, if_neg h, if_neg h2]
theorem hexv_lt (x : UInt8) : hexv x < 17 := by unfold hexv; have := x.toNat_lt; split <;> (try split) <;> omega
theorem pc_ref04_Unquote (s : List UInt8) (hs : s.length ≤ 1000000) : PC Tryd.prog f_crossbarref04_Unquote [(.str, .str s)] [(.str, .str ((unqL s).getD [])), (.bool, .bool (unqL s).isSome)] := by
  apply pcv_crossbarref04_Unquote rfl
  simp only [vc_crossbarref04_Unquote, VC.H_asrt, VC.H_cond, VC.H_ret, ev_var, ev_int, ev_bool, ev_str, ev_sub', ev_neq, ev_lss, ev_geq, ev_ite, ev_slen, ev_sidx, ev_fits64, ea_nil, ea_cons, env_zero, List.map_cons, List.map_nil, v_int, v_bool, v_str, bool_ite, pres_nil, pres_cons, orT, orF, nnE, decide_eq_true_eq, decide_eq_false_iff_not, and_true, Int.not_lt, Int.toNat_zero]
  have hend : (((s.length : Nat) : Int) - 1).toNat = s.length - 1 := by omega
  rw [hend]
  have c0 := u8_eq (x := s.getD 0 0) (k := 34) (by decide)
  have cl := u8_eq (x := s.getD (s.length - 1) 0) (k := 34) (by decide)
  rw [show UInt8.ofNat 34 = 34 from rfl] at c0 cl
  refine ⟨fun _ => by omega, fun _ => by omega, fun _ => by omega, fun _ => by omega, fun hx => ?_, fun hx => ?_⟩
  · have : unqL s = none := by
      unfold unqL
      rw [if_neg]
      rintro ⟨h1, h2, h3⟩
      have := c0.1 h2
      have := cl.1 h3
      omega
    rw [this]
    rfl
  · have he : 2 ≤ s.length ∧ s.getD 0 0 = 34 ∧ s.getD (s.length - 1) 0 = 34 := ⟨by omega, c0.2 (by omega), cl.2 (by omega)⟩
    have hu : unqL s = (match lo (inner s) with | some o => if qs o = s then some o else none | none => none) := by unfold unqL; rw [if_pos he]; cases lo (inner s) <;> rfl
    have hl2 := he.1
    have bad : lo (inner s) = none → [(Sh.str, C.str []), (Sh.bool, C.bool false)] = [(Sh.str, C.str ((unqL s).getD [])), (Sh.bool, C.bool (unqL s).isSome)] := fun h => by rw [hu, h]; rfl
    refine VC.go_loop (fun x : List UInt8 × Nat => [.str [], .bool false, .ls (ofBytes x.1), .int (x.2 : Int)]) (fun x => 1 ≤ x.2 ∧ x.2 ≤ s.length - 1 ∧ x.1.length ≤ x.2 ∧ lo (inner s) = (lo (rest s x.2)).map (x.1 ++ ·)) (fun x => s.length - x.2) ([], 1) rfl
      ⟨Nat.le_refl _, by omega, by simp, by rw [rest_one]; simp⟩ fun x hi => ?_
    obtain ⟨acc, i⟩ := x
    obtain ⟨i0, i1, i2, i3⟩ := hi
    simp only at i0 i1 i2 i3
    have n1 : ((i : Int) + 1).toNat = i + 1 := by omega
    have n2 : ((i : Int) + 1 + 1).toNat = i + 2 := by omega
    simp only [VC.H_asrt, VC.H_cond, VC.H_ret, VC.H_back, VC.H_call1, ev_var, ev_int, ev_bool, ev_str, ev_nil, ev_cons, ev_bin, ev_add, ev_sub', ev_mul, ev_eql, ev_neq, ev_lss, ev_leq, ev_gtr, ev_geq, ev_sneq, ev_ite, ev_len, ev_slen, ev_sidx, ev_app, ev_toStr, ev_fits64, ea_nil, ea_cons, env_zero, env_succ, env_cons, env_nil, List.map_cons, List.map_nil, v_int, v_bool, v_str, v_ls, bool_ite, pres_nil, pres_cons, orT, orF, andT, andF, nnE, decide_eq_true_eq, decide_eq_false_iff_not, forall_const, and_true, Int.not_lt, Int.not_le, Int.toNat_natCast, ofBytes_length, n1, n2]
    have go : ∀ (x : UInt8) (k : Nat), 1 ≤ k → i + k ≤ s.length - 1 → lo (inner s) = ((lo (rest s (i + k))).map (x :: ·)).map (acc ++ ·) →
        ∃ s' : List UInt8 × Nat, [C.str [], C.bool false, C.ls (ofBytes acc ++ [C.int ((x.toNat : Nat) : Int)]), C.int ((i + k : Nat) : Int)] = [C.str [], C.bool false, C.ls (ofBytes s'.1), C.int (s'.2 : Int)] ∧
          (1 ≤ s'.2 ∧ s'.2 ≤ s.length - 1 ∧ s'.1.length ≤ s'.2 ∧ lo (inner s) = (lo (rest s s'.2)).map (s'.1 ++ ·)) ∧ s.length - s'.2 < s.length - i :=
      fun x k h1 h2 h3 => ⟨(acc ++ [x], i + k), by simp [ofBytes], ⟨by simp only; omega, by simp only; omega, by simp only [List.length_append, List.length_cons, List.length_nil]; omega, by
        rw [h3, Option.map_map]
        congr 1
        funext y
        simp⟩, by simp only; omega⟩
    refine ⟨by omega, fun hc => ?_, fun hc => ?_⟩
    · have hi : i < s.length - 1 := by omega
      rw [rest_cons hi] at i3
      have c34 := u8_eq (x := s.getD i 0) (k := 34) (by decide)
      have c92 := u8_eq (x := s.getD i 0) (k := 92) (by decide)
      rw [show UInt8.ofNat 34 = 34 from rfl] at c34
      rw [show UInt8.ofNat 92 = 92 from rfl] at c92
      have r1 : s.getD i 0 = 92 → lo (inner s) = (lo (92 :: rest s (i + 1))).map (acc ++ ·) := fun h => by rw [i3, h]
      have y34 := u8_eq (x := s.getD (i + 1) 0) (k := 34) (by decide)
      have y92 := u8_eq (x := s.getD (i + 1) 0) (k := 92) (by decide)
      rw [show UInt8.ofNat 34 = 34 from rfl] at y34
      rw [show UInt8.ofNat 92 = 92 from rfl] at y92
      have hy := hexv_lt (s.getD (i + 1) 0)
      have hz := hexv_lt (s.getD (i + 2) 0)
      refine ⟨by omega, by omega, fun h34 => bad (by rw [i3, c34.2 (by omega), lo_q]; rfl), fun h34 => ⟨fun h92 => ⟨by omega, by omega, fun he => bad ?_, fun he => ⟨by omega, by omega, fun hn => ?_, fun hn => ?_⟩⟩, fun h92 => ?_⟩⟩
      · rw [r1 (c92.2 (by omega)), rest_end (by omega), lo_b1]
        rfl
      · have hne : ¬ (s.getD (i + 1) 0 = 34 ∨ s.getD (i + 1) 0 = 92) := fun h => by
          rcases h with h | h
          · have := y34.1 h; omega
          · have := y92.1 h; omega
        have r2 := r1 (c92.2 (by omega))
        rw [rest_cons (show i + 1 < s.length - 1 by omega)] at r2
        refine ⟨by omega, by omega, _, fun _ => pc_ref04_value _, fun _ => by omega, fun _ => by omega, fun _ => by omega, _, fun _ => pc_ref04_value _, fun hb => bad ?_, fun hg => ⟨_, pc_ref04_value _, by omega, by omega, by omega, _, pc_ref04_value _, by omega, ?_⟩⟩
        · simp only [v_int] at hb
          rw [r2]
          by_cases hl : s.length - 1 ≤ i + 2
          · rw [rest_end hl, lo_b2 _ hne]
            rfl
          · rw [rest_cons (show i + 1 + 1 < s.length - 1 by omega), lo_b3 _ _ _ hne (by
              have e : i + 1 + 1 = i + 2 := rfl
              rw [e]
              omega)]
            rfl
        · simp only [v_int] at hg
          have hx1 : hexv (s.getD (i + 1) 0) < 16 := by omega
          have hx2 : hexv (s.getD (i + 2) 0) < 16 := by omega
          rw [rest_cons (show i + 1 + 1 < s.length - 1 by omega), lo_hex _ _ _ hne hx1 hx2] at r2
          simp only [v_int, arith_mul, arith_add, wrapu8, List.length_cons, List.length_nil]
          have ev : (16 * ((hexv (s.getD (i + 1) 0) : Nat) : Int) % 256 + ((hexv (s.getD (i + 2) 0) : Nat) : Int)) % 256 = (((UInt8.ofNat (16 * hexv (s.getD (i + 1) 0) + hexv (s.getD (i + 2) 0))).toNat : Nat) : Int) := by
            rw [UInt8.toNat_ofNat', Nat.mod_eq_of_lt (show _ < 256 by omega)]
            omega
          rw [ev]
          exact ⟨by omega, by omega, go _ 3 (by omega) (by omega) r2⟩
      · have hee : s.getD (i + 1) 0 = 34 ∨ s.getD (i + 1) 0 = 92 := by
          rcases (show (s.getD (i + 1) 0).toNat = 34 ∨ (s.getD (i + 1) 0).toNat = 92 by omega) with h | h
          · exact .inl (y34.2 h)
          · exact .inr (y92.2 h)
        have r2 := r1 (c92.2 (by omega))
        rw [rest_cons (show i + 1 < s.length - 1 by omega), lo_esc _ _ hee] at r2
        exact ⟨by simp only [List.length_cons, List.length_nil]; omega, by omega, go _ 2 (by omega) (by omega) r2⟩
      · rw [lo_plain _ _ (fun h => h34 (by have := c34.1 h; omega)) (fun h => h92 (by have := c92.1 h; omega))] at i3
        exact ⟨by simp only [List.length_cons, List.length_nil]; omega, by omega, go _ 1 (by omega) (by omega) i3⟩
    · have hi : s.length - 1 ≤ i := by omega
      rw [rest_end hi, show lo [] = some [] from by rw [lo.eq_def], Option.map_some, List.append_nil] at i3
      rw [i3] at hu
      simp only at hu
      rw [bytesOf_ofBytes]
      refine ⟨_, pc_ref04_Quote acc (by omega), ?_⟩
      rw [hu]
      simp only [v_str]
      refine ⟨fun hq => ?_, fun hq => ?_⟩
      · rw [if_neg hq]
        rfl
      · rw [if_pos hq]
        rfl
end Go.Vc
