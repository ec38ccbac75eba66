/-
  The law SayWords: its function returns true, whatever it is handed.
-/
import Derived.Test.YtodhgafhllbojaaDoorQZf
import Derived.Test.YtodhgafhllbojaaDoorQVcs1
set_option maxRecDepth 100000
namespace Go.Vc
open Go Go.Proofs Go.Plain
theorem join_word : ∀ {ws : Wds}, (∀ w ∈ ws, w ≠ []) → ∀ {w}, w ∈ ws → w.length ≤ (joinSp ws).length
  | [], _, _, h => by cases h
  | [v], _, w, h => by rw [List.mem_singleton.1 h]; exact Nat.le_refl _
  | a :: v :: r, hh, w, h => by
    have h3 : joinSp (a :: v :: r) = a ++ 32 :: joinSp (v :: r) := rfl
    rw [h3, List.length_append, List.length_cons]
    rcases List.mem_cons.1 h with rfl | h
    · omega
    · have := join_word (ws := v :: r) (fun x hx => hh x (by simp [hx])) h
      omega
theorem law_SayWords (cs : List C) (h : TyAll [PlSh, .int .u8] cs) : PC Tryd.prog f_crossbarlaw30_SayWords ([PlSh, .int .u8].zip cs) [(.bool, .bool true)] := by
  obtain ⟨_, _, rfl, h1, _, _, rfl, h2, rfl⟩ := h
  obtain ⟨p, rfl, hn, o1, o2⟩ := ty_pl h1
  obtain ⟨cut, rfl, hcut⟩ := ty_nat rfl h2
  simp only [IntKind.bits] at hcut
  apply pcv_crossbarlaw30_SayWords rfl
  simp only [vc_crossbarlaw30_SayWords, VC.H_cond, VC.H_ret, VC.H_call1, VC.H_call2, ev_var, ev_int, ev_bool, ev_str, ev_nil, ev_cons, ev_hd, ev_tl, ev_neq, ev_seql, ev_not, ev_ite, ea_nil, ea_cons, env_zero, env_succ, env_cons, env_nil, List.map_cons, List.map_nil, List.zip_cons_cons, List.zip_nil_right, v_int, v_bool, v_str, v_ls, v_hd, v_tl, bool_ite, pres_nil, pres_cons, orT, orF, notT, notF, nnE, decide_eq_true_eq, decide_eq_false_iff_not, forall_const, and_true]
  refine ⟨_, pc_law30_awake, fun h => by simp at h, fun _ => ⟨_, pc_ref29_Short p o1 o2, fun _ => trivial, fun hsh => ?_⟩⟩
  have hsh : plShort p := by
    by_cases hh : plShort p
    · exact hh
    · simp [hh] at hsh
  have hf := fewS hsh
  refine ⟨_, _, pc_say_Print p hf hn, fun hc => ?_, fun hc => ?_⟩
  · refine ⟨_, fun _ => pc_plan_Empty p, ?_⟩
    by_cases hr : plRight p
    · simp only [if_pos hr] at hc ⊢
      have h0 : printL p = [] := by simpa using hc
      have := print_nil hr hn h0
      simp [this, show printL Pl.zero = [] from rfl]
    · simp [hr]
  · have hr : plRight p := by
      by_cases hr : plRight p
      · exact hr
      · simp [hr] at hc
    simp only [if_pos hr] at hc ⊢
    have h0 : printL p ≠ [] := by simpa using hc
    have hl := print_short hsh hr hn
    have hw := (print_words hr hn h0).1
    have hword := toks_word hr hn
    have pw := pc_text_Words (printL p) (by omega)
    rw [hw] at pw
    have pm := pc_text_May (printL p) (by omega)
    rw [show mayL (printL p) = true from may_join _ hword] at pm
    have hcount := join_count (fun w hw => isWord_ne (hword w hw))
    change (toks p).length ≤ (printL p).length at hcount
    refine ⟨_, _, pw, _, fun _ => pm, fun hc => ?_, fun _ => ?_⟩
    · exfalso; simp [wdE] at hc
    · simp only [wdB, Option.getD_some]
      refine VC.go_loop (fun x : C × Nat => [x.1, .int (x.2 : Int)]) (fun x => x.2 ≤ (toks p).length) (fun x => (toks p).length - x.2) (.bool false, 0) rfl (Nat.zero_le _) ?_
      rintro ⟨c, i⟩ hi
      simp only [VC.H_asrt, VC.H_cond, VC.H_ret, VC.H_back, VC.H_call1, VC.H_call2, ev_var, ev_int, ev_bool, ev_str, ev_nil, ev_cons, ev_hd, ev_tl, ev_bin, ev_add, ev_sub', ev_mul, ev_eql, ev_neq, ev_lss, ev_leq, ev_geq, ev_seql, ev_beq, ev_ite, ev_conv, ev_len, ev_idx, ev_sub, ev_app, ev_fits64, ea_nil, ea_cons, env_zero, env_succ, env_cons, env_nil, List.map_cons, List.map_nil, v_int, v_bool, v_str, v_ls, v_hd, v_tl, bool_ite, pres_nil, pres_cons, nnE, decide_eq_true_eq, decide_eq_false_iff_not, forall_const, and_true, Int.not_lt, List.length_map]
      simp only at hi
      refine ⟨fun hlt => ?_, fun hge => ?_⟩
      · rw [Int.toNat_natCast, show (List.map C.str (toks p)).getD i default = .str ((toks p).getD i []) by simp [List.getD, show i < (toks p).length by omega]]
        have hm : (toks p).getD i [] ∈ toks p := by simp [List.getD, show i < (toks p).length by omega]
        have hwi := join_word (fun w hw => isWord_ne (hword w hw)) hm
        change ((toks p).getD i []).length ≤ (printL p).length at hwi
        refine ⟨by omega, by omega, _, _, pc_text_Unquote quoteOk loosenOk _ (by omega), by omega, by omega, _, pc_text_Token _ (by omega), fun hc => ?_, fun _ => ⟨by omega, (c, i + 1), by simp, by simp only; omega, by simp only; omega⟩⟩
        exfalso
        have hk := word_kind (hword _ hm)
        unfold unE at hc
        rw [hk] at hc
        generalize unqL ((toks p).getD i []) = u at hc
        cases u <;> simp at hc
      · refine ⟨fun _ => trivial, fun hd => ?_⟩
        have hlen : p.drops.length ≤ 300 := (plShort_few hsh).2.2.1
        have hpos : 0 < p.drops.length := by omega
        obtain ⟨k, hk⟩ : ∃ k, cut % p.drops.length = k := ⟨_, rfl⟩
        have hkl : k < p.drops.length := hk ▸ Nat.mod_lt _ hpos
        have e : arith BinOp.rem IntKind.i64 (IntKind.i64.wrap ↑cut) ↑p.drops.length = (k : Int) := by
          have e1 : IntKind.i64.wrap (cut : Int) = cut := by unfold IntKind.wrap; simp [IntKind.bits, IntKind.signed]; omega
          rw [e1]
          unfold arith
          simp only
          have e2 : (cut : Int).tmod (p.drops.length : Int) = (k : Int) := by
            rw [← Int.ofNat_tmod, hk]
          exact e2
        rw [e]
        have hf2 : plFew (cutP p k) := by
          obtain ⟨f1, f2, f3, f4⟩ := hf
          refine ⟨f1, f2, ?_, f4⟩
          unfold cutP
          simp only [List.length_append, List.length_take, List.length_drop]
          omega
        have hr2 := cut_right hr k
        have hp2 := pc_say_Print (cutP p k) hf2 hn
        rw [if_pos hr2, if_pos hr2] at hp2
        have hs2 : plShort (cutP p k) := by
          obtain ⟨f1, f2, f3, f4⟩ := hsh
          refine ⟨f1, ?_, f3, f4⟩
          unfold cutP
          simp only [List.length_append, List.length_take, List.length_drop]
          omega
        have hl2 := print_short hs2 hr2 hn
        have hel : List.drop (Int.toNat 0) (List.take ((k : Int)).toNat (List.map C.int p.drops)) ++ List.drop ((k : Int) + 1).toNat (List.take (↑p.drops.length : Int).toNat (List.map C.int p.drops)) = (cutP p k).drops.map C.int := by
          unfold cutP
          simp only [List.map_append, List.map_take, List.map_drop, Int.toNat_natCast]
          rw [show ((k : Int) + 1).toNat = k + 1 by omega, List.take_of_length_le (l := List.map C.int p.drops) (i := p.drops.length) (by simp)]
          rfl
        rw [hel]
        refine ⟨hd, by omega, by omega, ?_, by omega, by omega, by omega, by omega, ?_, _, _, hp2, fun hc => ?_, fun _ => ?_⟩
        · simp; omega
        · simp; omega
        · simp at hc
        · refine ⟨_, _, pc_text_Words (printL (cutP p k)) (by omega), fun hc => ?_, fun hc => ?_⟩
          · have h0 : printL (cutP p k) = [] := by simpa using hc
            have hz : (toks (cutP p k)).length = 0 := by
              have := join_count (fun w hw => isWord_ne (toks_word hr2 hn w hw))
              change (toks (cutP p k)).length ≤ (printL (cutP p k)).length at this
              rw [h0] at this
              simpa using this
            have := cut_len hkl
            rw [hz] at this
            simp [← this]
          · have h0 : printL (cutP p k) ≠ [] := by simpa using hc
            rw [(print_words hr2 hn h0).1]
            have := cut_len hkl
            refine ⟨fun _ => by omega, ?_⟩
            simp [wdE, wdB, ← this]
end Go.Vc
