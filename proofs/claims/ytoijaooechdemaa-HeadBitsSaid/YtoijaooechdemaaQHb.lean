/-
  The law HeadBits: the function returns true, whatever it is handed.
-/
import Derived.Test.YtoijaooechdemaaQVhb
import Derived.Test.YtoijaooechdemaaQHl
set_option maxRecDepth 100000
namespace Go.Vc
open Go Go.Proofs Go.Plain
theorem seg {A X Y D : List UInt8} (h : X.length = Y.length) : (A ++ (X ++ D)).length = (A ++ (Y ++ D)).length ∧ ∀ i, (i < A.length ∨ A.length + X.length ≤ i) → (A ++ (X ++ D)).getD i 0 = (A ++ (Y ++ D)).getD i 0 := by
  refine ⟨by simp [h], fun i hi => ?_⟩
  simp only [List.getD_eq_getElem?_getD]
  congr 1
  rcases hi with hi | hi
  · rw [List.getElem?_append_left hi, List.getElem?_append_left hi]
  · rw [List.getElem?_append_right (by omega), List.getElem?_append_right (by omega), List.getElem?_append_right (by omega), List.getElem?_append_right (by omega), h]
abbrev BitsOk (h g : Hd) (lo hi : Nat) : Prop := h.right → g.right → h.bytes.length = g.bytes.length ∧ ∀ i : Nat, ((i : Int) < (lo : Int) ∨ (hi : Int) ≤ (i : Int)) → h.bytes.getD i 0 = g.bytes.getD i 0
theorem bits0 (h : Hd) (p e : Bool) : BitsOk h { h with pad := p, ext := e } 0 1 := fun _ _ => by
  have := seg (A := []) (X := [UInt8.ofNat h.first]) (Y := [UInt8.ofNat ({ h with pad := p, ext := e } : Hd).first]) (D := UInt8.ofNat h.second :: (toBE 2 h.seq ++ (toBE 4 h.time ++ (toBE 4 h.ssrc ++ words h.csrc)))) rfl
  exact ⟨this.1, fun i hi => this.2 i (by simp; omega)⟩
theorem bits1 (h : Hd) (m : Bool) (t : Int) : BitsOk h { h with mark := m, typ := t } 1 2 := fun _ _ => by
  have := seg (A := [UInt8.ofNat h.first]) (X := [UInt8.ofNat h.second]) (Y := [UInt8.ofNat ({ h with mark := m, typ := t } : Hd).second]) (D := (toBE 2 h.seq ++ (toBE 4 h.time ++ (toBE 4 h.ssrc ++ words h.csrc)))) rfl
  exact ⟨this.1, fun i hi => this.2 i (by simp; omega)⟩
theorem bits2 (h : Hd) (s : Nat) : BitsOk h { h with seq := s } 2 4 := fun _ _ => by
  have := seg (A := [UInt8.ofNat h.first, UInt8.ofNat h.second]) (X := toBE 2 h.seq) (Y := toBE 2 s) (D := (toBE 4 h.time ++ (toBE 4 h.ssrc ++ words h.csrc))) (by simp)
  exact ⟨this.1, fun i hi => this.2 i (by simp; omega)⟩
theorem bits3 (h : Hd) (s : Nat) : BitsOk h { h with time := s } 4 8 := fun _ _ => by
  have := seg (A := [UInt8.ofNat h.first, UInt8.ofNat h.second] ++ toBE 2 h.seq) (X := toBE 4 h.time) (Y := toBE 4 s) (D := (toBE 4 h.ssrc ++ words h.csrc)) (by simp)
  simp only [List.append_assoc] at this
  exact ⟨this.1, fun i hi => this.2 i (by simp; omega)⟩
theorem bits4 (h : Hd) (s : Nat) : BitsOk h { h with ssrc := s } 8 12 := fun _ _ => by
  have := seg (A := [UInt8.ofNat h.first, UInt8.ofNat h.second] ++ (toBE 2 h.seq ++ toBE 4 h.time)) (X := toBE 4 h.ssrc) (Y := toBE 4 s) (D := words h.csrc) (by simp)
  simp only [List.append_assoc] at this
  exact ⟨this.1, fun i hi => this.2 i (by simp; omega)⟩
theorem bits5 (h : Hd) (s : Nat) (hp : 0 < h.csrc.length) : BitsOk h { h with csrc := h.csrc.set 0 s } 12 16 := fun _ _ => by
  obtain ⟨p, x, m, t, q, ti, ss, cs⟩ := h
  cases cs with
  | nil => simp at hp
  | cons c l =>
    have := seg (A := [UInt8.ofNat (⟨p, x, m, t, q, ti, ss, c :: l⟩ : Hd).first, UInt8.ofNat (⟨p, x, m, t, q, ti, ss, c :: l⟩ : Hd).second] ++ (toBE 2 q ++ (toBE 4 ti ++ toBE 4 ss))) (X := toBE 4 c) (Y := toBE 4 s) (D := words l) (by simp)
    simp only [List.append_assoc] at this
    exact ⟨this.1, fun i hi => this.2 i (by simp; omega)⟩
theorem bits6 (h : Hd) : BitsOk h h 12 16 := fun _ _ => ⟨rfl, fun _ _ => rfl⟩
theorem set0 (l : List Nat) (s : Nat) : C.ls ((ofNats l).set (Int.toNat 0) (.int (s : Int))) = Ns (l.set 0 s) := by
  simp [List.map_set]
theorem set_ok {h : Hd} {s : Nat} (ho : h.ok) (hs : s < 4294967296) : ({ h with csrc := h.csrc.set 0 s } : Hd).ok := by
  refine ⟨ho.1, ho.2.1, ho.2.2.1, fun c hc => ?_⟩
  rcases List.mem_or_eq_of_mem_set hc with h1 | h1
  · exact ho.2.2.2 c h1
  · rw [h1]; exact hs
theorem both_right {h g : Hd} (hh : (C.int (hwE h)).toInt = 0 ∧ (C.int (hwE g)).toInt = 0) : h.right ∧ g.right := by
  simp only [v_int, hwE] at hh
  constructor
  · by_cases hr : h.right
    · exact hr
    · rw [if_neg hr] at hh; omega
  · by_cases hr : g.right
    · exact hr
    · have := hh.2
      rw [if_neg hr] at this
      omega
theorem bits_bad {h g : Hd} (hc : (C.int (hwE h)).toInt ≠ 0 ∨ (C.int (hwE g)).toInt ≠ 0) : [(Sh.bool, C.bool (if (C.int (hwE h)).toInt ≠ 0 then true else !(C.bool (decide g.right)).toBool))] = [(Sh.bool, C.bool true)] := by
  simp only [v_int, v_bool] at hc ⊢
  by_cases hh : hwE h = 0
  · have hg : ¬ g.right := by
      intro hr
      rcases hc with h1 | h1
      · exact h1 hh
      · rw [hwE, if_pos hr] at h1; exact h1 rfl
    simp [hh, hg]
  · simp [hh]
theorem bits_same {h g : Hd} (hr : h.right) (ho : h.ok) (gr : g.right) (go : g.ok) : [(Sh.bool, C.bool (decide (decide (bytesOf (ofBytes h.bytes) = bytesOf (ofBytes g.bytes)) = (C.bool (decide (h = g))).toBool)))] = [(Sh.bool, C.bool true)] := by
  simp only [v_bool, bytesOf_ofBytes]
  by_cases e : h = g
  · simp [e]
  · have : h.bytes ≠ g.bytes := fun hx => e (Hd.inj hr ho gr go hx)
    simp [e, this]
theorem law_HeadBits (cs : List C) (h : TyAll [HdSh, HdSh, U8] cs) : PC Try.prog f_crossbarlaw05_HeadBits ([HdSh, HdSh, U8].zip cs) [(.bool, .bool true)] := by
  obtain ⟨_, _, rfl, h1, _, _, rfl, h2, _, _, rfl, h3, rfl⟩ := h
  obtain ⟨h, rfl, ho, hcl⟩ := ty_head h1
  obtain ⟨k, rfl, ko, kcl⟩ := ty_head h2
  obtain ⟨n, rfl, hn⟩ := ty_u8 h3
  apply pcv_crossbarlaw05_HeadBits rfl
  simp only [vc_crossbarlaw05_HeadBits, VC.H_asrt, VC.H_cond, VC.H_ret, VC.H_call1, VC.H_call2, ev_var, ev_int, ev_bool, ev_nil, ev_cons, ev_hd, ev_tl, ev_bin, ev_add, ev_mul, ev_eql, ev_neq, ev_lss, ev_leq, ev_gtr, ev_not, ev_ite, ev_len, ev_app, ev_set, ea_nil, ea_cons, env_zero, env_succ, env_cons, env_nil, List.map_cons, List.map_nil, List.zip_cons_cons, List.zip_nil_right, v_int, v_bool, v_ls, v_hd, v_tl, bool_ite, pres_nil, pres_cons, orT, orF, notT, notF, nnE, decide_eq_true_eq, decide_eq_false_iff_not, forall_const, and_true, Int.not_lt, List.length_map]
  refine ⟨_, pc_crossbarlaw05_awake, fun h => by simp at h, fun _ => ⟨fun _ => trivial, fun hb => ?_⟩⟩
  refine ⟨_, _, pc_head_Write h ho, ?_⟩
  refine ⟨fun hf => ?_, fun hf => ?_⟩
  · refine ⟨_, _, pc_head_Write { h with pad := k.pad, ext := k.ext } ⟨ho.1, ho.2.1, ho.2.2.1, ho.2.2.2⟩, fun hc => ?_, fun hc => ?_⟩
    · refine ⟨_, fun _ => pc_head_Right { h with pad := k.pad, ext := k.ext }, ?_⟩
      exact bits_bad hc
    · obtain ⟨hr, gr⟩ := both_right hc
      have hb := bits0 h k.pad k.ext hr gr
      rw [hwB, if_pos hr, hwB, if_pos gr]
      simp only [v_ls, ofBytes_length]
      refine ⟨fun hl => absurd (by rw [hb.1]) hl, fun hl => ?_⟩
      refine VC.go_loop (fun i : Nat => [.bool false, .int i]) (fun i => i ≤ h.bytes.length) (fun i => h.bytes.length - i) 0 rfl (Nat.zero_le _) fun i hi => ?_
      simp only [VC.H_asrt, VC.H_cond, VC.H_ret, VC.H_back, VC.H_call1, ev_var, ev_int, ev_bool, ev_nil, ev_cons, ev_hd, ev_tl, ev_add, ev_neq, ev_lss, ev_geq, ev_seql, ev_beq, ev_ite, ev_len, ev_idx, ev_toStr, ev_fits64, ea_nil, ea_cons, env_zero, env_succ, env_cons, env_nil, List.map_cons, List.map_nil, v_int, v_bool, v_str, v_ls, v_hd, v_tl, bool_ite, pres_nil, pres_cons, orT, andT, andF, nnE, decide_eq_true_eq, decide_eq_false_iff_not, forall_const, and_true, Int.not_lt, ofBytes_length]
      have hbl := h.bytes_length
      refine ⟨fun hc => ⟨fun _ => by omega, fun _ => by omega, fun _ => by omega, fun _ => by omega, fun hx => ?_, fun _ => ⟨by omega, i + 1, by simp, by omega, by omega⟩⟩, fun hc => ?_⟩
      · exfalso
        apply hx.2
        rw [Int.toNat_natCast, ofBytes_getD, ofBytes_getD, hb.2 i (by omega)]
      · refine ⟨_, pc_crossbarref05_Same h { h with pad := k.pad, ext := k.ext } (by omega), ?_⟩
        exact bits_same hr ho gr ⟨ho.1, ho.2.1, ho.2.2.1, ho.2.2.2⟩
  refine ⟨fun hf => ?_, fun hf => ?_⟩
  · refine ⟨_, _, pc_head_Write { h with mark := k.mark, typ := k.typ } ⟨ho.1, ho.2.1, ho.2.2.1, ho.2.2.2⟩, fun hc => ?_, fun hc => ?_⟩
    · refine ⟨_, fun _ => pc_head_Right { h with mark := k.mark, typ := k.typ }, ?_⟩
      exact bits_bad hc
    · obtain ⟨hr, gr⟩ := both_right hc
      have hb := bits1 h k.mark k.typ hr gr
      rw [hwB, if_pos hr, hwB, if_pos gr]
      simp only [v_ls, ofBytes_length]
      refine ⟨fun hl => absurd (by rw [hb.1]) hl, fun hl => ?_⟩
      refine VC.go_loop (fun i : Nat => [.bool false, .int i]) (fun i => i ≤ h.bytes.length) (fun i => h.bytes.length - i) 0 rfl (Nat.zero_le _) fun i hi => ?_
      simp only [VC.H_asrt, VC.H_cond, VC.H_ret, VC.H_back, VC.H_call1, ev_var, ev_int, ev_bool, ev_nil, ev_cons, ev_hd, ev_tl, ev_add, ev_neq, ev_lss, ev_geq, ev_seql, ev_beq, ev_ite, ev_len, ev_idx, ev_toStr, ev_fits64, ea_nil, ea_cons, env_zero, env_succ, env_cons, env_nil, List.map_cons, List.map_nil, v_int, v_bool, v_str, v_ls, v_hd, v_tl, bool_ite, pres_nil, pres_cons, orT, andT, andF, nnE, decide_eq_true_eq, decide_eq_false_iff_not, forall_const, and_true, Int.not_lt, ofBytes_length]
      have hbl := h.bytes_length
      refine ⟨fun hc => ⟨fun _ => by omega, fun _ => by omega, fun _ => by omega, fun _ => by omega, fun hx => ?_, fun _ => ⟨by omega, i + 1, by simp, by omega, by omega⟩⟩, fun hc => ?_⟩
      · exfalso
        apply hx.2
        rw [Int.toNat_natCast, ofBytes_getD, ofBytes_getD, hb.2 i (by omega)]
      · refine ⟨_, pc_crossbarref05_Same h { h with mark := k.mark, typ := k.typ } (by omega), ?_⟩
        exact bits_same hr ho gr ⟨ho.1, ho.2.1, ho.2.2.1, ho.2.2.2⟩
  refine ⟨fun hf => ?_, fun hf => ?_⟩
  · refine ⟨_, _, pc_head_Write { h with seq := k.seq } ⟨ko.1, ho.2.1, ho.2.2.1, ho.2.2.2⟩, fun hc => ?_, fun hc => ?_⟩
    · refine ⟨_, fun _ => pc_head_Right { h with seq := k.seq }, ?_⟩
      exact bits_bad hc
    · obtain ⟨hr, gr⟩ := both_right hc
      have hb := bits2 h k.seq hr gr
      rw [hwB, if_pos hr, hwB, if_pos gr]
      simp only [v_ls, ofBytes_length]
      refine ⟨fun hl => absurd (by rw [hb.1]) hl, fun hl => ?_⟩
      refine VC.go_loop (fun i : Nat => [.bool false, .int i]) (fun i => i ≤ h.bytes.length) (fun i => h.bytes.length - i) 0 rfl (Nat.zero_le _) fun i hi => ?_
      simp only [VC.H_asrt, VC.H_cond, VC.H_ret, VC.H_back, VC.H_call1, ev_var, ev_int, ev_bool, ev_nil, ev_cons, ev_hd, ev_tl, ev_add, ev_neq, ev_lss, ev_geq, ev_seql, ev_beq, ev_ite, ev_len, ev_idx, ev_toStr, ev_fits64, ea_nil, ea_cons, env_zero, env_succ, env_cons, env_nil, List.map_cons, List.map_nil, v_int, v_bool, v_str, v_ls, v_hd, v_tl, bool_ite, pres_nil, pres_cons, orT, andT, andF, nnE, decide_eq_true_eq, decide_eq_false_iff_not, forall_const, and_true, Int.not_lt, ofBytes_length]
      have hbl := h.bytes_length
      refine ⟨fun hc => ⟨fun _ => by omega, fun _ => by omega, fun _ => by omega, fun _ => by omega, fun hx => ?_, fun _ => ⟨by omega, i + 1, by simp, by omega, by omega⟩⟩, fun hc => ?_⟩
      · exfalso
        apply hx.2
        rw [Int.toNat_natCast, ofBytes_getD, ofBytes_getD, hb.2 i (by omega)]
      · refine ⟨_, pc_crossbarref05_Same h { h with seq := k.seq } (by omega), ?_⟩
        exact bits_same hr ho gr ⟨ko.1, ho.2.1, ho.2.2.1, ho.2.2.2⟩
  refine ⟨fun hf => ?_, fun hf => ?_⟩
  · refine ⟨_, _, pc_head_Write { h with time := k.time } ⟨ho.1, ko.2.1, ho.2.2.1, ho.2.2.2⟩, fun hc => ?_, fun hc => ?_⟩
    · refine ⟨_, fun _ => pc_head_Right { h with time := k.time }, ?_⟩
      exact bits_bad hc
    · obtain ⟨hr, gr⟩ := both_right hc
      have hb := bits3 h k.time hr gr
      rw [hwB, if_pos hr, hwB, if_pos gr]
      simp only [v_ls, ofBytes_length]
      refine ⟨fun hl => absurd (by rw [hb.1]) hl, fun hl => ?_⟩
      refine VC.go_loop (fun i : Nat => [.bool false, .int i]) (fun i => i ≤ h.bytes.length) (fun i => h.bytes.length - i) 0 rfl (Nat.zero_le _) fun i hi => ?_
      simp only [VC.H_asrt, VC.H_cond, VC.H_ret, VC.H_back, VC.H_call1, ev_var, ev_int, ev_bool, ev_nil, ev_cons, ev_hd, ev_tl, ev_add, ev_neq, ev_lss, ev_geq, ev_seql, ev_beq, ev_ite, ev_len, ev_idx, ev_toStr, ev_fits64, ea_nil, ea_cons, env_zero, env_succ, env_cons, env_nil, List.map_cons, List.map_nil, v_int, v_bool, v_str, v_ls, v_hd, v_tl, bool_ite, pres_nil, pres_cons, orT, andT, andF, nnE, decide_eq_true_eq, decide_eq_false_iff_not, forall_const, and_true, Int.not_lt, ofBytes_length]
      have hbl := h.bytes_length
      refine ⟨fun hc => ⟨fun _ => by omega, fun _ => by omega, fun _ => by omega, fun _ => by omega, fun hx => ?_, fun _ => ⟨by omega, i + 1, by simp, by omega, by omega⟩⟩, fun hc => ?_⟩
      · exfalso
        apply hx.2
        rw [Int.toNat_natCast, ofBytes_getD, ofBytes_getD, hb.2 i (by omega)]
      · refine ⟨_, pc_crossbarref05_Same h { h with time := k.time } (by omega), ?_⟩
        exact bits_same hr ho gr ⟨ho.1, ko.2.1, ho.2.2.1, ho.2.2.2⟩
  refine ⟨fun hf => ?_, fun hf => ?_⟩
  · refine ⟨_, _, pc_head_Write { h with ssrc := k.ssrc } ⟨ho.1, ho.2.1, ko.2.2.1, ho.2.2.2⟩, fun hc => ?_, fun hc => ?_⟩
    · refine ⟨_, fun _ => pc_head_Right { h with ssrc := k.ssrc }, ?_⟩
      exact bits_bad hc
    · obtain ⟨hr, gr⟩ := both_right hc
      have hb := bits4 h k.ssrc hr gr
      rw [hwB, if_pos hr, hwB, if_pos gr]
      simp only [v_ls, ofBytes_length]
      refine ⟨fun hl => absurd (by rw [hb.1]) hl, fun hl => ?_⟩
      refine VC.go_loop (fun i : Nat => [.bool false, .int i]) (fun i => i ≤ h.bytes.length) (fun i => h.bytes.length - i) 0 rfl (Nat.zero_le _) fun i hi => ?_
      simp only [VC.H_asrt, VC.H_cond, VC.H_ret, VC.H_back, VC.H_call1, ev_var, ev_int, ev_bool, ev_nil, ev_cons, ev_hd, ev_tl, ev_add, ev_neq, ev_lss, ev_geq, ev_seql, ev_beq, ev_ite, ev_len, ev_idx, ev_toStr, ev_fits64, ea_nil, ea_cons, env_zero, env_succ, env_cons, env_nil, List.map_cons, List.map_nil, v_int, v_bool, v_str, v_ls, v_hd, v_tl, bool_ite, pres_nil, pres_cons, orT, andT, andF, nnE, decide_eq_true_eq, decide_eq_false_iff_not, forall_const, and_true, Int.not_lt, ofBytes_length]
      have hbl := h.bytes_length
      refine ⟨fun hc => ⟨fun _ => by omega, fun _ => by omega, fun _ => by omega, fun _ => by omega, fun hx => ?_, fun _ => ⟨by omega, i + 1, by simp, by omega, by omega⟩⟩, fun hc => ?_⟩
      · exfalso
        apply hx.2
        rw [Int.toNat_natCast, ofBytes_getD, ofBytes_getD, hb.2 i (by omega)]
      · refine ⟨_, pc_crossbarref05_Same h { h with ssrc := k.ssrc } (by omega), ?_⟩
        exact bits_same hr ho gr ⟨ho.1, ho.2.1, ko.2.2.1, ho.2.2.2⟩
  refine ⟨fun hp => ?_, fun hp => ?_⟩
  · rw [set0 h.csrc k.ssrc]
    refine ⟨by omega, by omega, ?_⟩
    refine ⟨_, _, pc_head_Write { h with csrc := h.csrc.set 0 k.ssrc } (set_ok ho ko.2.2.1), fun hc => ?_, fun hc => ?_⟩
    · refine ⟨_, fun _ => pc_head_Right { h with csrc := h.csrc.set 0 k.ssrc }, ?_⟩
      exact bits_bad hc
    · obtain ⟨hr, gr⟩ := both_right hc
      have hb := bits5 h k.ssrc (by omega) hr gr
      rw [hwB, if_pos hr, hwB, if_pos gr]
      simp only [v_ls, ofBytes_length]
      refine ⟨fun hl => absurd (by rw [hb.1]) hl, fun hl => ?_⟩
      refine VC.go_loop (fun i : Nat => [.bool false, .int i]) (fun i => i ≤ h.bytes.length) (fun i => h.bytes.length - i) 0 rfl (Nat.zero_le _) fun i hi => ?_
      simp only [VC.H_asrt, VC.H_cond, VC.H_ret, VC.H_back, VC.H_call1, ev_var, ev_int, ev_bool, ev_nil, ev_cons, ev_hd, ev_tl, ev_add, ev_neq, ev_lss, ev_geq, ev_seql, ev_beq, ev_ite, ev_len, ev_idx, ev_app, ev_set, ev_toStr, ev_fits64, ea_nil, ea_cons, env_zero, env_succ, env_cons, env_nil, List.map_cons, List.map_nil, v_int, v_bool, v_str, v_ls, v_hd, v_tl, bool_ite, pres_nil, pres_cons, orT, andT, andF, nnE, decide_eq_true_eq, decide_eq_false_iff_not, forall_const, and_true, Int.not_lt, ofBytes_length]
      have hbl := h.bytes_length
      refine ⟨fun hc => ⟨fun _ => by omega, fun _ => by omega, fun _ => by omega, fun _ => by omega, fun hx => ?_, fun _ => ⟨by omega, i + 1, by simp, by omega, by omega⟩⟩, fun hc => ?_⟩
      · exfalso
        apply hx.2
        rw [Int.toNat_natCast, ofBytes_getD, ofBytes_getD, hb.2 i (by omega)]
      · rw [set0 h.csrc k.ssrc]
        refine ⟨_, pc_crossbarref05_Same h { h with csrc := h.csrc.set 0 k.ssrc } (by omega), ?_⟩
        exact bits_same hr ho gr (set_ok ho ko.2.2.1)
  · refine ⟨_, _, pc_head_Write h ho, fun hc => ?_, fun hc => ?_⟩
    · refine ⟨_, fun _ => pc_head_Right h, ?_⟩
      exact bits_bad hc
    · obtain ⟨hr, gr⟩ := both_right hc
      have hb := bits6 h hr gr
      rw [hwB, if_pos hr]
      simp only [v_ls, ofBytes_length]
      refine ⟨fun hl => absurd (by rw [hb.1]) hl, fun hl => ?_⟩
      refine VC.go_loop (fun i : Nat => [.bool false, .int i]) (fun i => i ≤ h.bytes.length) (fun i => h.bytes.length - i) 0 rfl (Nat.zero_le _) fun i hi => ?_
      simp only [VC.H_asrt, VC.H_cond, VC.H_ret, VC.H_back, VC.H_call1, ev_var, ev_int, ev_bool, ev_nil, ev_cons, ev_hd, ev_tl, ev_add, ev_neq, ev_lss, ev_geq, ev_seql, ev_beq, ev_ite, ev_len, ev_idx, ev_toStr, ev_fits64, ea_nil, ea_cons, env_zero, env_succ, env_cons, env_nil, List.map_cons, List.map_nil, v_int, v_bool, v_str, v_ls, v_hd, v_tl, bool_ite, pres_nil, pres_cons, orT, andT, andF, nnE, decide_eq_true_eq, decide_eq_false_iff_not, forall_const, and_true, Int.not_lt, ofBytes_length]
      have hbl := h.bytes_length
      refine ⟨fun hc => ⟨fun _ => by omega, fun _ => by omega, fun _ => by omega, fun _ => by omega, fun hx => ?_, fun _ => ⟨by omega, i + 1, by simp, by omega, by omega⟩⟩, fun hc => ?_⟩
      · exfalso
        exact hx.2 rfl
      · refine ⟨_, pc_crossbarref05_Same h h (by omega), ?_⟩
        simp
end Go.Vc
