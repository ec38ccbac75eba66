/-
  The contracts of the functions of fresh and of its reference, each out of its condition.
-/
import Derived.Test.YtkkkjjonjdkngaaQVf
import Derived.Test.YtkkkjjonjdkngaaQFa
set_option maxRecDepth 100000
namespace Go.Vc
open Go Go.Proofs Go.Plain
theorem en_getD (l : List En) (i : Nat) (h : i < l.length) : (l.map EnC).getD i default = EnC (l.getD i En.zero) := by simp [List.getD, h]
theorem en_mem {l : List En} {i : Nat} (h : i < l.length) : l.getD i En.zero ∈ l := by simp [List.getD, h]
theorem en_take (l : List En) (i : Nat) (h : i < l.length) : l.take (i + 1) = l.take i ++ [l.getD i En.zero] := by rw [List.take_succ_eq_append_getElem h]; simp [List.getD, h]
theorem enB_take (l : List En) (i : Nat) (h : i < l.length) : enB (l.take (i + 1)) = enB (l.take i) ++ (l.getD i En.zero).bytes := by rw [en_take l i h, enB_snoc]
theorem enB_tlen (l : List En) (i : Nat) (h : i ≤ l.length) : (enB (l.take i)).length = 8 * i := by rw [enB_length, List.length_take]; omega
theorem en_put (e : En) (h : e.ok) : putE e.ssrc 4 = 0 ∧ putB e.ssrc 4 = toBE 4 e.ssrc := by
  have pe : putE e.ssrc 4 = 0 := by rw [putE_zero]; refine ⟨by omega, by omega, ?_⟩; show _ < 4294967296; exact h.1
  exact ⟨pe, by rw [putB, if_pos pe]; rfl⟩
theorem en_four (e : En) (h : e.ok) : [C.int (e.seq : Int), C.int 0, C.int 0, C.int 0] = ofBytes [UInt8.ofNat e.seq, 0, 0, 0] := by
  have := h.2
  have e1 : (UInt8.ofNat e.seq).toNat = e.seq := by simp; omega
  simp only [ofBytes, List.map_cons, List.map_nil, e1]
  rfl
theorem pc_fresh_Write (l : List En) (ho : ∀ p ∈ l, p.ok) (hl : l.length ≤ 1000000) : PC Try.prog f_fresh_Write [(.sl EnSh, Ens l)] [(Byt, B (frwB l)), (I64, .int (frwE l))] := by
  apply pcv_fresh_Write rfl
  simp only [vc_fresh_Write, VC.H_asrt, VC.H_cond, VC.H_ret, ev_var, ev_int, ev_bool, ev_nilS, ev_mul, ev_eql, ev_leq, ev_gtr, ev_ite, ev_len, ev_fits64, ea_nil, ea_cons, env_zero, List.map_cons, List.map_nil, v_int, v_bool, v_ls, bool_ite, pres_nil, orT, orF, decide_eq_true_eq, decide_eq_false_iff_not, forall_const, Int.not_lt, List.length_map]
  refine ⟨fun hc => ?_, fun hc => ⟨by omega, by omega, by omega, ?_⟩⟩
  · rw [frwB, frwE, if_pos (by omega), if_pos (by omega)]
    rfl
  · rw [frwB, frwE, if_neg (by omega), if_neg (by omega)]
    refine VC.go_loop (fun i : Nat => [B (enB (l.take i)), .int i]) (fun i => i ≤ l.length) (fun i => l.length - i) 0 rfl (Nat.zero_le _) fun i hi => ?_
    simp only [VC.H_asrt, VC.H_cond, VC.H_ret, VC.H_back, VC.H_call2, ev_var, ev_int, ev_nil, ev_cons, ev_hd, ev_tl, ev_add, ev_mul, ev_lss, ev_leq, ev_geq, ev_conv, ev_len, ev_idx, ev_app, ev_fits64, ea_nil, ea_cons, env_zero, env_succ, env_cons, env_nil, List.map_cons, List.map_nil, v_int, v_bool, v_ls, pres_nil, decide_eq_true_eq, decide_eq_false_iff_not, forall_const, Int.not_lt, List.length_map, ofBytes_length, enB_tlen l i hi, List.length_cons, List.length_nil, Int.toNat_natCast]
    refine ⟨fun hc => ?_, fun hc => ?_⟩
    · have hok := ho _ (en_mem (l := l) (i := i) (by omega))
      have hg := en_getD l i (by omega)
      have ht := enB_take l i (by omega)
      generalize l.getD i En.zero = e at hok hg ht
      obtain ⟨p1, p2⟩ := en_put e hok
      simp only [hg, v_hd, v_tl, v_int, u64_of _ hok.1]
      refine ⟨by omega, by omega, _, _, pc_octet_Put e.ssrc 4 (by have := hok.1; omega), ?_⟩
      rw [p2]
      simp only [v_ls, ofBytes_length, toBE_length]
      refine ⟨by omega, by omega, by omega, i + 1, ?_, by omega, by omega⟩
      rw [en_four e hok, ofBytes_append, ofBytes_append, ht]
      simp [En.bytes]
    · rw [show i = l.length by omega, List.take_length]
theorem pc_crossbarref16_Write (l : List En) (ho : ∀ p ∈ l, p.ok) (hl : l.length ≤ 1000000) : PC Try.prog f_crossbarref16_Write [(.sl EnSh, Ens l)] [(Byt, B (enB l))] := by
  apply pcv_crossbarref16_Write rfl
  simp only [vc_crossbarref16_Write, List.map_cons, List.map_nil]
  refine VC.go_loop (fun i : Nat => [B (enB (l.take i)), .int i]) (fun i => i ≤ l.length) (fun i => l.length - i) 0 rfl (Nat.zero_le _) fun i hi => ?_
  simp only [VC.H_asrt, VC.H_cond, VC.H_ret, VC.H_back, VC.H_call1, ev_var, ev_int, ev_nil, ev_cons, ev_hd, ev_tl, ev_add, ev_mul, ev_lss, ev_leq, ev_geq, ev_conv, ev_len, ev_idx, ev_app, ev_fits64, ea_nil, ea_cons, env_zero, env_succ, env_cons, env_nil, List.map_cons, List.map_nil, v_int, v_bool, v_ls, pres_nil, decide_eq_true_eq, decide_eq_false_iff_not, forall_const, Int.not_lt, List.length_map, ofBytes_length, enB_tlen l i hi, List.length_cons, List.length_nil, Int.toNat_natCast]
  refine ⟨fun hc => ?_, fun hc => ?_⟩
  · have hok := ho _ (en_mem (l := l) (i := i) (by omega))
    have hg := en_getD l i (by omega)
    have ht := enB_take l i (by omega)
    generalize l.getD i En.zero = e at hok hg ht
    simp only [hg, v_hd, v_tl, v_int, u64_of _ hok.1]
    refine ⟨by omega, by omega, _, pn_crossbarref01_Must e.ssrc 4 hok.1 (by decide) (by have := hok.1; omega), ?_⟩
    simp only [v_ls, ofBytes_length, toBE_length]
    refine ⟨by omega, by omega, by omega, by omega, by omega, i + 1, ?_, by omega, by omega⟩
    rw [en_four e hok, ofBytes_append, ofBytes_append, ht]
    simp [En.bytes]
  · rw [show i = l.length by omega, List.take_length]
theorem rem8 (n : Nat) : arith .rem .i64 (n : Int) 8 = ((n % 8 : Nat) : Int) := by rw [arith_rem _ _ _ (by omega)]; omega
theorem fr_get (b : List UInt8) (i : Nat) (h : 8 * i + 8 ≤ b.length) : getV b ((8 * i : Nat) : Int) 4 = num b (8 * i) 4 := by
  have e0 : getE b.length ((8 * i : Nat) : Int) 4 = 0 := by rw [getE_zero]; omega
  rw [getV, if_pos e0]
  rfl
theorem pc_fresh_Read (b : List UInt8) (hb : b.length ≤ 140737488355328) : PC Try.prog f_fresh_Read [(Byt, B b)] [(.sl EnSh, Ens (frR b)), (I64, .int (frE b))] := by
  apply pcv_fresh_Read rfl
  simp only [vc_fresh_Read, VC.H_cond, VC.H_ret, ev_var, ev_int, ev_bool, ev_nilS, ev_bin, ev_eql, ev_neq, ev_gtr, ev_ite, ev_len, ea_nil, ea_cons, env_zero, List.map_cons, List.map_nil, v_int, v_bool, v_ls, bool_ite, orT, orF, nnE, decide_eq_true_eq, decide_eq_false_iff_not, Int.not_lt, ofBytes_length, rem8]
  refine ⟨fun h1 => ?_, fun h1 => ⟨fun h2 => ?_, fun h2 => ?_⟩⟩
  · have e : frE b = 4 := by unfold frE; rw [if_pos (by omega)]
    rw [frR, e, if_neg (by decide)]
    rfl
  · have e : frE b = 2 := by unfold frE; rw [if_neg (by omega), if_pos (by omega)]
    rw [frR, e, if_neg (by decide)]
    rfl
  · have e : frE b = 0 := by rw [frE_zero]; omega
    rw [frR, if_pos e, e]
    refine VC.go_loop (fun i : Nat => [Ens ((List.range i).map fun j => En.at b (8 * j)), .int ((8 * i : Nat) : Int)]) (fun i => 8 * i ≤ b.length) (fun i => b.length - i) 0 rfl (Nat.zero_le _) fun i hi => ?_
    simp only [VC.H_asrt, VC.H_cond, VC.H_ret, VC.H_back, VC.H_call2, ev_var, ev_int, ev_nil, ev_cons, ev_add, ev_mul, ev_lss, ev_leq, ev_geq, ev_conv, ev_len, ev_idx, ev_app, ev_fits64, ea_nil, ea_cons, env_zero, env_succ, env_cons, env_nil, List.map_cons, List.map_nil, v_int, v_bool, v_ls, pres_nil, decide_eq_true_eq, decide_eq_false_iff_not, forall_const, Int.not_lt, ofBytes_length, List.length_map, List.length_range, List.length_cons, List.length_nil]
    refine ⟨fun hc => ?_, fun hc => ?_⟩
    · have t4 : (((8 * i : Nat) : Int) + 4).toNat = 8 * i + 4 := by omega
      have hn : num b (8 * i) 4 < 4294967296 := num_lt b _ 4
      refine ⟨_, _, pc_octet_Get b ((8 * i : Nat) : Int) 4 (by omega), ?_⟩
      rw [fr_get b i (by omega)]
      simp only [t4, ofBytes_getD, atD, v_int]
      refine ⟨by omega, by omega, by omega, by omega, by omega, i + 1, ?_, by omega, by omega⟩
      rw [wrapu32, List.range_succ, List.map_append]
      simp [En.at]
      omega
    · rw [enOf, show i = b.length / 8 by omega]
theorem pc_crossbarref16_Read (b : List UInt8) (hb : b.length ≤ 140737488355328) : PC Try.prog f_crossbarref16_Read [(Byt, B b)] [(.sl EnSh, Ens (frR b)), (I64, .int (frE b))] := by
  apply pcv_crossbarref16_Read rfl
  simp only [vc_crossbarref16_Read, VC.H_cond, VC.H_ret, ev_var, ev_int, ev_bool, ev_nilS, ev_bin, ev_eql, ev_neq, ev_gtr, ev_ite, ev_len, ea_nil, ea_cons, env_zero, List.map_cons, List.map_nil, v_int, v_bool, v_ls, bool_ite, orT, orF, nnE, decide_eq_true_eq, decide_eq_false_iff_not, Int.not_lt, ofBytes_length, rem8]
  refine ⟨fun h1 => ?_, fun h1 => ⟨fun h2 => ?_, fun h2 => ?_⟩⟩
  · have e : frE b = 4 := by unfold frE; rw [if_pos (by omega)]
    rw [frR, e, if_neg (by decide)]
    rfl
  · have e : frE b = 2 := by unfold frE; rw [if_neg (by omega), if_pos (by omega)]
    rw [frR, e, if_neg (by decide)]
    rfl
  · have e : frE b = 0 := by rw [frE_zero]; omega
    rw [frR, if_pos e, e]
    refine VC.go_loop (fun i : Nat => [Ens ((List.range i).map fun j => En.at b (8 * j)), .int ((8 * i : Nat) : Int)]) (fun i => 8 * i ≤ b.length) (fun i => b.length - i) 0 rfl (Nat.zero_le _) fun i hi => ?_
    simp only [VC.H_asrt, VC.H_cond, VC.H_ret, VC.H_back, VC.H_call1, ev_var, ev_int, ev_nil, ev_cons, ev_add, ev_mul, ev_lss, ev_leq, ev_geq, ev_len, ev_idx, ev_app, ev_fits64, ea_nil, ea_cons, env_zero, env_succ, env_cons, env_nil, List.map_cons, List.map_nil, v_int, v_bool, v_ls, pres_nil, decide_eq_true_eq, decide_eq_false_iff_not, forall_const, Int.not_lt, ofBytes_length, List.length_map, List.length_range, List.length_cons, List.length_nil]
    refine ⟨fun hc => ?_, fun hc => ?_⟩
    · have t4 : (((8 * i : Nat) : Int) + 4).toNat = 8 * i + 4 := by omega
      refine ⟨_, pc_crossbarref05_Num b (8 * i) 4 (by omega) (by decide) (by omega), ?_⟩
      simp only [t4, ofBytes_getD, atD]
      refine ⟨by omega, by omega, by omega, by omega, by omega, i + 1, ?_, by omega, by omega⟩
      rw [List.range_succ, List.map_append]
      simp [En.at]
      omega
    · rw [enOf, show i = b.length / 8 by omega]
theorem frR_len (b : List UInt8) : (frR b).length ≤ b.length ∧ (∀ p ∈ frR b, p.ok) := by
  unfold frR
  split
  · exact ⟨by rw [enOf_length]; omega, enOf_ok b⟩
  · exact ⟨by simp, by intro p hp; cases hp⟩
open Classical in
theorem boolC {p : Prop} [Decidable p] {x : Bool} (h : x = true ↔ p) : [(Sh.bool, C.bool x)] = [(Sh.bool, C.bool (decide p))] := by
  rw [show x = decide p by rw [Bool.eq_iff_iff, h, decide_eq_true_eq]]
instance (b : List UInt8) : Decidable (frC b) := by unfold frC; exact inferInstance
theorem pc_fresh_Canon (b : List UInt8) (hb : b.length ≤ 140737488355328) : PC Try.prog f_fresh_Canon [(Byt, B b)] [(.bool, .bool (decide (frC b)))] := by
  apply pcv_fresh_Canon rfl
  simp only [vc_fresh_Canon, VC.H_cond, VC.H_ret, VC.H_call2, ev_var, ev_int, ev_bool, ev_neq, ea_nil, ea_cons, env_zero, env_succ, env_cons, env_nil, List.map_cons, List.map_nil, v_int, v_bool, pres_nil, nnE, decide_eq_true_eq, decide_eq_false_iff_not, forall_const]
  refine ⟨_, _, pc_fresh_Read b hb, fun h => ?_, fun h => ?_⟩
  · have h : ¬ frE b = 0 := by simpa using h
    apply boolC
    simp [frC, h]
  · have h : frE b = 0 := by simpa using h
    obtain ⟨q1, q2, q3⟩ := frE_zero.1 h
    refine VC.go_loop (fun i : Nat => [.bool false, .int ((8 * i : Nat) : Int)]) (fun i => 8 * i ≤ b.length ∧ ∀ j, j < i → at_ b (8 * j + 5) = 0 ∧ at_ b (8 * j + 6) = 0 ∧ at_ b (8 * j + 7) = 0) (fun i => b.length - i) 0 rfl ⟨Nat.zero_le _, fun j hj => by omega⟩ fun i hi => ?_
    have t5 : (((8 * i : Nat) : Int) + 5).toNat = 8 * i + 5 := by omega
    have t6 : (((8 * i : Nat) : Int) + 6).toNat = 8 * i + 6 := by omega
    have t7 : (((8 * i : Nat) : Int) + 7).toNat = 8 * i + 7 := by omega
    simp only [VC.H_asrt, VC.H_cond, VC.H_ret, VC.H_back, ev_var, ev_int, ev_bool, ev_add, ev_neq, ev_lss, ev_geq, ev_ite, ev_len, ev_idx, ev_fits64, ea_nil, ea_cons, env_zero, env_succ, env_cons, env_nil, List.map_cons, List.map_nil, v_int, v_bool, v_ls, bool_ite, pres_nil, pres_cons, orT, orF, nnE, decide_eq_true_eq, decide_eq_false_iff_not, forall_const, and_true, Int.not_lt, ofBytes_length, t5, t6, t7, ofBytes_getD, atD]
    refine ⟨fun hc => ⟨by omega, by omega, by omega, fun _ => by omega, fun _ => by omega, fun _ => by omega, fun _ => by omega, fun _ => by omega, fun _ => by omega, fun hbad => ?_, fun hgood => ⟨by omega, i + 1, by simp; omega, ⟨by omega, fun j hj => ?_⟩, by omega⟩⟩, fun hc => ?_⟩
    · apply boolC
      simp only [Bool.false_eq_true, false_iff]
      intro hh
      have := hh.2 i (by omega)
      omega
    · by_cases hji : j = i
      · subst hji
        omega
      · exact hi.2 j (by omega)
    · apply boolC
      simp only [true_iff]
      exact ⟨h, fun j hj => hi.2 j (by omega)⟩
theorem pc_crossbarref16_Canon (b : List UInt8) (hb : b.length ≤ 1000000) : PC Try.prog f_crossbarref16_Canon [(Byt, B b)] [(.bool, .bool (decide (frC b)))] := by
  apply pcv_crossbarref16_Canon rfl
  simp only [vc_crossbarref16_Canon, VC.H_ret, VC.H_call1, VC.H_call2, ev_var, ev_int, ev_bool, ev_eql, ev_seql, ev_ite, ev_toStr, ea_nil, ea_cons, env_zero, env_succ, env_cons, env_nil, List.map_cons, List.map_nil, v_int, v_bool, v_str, v_ls, bool_ite, pres_nil, pres_cons, decide_eq_true_eq, forall_const, and_true]
  obtain ⟨f1, f2⟩ := frR_len b
  refine ⟨_, _, pc_crossbarref16_Read b (by omega), _, fun _ => pc_crossbarref16_Write _ f2 (by omega), ?_⟩
  apply boolC
  rw [frC_iff]
  by_cases h : frE b = 0
  · have e : frR b = enOf b := if_pos h
    simp [h, e, bytesOf_ofBytes]
  · simp [h]
theorem en_deq (p q : En) : dataEq EnSh (EnC p) (EnC q) = decide (p = q) := by
  obtain ⟨a, b⟩ := p
  obtain ⟨c, d⟩ := q
  simp only [dataEq, v_hd, v_tl, v_int, Bool.and_true, En.mk.injEq]
  rw [Bool.eq_iff_iff]
  simp
  omega
theorem take_eq_succ {α : Type} {a b : List α} {i : Nat} (ha : i < a.length) (hb : i < b.length) (h : a.take i = b.take i) (h2 : a[i] = b[i]) : a.take (i + 1) = b.take (i + 1) := by
  rw [List.take_succ_eq_append_getElem ha, List.take_succ_eq_append_getElem hb, h, h2]
theorem pc_crossbarref16_Same (a b : List En) (ha : a.length ≤ 9223372036854775806) : PC Try.prog f_crossbarref16_Same [(.sl EnSh, Ens a), (.sl EnSh, Ens b)] [(.bool, .bool (decide (a = b)))] := by
  apply pcv_crossbarref16_Same rfl
  simp only [vc_crossbarref16_Same, VC.H_cond, VC.H_ret, ev_var, ev_bool, ev_neq, ev_len, ea_nil, ea_cons, env_zero, env_succ, List.map_cons, List.map_nil, v_int, v_bool, v_ls, nnE, decide_eq_true_eq, decide_eq_false_iff_not, List.length_map]
  refine ⟨fun h => ?_, fun h => ?_⟩
  · have : ¬ a = b := fun e => h (by rw [e])
    simp [this]
  · refine VC.go_loop (fun i : Nat => [.bool false, .int i]) (fun i => i ≤ a.length ∧ a.take i = b.take i) (fun i => a.length - i) 0 rfl ⟨Nat.zero_le _, rfl⟩ fun i hi => ?_
    simp only [VC.H_asrt, VC.H_cond, VC.H_ret, VC.H_back, ev_var, ev_int, ev_bool, ev_add, ev_lss, ev_geq, ev_not, ev_len, ev_idx, ev_deq, ev_fits64, ea_nil, ea_cons, env_zero, env_succ, env_cons, env_nil, List.map_cons, List.map_nil, v_int, v_bool, v_ls, pres_nil, notT, notF, decide_eq_true_eq, decide_eq_false_iff_not, forall_const, Int.not_lt, List.length_map, Int.toNat_natCast]
    refine ⟨fun hc => ?_, fun hc => ?_⟩
    · rw [en_getD _ _ (by omega), en_getD _ _ (by omega), en_deq]
      refine ⟨by omega, by omega, by omega, by omega, fun hne => ?_, fun heq => ⟨by omega, i + 1, by simp, ⟨by omega, take_eq_succ (by omega) (by omega) hi.2 ?_⟩, by omega⟩⟩
      · have : ¬ a = b := fun e => by simp [e] at hne
        simp [this]
      · simp only [decide_eq_true_eq] at heq
        simpa [List.getD, show i < a.length by omega, show i < b.length by omega] using heq
    · have : a = b := by
        have := hi.2
        rwa [List.take_of_length_le (by omega), List.take_of_length_le (by omega)] at this
      simp [this]
/-- The last of a Ssrc among the first ones, from a place down. -/
theorem last_down (all : List En) (s : Nat) : ∀ (n : Nat), (∀ j, n ≤ j → j < all.length → (all.getD j En.zero).ssrc ≠ s) → lastSeq all s = lastSeq (all.take n) s := by
  intro n
  induction all using snocInd with
  | nil => simp
  | snoc l e ih =>
    intro h
    by_cases hn : l.length < n
    · rw [List.take_of_length_le (by simp; omega)]
    · have h1 := h l.length (by omega) (by simp)
      have h2 : (l ++ [e]).getD l.length En.zero = e := by simp [List.getD]
      rw [h2] at h1
      rw [lastSeq_snoc, if_neg h1, List.take_append_of_le_length (by omega)]
      apply ih
      intro j hj hjl
      have := h j hj (by simp; omega)
      have h3 : (l ++ [e]).getD j En.zero = l.getD j En.zero := by simp [List.getD, List.getElem?_append_left hjl]
      rwa [h3] at this
theorem pc_crossbarref16_Anew (was l : List En) (hl : was.length ≤ 1000000) (hl2 : l.length ≤ 1000000) : PC Try.prog f_crossbarref16_Anew [(.sl EnSh, Ens was), (.sl EnSh, Ens l)] [(.sl EnSh, Ens (anew was l))] := by
  apply pcv_crossbarref16_Anew rfl
  have e0 : List.map EnC was ++ List.map EnC l = List.map EnC (was ++ l) := by simp
  simp only [vc_crossbarref16_Anew, VC.H_asrt, ev_var, ev_int, ev_add, ev_mul, ev_leq, ev_len, env_zero, env_succ, List.map_cons, List.map_nil, v_int, v_bool, v_ls, pres_nil, decide_eq_true_eq, forall_const, List.length_map]
  refine ⟨by omega, by omega, ?_⟩
  refine VC.go_loop (fun i : Nat => [Ens (anew was (l.take i)), .int ((was.length + i : Nat) : Int)]) (fun i => i ≤ l.length) (fun i => l.length - i) 0 ?_ (Nat.zero_le _) fun i hi => ?_
  · simp only [ev_var, ev_nil, ev_len, env_zero, List.map_cons, List.map_nil, v_ls]
    simp [anew]
  · simp only [VC.H_asrt, VC.H_cond, VC.H_ret, ev_var, ev_int, ev_add, ev_sub', ev_lss, ev_len, ev_fits64, ea_nil, ea_cons, env_zero, env_succ, env_cons, env_nil, v_int, v_bool, v_ls, pres_nil, decide_eq_true_eq, decide_eq_false_iff_not, forall_const, Int.not_lt, List.length_map]
    have hal := anew_length was (l.take i)
    rw [List.length_take] at hal
    refine ⟨fun hc => ⟨by omega, ?_⟩, fun hc => ?_⟩
    · have t1 : ((was.length + i : Nat) : Int).toNat = was.length + i := by omega
      have hat : (was ++ l).getD (was.length + i) En.zero = l.getD i En.zero := by simp [List.getD, List.getElem?_append_right]
      have hpre : (was ++ l).take (was.length + i) = was ++ l.take i := by rw [List.take_append]; simp [List.take_of_length_le]
      have ht := en_take l i (by omega)
      have han := anew_snoc was (l.take i) (l.getD i En.zero)
      rw [← ht] at han
      have hge := en_getD (was ++ l) (was.length + i) (by simp; omega)
      rw [hat] at hge
      have hlen : (was ++ l).length = was.length + l.length := by simp
      generalize l.getD i En.zero = e at hat hge han
      refine VC.go_loop (fun k : Nat => [.int ((k : Int) - 1)]) (fun k => k ≤ was.length + i ∧ ∀ j, k ≤ j → j < was.length + i → ((was ++ l).getD j En.zero).ssrc ≠ e.ssrc) (fun k => k) (was.length + i) ?_ ⟨Nat.le_refl _, fun j h1 h2 => by omega⟩ fun k hk => ?_
      · simp only [ev_var, ev_int, ev_sub', env_zero, env_succ, List.map_cons, List.map_nil, v_int]
      · simp only [VC.H_asrt, VC.H_cond, VC.H_back, ev_var, ev_int, ev_bool, ev_nil, ev_cons, ev_hd, ev_tl, ev_add, ev_sub', ev_mul, ev_neq, ev_lss, ev_leq, ev_geq, ev_ite, ev_len, ev_idx, ev_app, ev_fits64, env_zero, env_succ, env_cons, env_nil, List.map_cons, List.map_nil, v_int, v_bool, v_ls, v_hd, v_tl, bool_ite, pres_nil, pres_cons, orT, orF, andT, andF, nnE, decide_eq_true_eq, decide_eq_false_iff_not, forall_const, and_true, Int.not_lt, Int.not_le, e0, t1, hge, List.length_map]
        have hlast := last_down ((was ++ l).take (was.length + i)) e.ssrc k (by
          intro j hj hjl
          have hj2 : j < was.length + i := by simp at hjl; omega
          have := hk.2 j hj hj2
          have h3 : ((was ++ l).take (was.length + i)).getD j En.zero = (was ++ l).getD j En.zero := by simp [List.getD, hj2]
          rwa [h3])
        rw [hpre] at hlast
        by_cases hk0 : k = 0
        · subst hk0
          have hnew : Plain.isNew (was ++ l.take i) e := by unfold Plain.isNew; rw [hlast]; simp [lastSeq]
          rw [if_pos hnew] at han
          refine ⟨fun h => by omega, fun h => by omega, fun h => by omega, fun h => by omega, fun h => by omega, fun _ => ⟨fun h => by omega, fun h => by omega, fun h => by omega, fun h => by omega, fun _ => ⟨by omega, by omega, by simp; omega, by omega, i + 1, ?_, by omega, by omega⟩, fun h => by omega⟩⟩
          rw [han]
          simp
          omega
        · have tk : ((k : Int) - 1).toNat = k - 1 := by omega
          have hgk := en_getD (was ++ l) (k - 1) (by omega)
          have hmem : (was ++ l).take k = (was ++ l).take (k - 1) ++ [(was ++ l).getD (k - 1) En.zero] := by
            have := en_take (was ++ l) (k - 1) (by omega)
            rwa [Nat.sub_add_cancel (by omega)] at this
          have hpk : (was ++ l.take i).take k = (was ++ l).take k := by rw [← hpre, List.take_take, Nat.min_eq_left hk.1]
          rw [hpk, hmem, lastSeq_snoc] at hlast
          have hfar : ∀ j, k ≤ j → j < was.length + i → ((was ++ l).getD j En.zero).ssrc ≠ e.ssrc := hk.2
          have hkk : k - 1 < was.length + i := by omega
          have hstep : ((was ++ l).getD (k - 1) En.zero).ssrc ≠ e.ssrc → ∀ j, k - 1 ≤ j → j < was.length + i → ((was ++ l).getD j En.zero).ssrc ≠ e.ssrc := fun hne j hj hj2 => by
            by_cases hjk : j = k - 1
            · rw [hjk]; exact hne
            · exact hfar j (by omega) hj2
          rw [tk, hgk]
          generalize (was ++ l).getD (k - 1) En.zero = q at hlast hstep
          simp only [v_hd, v_tl, v_int]
          refine ⟨fun _ => by omega, fun _ => by omega, fun _ => by omega, fun _ => by omega, fun hne => ⟨by omega, k - 1, by simp; omega, ⟨by omega, hstep (by omega)⟩, by omega⟩, fun heq => ?_⟩
          have hqe : q.ssrc = e.ssrc := by omega
          rw [if_pos hqe] at hlast
          refine ⟨fun _ => by omega, fun _ => by omega, fun _ => by omega, fun _ => by omega, fun hne => ⟨by omega, by omega, by simp; omega, by omega, i + 1, ?_, by omega, by omega⟩, fun heq2 => ⟨by omega, i + 1, ?_, by omega, by omega⟩⟩
          · have hnew : Plain.isNew (was ++ l.take i) e := by unfold Plain.isNew; rw [hlast]; simp; omega
            rw [if_pos hnew] at han
            rw [han]
            simp
            omega
          · have hnew : ¬ Plain.isNew (was ++ l.take i) e := by unfold Plain.isNew; rw [hlast]; simp; omega
            rw [if_neg hnew] at han
            rw [han]
            simp
            omega
    · rw [List.take_of_length_le (by omega)]
end Go.Vc
