/-
  The contracts of the other functions of elem, and of its reference, each out of its condition.
-/
import Derived.Test.YtkkkjjonjdkngaaQVe
import Derived.Test.YtkkkjjonjdkngaaQVsp
import Derived.Test.YtkkkjjonjdkngaaQEe
set_option maxRecDepth 100000
namespace Go.Vc
open Go Go.Proofs Go.Plain
theorem el_getD (l : List El) (i : Nat) (h : i < l.length) : (l.map ElC).getD ((i : Int)).toNat default = ElC (l.getD i El.zero) := by simp [List.getD, h]
theorem el_take (l : List El) (i : Nat) (h : i < l.length) : l.take (i + 1) = l.take i ++ [l.getD i El.zero] := by rw [List.take_succ_eq_append_getElem h]; simp [List.getD, h]
theorem el_mem {l : List El} {i : Nat} (h : i < l.length) : l.getD i El.zero ∈ l := by simp [List.getD, h]
theorem sp_getD (l : List Sp) (i : Nat) (h : i < l.length) : (l.map SpC).getD ((i : Int)).toNat default = SpC (l.getD i Sp.zero) := by simp [List.getD, h]
theorem sp_take (l : List Sp) (i : Nat) (h : i < l.length) : l.take (i + 1) = l.take i ++ [l.getD i Sp.zero] := by rw [List.take_succ_eq_append_getElem h]; simp [List.getD, h]
theorem sp_mem {l : List Sp} {i : Nat} (h : i < l.length) : l.getD i Sp.zero ∈ l := by simp [List.getD, h]
theorem pad4 (n : Nat) (h : n ≤ 100000000) : arith .rem .i64 (4 - ((n % 4 : Nat) : Int)) 4 = (((4 - n % 4) % 4 : Nat) : Int) := by
  rw [arith_rem _ _ _ (by omega)]; omega
theorem pc_pad_Fill (b : List UInt8) (hb : b.length ≤ 100000000) : PC Try.prog f_pad_Fill [(Byt, B b)] [(Byt, B (fill4 b))] := by
  apply pcv_pad_Fill rfl
  simp only [vc_pad_Fill, VC.H_asrt, VC.H_ret, ev_var, ev_int, ev_bin, ev_add, ev_sub', ev_mul, ev_leq, ev_geq, ev_len, ev_sub, ev_rep, ev_splice, ev_fits64, ea_nil, ea_cons, env_zero, List.map_cons, List.map_nil, v_int, v_bool, v_ls, pres_nil, decide_eq_true_eq, forall_const, ofBytes_length, mod4 _ (show b.length < 9223372036854775807 by omega), pad4 _ hb]
  refine ⟨by omega, by omega, by omega, by omega, by omega, ?_⟩
  rw [← Int.natCast_add, Int.toNat_natCast]
  congr 3
  rw [ofBytes_rep, List.take_of_length_le (by simp), Int.toNat_zero]
  have e : List.drop 0 (ofBytes b) = ofBytes b := rfl
  rw [e, ofBytes_splice]
  congr 1
  unfold fill4 splice
  simp only [List.take_zero, List.nil_append, List.length_replicate, Nat.sub_zero, Nat.zero_add, List.drop_replicate]
  rw [List.take_of_length_le (by omega), Nat.add_sub_cancel_left]
theorem pc_ref03_Fill (b : List UInt8) (hb : b.length ≤ 100000000) : PC Try.prog f_crossbarref03_Fill [(Byt, B b)] [(Byt, B (fill4 b))] := by
  apply pcv_crossbarref03_Fill rfl
  simp only [vc_crossbarref03_Fill, VC.H_asrt, ev_var, ev_int, ev_add, ev_mul, ev_leq, ev_len, env_zero, List.map_cons, List.map_nil, v_int, v_bool, v_ls, pres_nil, decide_eq_true_eq, forall_const, ofBytes_length]
  refine ⟨by omega, ?_⟩
  refine VC.go_loop (fun j : Nat => [B (b ++ List.replicate j 0)]) (fun j => j ≤ (4 - b.length % 4) % 4) (fun j => 4 - j) 0 (by simp [E.eval]) (Nat.zero_le _) fun j hj => ?_
  have hl : (b ++ List.replicate j 0).length = b.length + j := by simp
  simp only [VC.H_asrt, VC.H_cond, VC.H_ret, VC.H_back, ev_var, ev_int, ev_nil, ev_cons, ev_bin, ev_add, ev_mul, ev_neq, ev_leq, ev_len, ev_app, ea_nil, ea_cons, env_zero, env_succ, env_cons, env_nil, List.map_cons, List.map_nil, v_int, v_bool, v_ls, pres_nil, nnE, decide_eq_true_eq, decide_eq_false_iff_not, forall_const, ofBytes_length, hl, mod4 _ (show b.length + j < 9223372036854775807 by omega), List.length_cons, List.length_nil]
  refine ⟨fun hc => ⟨by omega, j + 1, ?_, by omega, by omega⟩, fun hc => ?_⟩
  · have : [C.int 0] = ofBytes [0] := rfl
    rw [this, ofBytes_append, List.append_assoc, List.replicate_succ']
  · have : j = (4 - b.length % 4) % 4 := by omega
    rw [this]; rfl
theorem pc_elem_narrow (l : List El) (hl : l.length ≤ 1000000) : PC Try.prog f_elem_narrow [(.sl ElSh, Els l)] [(.bool, .bool (elNarrow l))] := by
  apply pcv_elem_narrow rfl
  simp only [vc_elem_narrow, List.map_cons, List.map_nil]
  refine VC.go_loop (fun i : Nat => [.bool false, .int (i : Int)]) (fun i => i ≤ l.length ∧ ∀ e ∈ l.take i, elFits true e) (fun i => l.length - i) 0 rfl ⟨Nat.zero_le _, by simp⟩ fun i hi => ?_
  obtain ⟨i1, i2⟩ := hi
  simp only [VC.H_asrt, VC.H_cond, VC.H_ret, VC.H_back, ev_var, ev_int, ev_bool, ev_hd, ev_tl, ev_add, ev_lss, ev_gtr, ev_geq, ev_ite, ev_len, ev_idx, ev_fits64, ea_nil, ea_cons, env_zero, env_succ, env_cons, env_nil, List.map_cons, List.map_nil, v_int, v_bool, v_ls, bool_ite, pres_nil, orT, orF, decide_eq_true_eq, decide_eq_false_iff_not, forall_const, Int.not_lt, List.length_map]
  refine ⟨fun hc => ?_, fun hc => ?_⟩
  · have hk : i < l.length := by omega
    have hm := el_mem hk
    have ht := el_take l i hk
    rw [el_getD l i hk]
    generalize l.getD i El.zero = e at hm ht
    simp only [v_hd, v_tl, v_int, v_ls, ofBytes_length]
    refine ⟨by omega, by omega, fun h => ?_, fun h => ⟨by omega, i + 1, by simp, ⟨by omega, ?_⟩, by omega⟩⟩
    · have : elNarrow l = false := decide_eq_false fun hall => by
        have := elFits_nar (hall e hm)
        omega
      rw [this]
    · rw [ht]
      intro x hx
      rcases List.mem_append.1 hx with hx | hx
      · exact i2 x hx
      · rw [List.mem_singleton] at hx
        subst hx
        simp only [elFits, if_true]
        omega
  · have he : i = l.length := by omega
    rw [he, List.take_length] at i2
    have : elNarrow l = true := decide_eq_true i2
    rw [this]
theorem pc_elem_Profile (l : List El) (hl : l.length ≤ 1000000) : PC Try.prog f_elem_Profile [(.sl ElSh, Els l)] [(U16, .int (elProfile l : Nat))] := by
  apply pcv_elem_Profile rfl
  simp only [vc_elem_Profile, VC.H_cond, VC.H_ret, VC.H_call1, ev_var, ev_int, ev_not, ea_nil, ea_cons, env_zero, env_succ, env_cons, env_nil, List.map_cons, List.map_nil, v_bool, pres_nil, notT, notF, forall_const]
  refine ⟨_, pc_elem_Right l hl, ?_⟩
  simp only [v_bool, decide_eq_true_eq, decide_eq_false_iff_not]
  unfold elProfile
  refine ⟨fun h => ?_, fun h => ⟨_, pc_elem_narrow l hl, ?_⟩⟩
  · rw [if_neg (by simpa using h)]; rfl
  · rw [if_pos (by simpa using h)]
    simp only [v_bool]
    refine ⟨fun h => ?_, fun h => ?_⟩ <;> rw [h] <;> rfl
theorem elRaw_snoc (nar : Bool) (l : List El) (e : El) : elRaw nar (l ++ [e]) = elRaw nar l ++ enc nar e := by simp [elRaw]
theorem elRaw_len (nar : Bool) : ∀ (l : List El), (∀ e ∈ l, e.data.length ≤ 255) → (elRaw nar l).length ≤ 257 * l.length
  | [], _ => by simp [elRaw]
  | e :: l, h => by
    have ih := elRaw_len nar l (fun x hx => h x (by simp [hx]))
    have h1 := h e (by simp)
    have h2 := enc_length nar e
    have h3 : Plain.ahead nar ≤ 2 := by unfold Plain.ahead; split <;> omega
    have e1 : elRaw nar (e :: l) = enc nar e ++ elRaw nar l := by simp [elRaw]
    rw [e1, List.length_append, List.length_cons]
    omega
theorem nib_or (a b : Nat) (ha : a < 16) (hb : b < 16) : arith .or .i64 (arith .shl .i64 (a : Int) 4) (b : Int) = ((16 * a + b : Nat) : Int) := by
  have h1 : arith .shl .i64 (a : Int) 4 = ((16 * a : Nat) : Int) := by
    rw [arith_shl, show (2 : Int) ^ (min (4 : Int).toNat IntKind.i64.bits) = 16 from rfl, wrapi64_in (by omega)]
    omega
  rw [h1, arith_orH (Nat.lt_of_lt_of_le (show 16 * a < 256 by omega) (by decide)) (Nat.lt_of_lt_of_le (show b < 256 by omega) (by decide))]
  congr 1
  have key : ∀ a b : Fin 16, 16 * a.1 ||| b.1 = 16 * a.1 + b.1 := by decide
  exact key ⟨a, ha⟩ ⟨b, hb⟩
theorem right_mem {l : List El} (h : elRight l) : ∀ e ∈ l, 1 ≤ e.id ∧ e.id ≤ 255 ∧ e.data.length ≤ 255 := by
  intro e he
  obtain ⟨j, hj, rfl⟩ := List.getElem_of_mem he
  have := h j hj
  unfold elAt at this
  rw [List.getD_eq_getElem?_getD, List.getElem?_eq_getElem hj] at this
  exact ⟨this.1, this.2.1, this.2.2.1⟩
theorem enc_nar {e : El} (h : elFits true e) : [C.int (IntKind.u8.wrap (arith .or .i64 (arith .shl .i64 e.id 4) ((e.data.length : Int) - 1)))] ++ ofBytes e.data = ofBytes (enc true e) := by
  obtain ⟨h1, h2, h3, h4⟩ := elFits_nar h
  obtain ⟨n, hn⟩ : ∃ n : Nat, e.id = n := ⟨e.id.toNat, by omega⟩
  have e1 : (e.data.length : Int) - 1 = ((e.data.length - 1 : Nat) : Int) := by omega
  rw [hn, e1, nib_or n _ (by omega) (by omega), byte_nat]
  unfold enc
  rw [if_pos rfl, hn, Int.toNat_natCast, show 16 * n + (e.data.length - 1) = 16 * n + e.data.length - 1 by omega]
  simp only [ofBytes, List.map_cons, List.cons_append, List.nil_append]
theorem enc_nar2 {e : El} (h : elFits true e) : [C.int (IntKind.u8.wrap (16 * e.id + (e.data.length : Int) - 1))] ++ ofBytes e.data = ofBytes (enc true e) := by
  obtain ⟨h1, h2, h3, h4⟩ := elFits_nar h
  obtain ⟨n, hn⟩ : ∃ n : Nat, e.id = n := ⟨e.id.toNat, by omega⟩
  have e1 : 16 * (n : Int) + (e.data.length : Int) - 1 = ((16 * n + e.data.length - 1 : Nat) : Int) := by omega
  rw [hn, e1, byte_nat]
  unfold enc
  rw [if_pos rfl, hn, Int.toNat_natCast]
  simp only [ofBytes, List.map_cons, List.cons_append, List.nil_append]
theorem enc_wide {e : El} (h : 1 ≤ e.id ∧ e.id ≤ 255 ∧ e.data.length ≤ 255) : [C.int (IntKind.u8.wrap e.id), C.int (IntKind.u8.wrap (e.data.length : Int))] ++ ofBytes e.data = ofBytes (enc false e) := by
  obtain ⟨n, hn⟩ : ∃ n : Nat, e.id = n := ⟨e.id.toNat, by omega⟩
  rw [hn, byte_nat, byte_nat]
  unfold enc
  rw [if_neg (by simp), hn, Int.toNat_natCast]
  simp only [ofBytes, List.map_cons, List.cons_append, List.nil_append]
def elwB (l : List El) : List UInt8 := if elRight l then elBytes l else []
def elwE (l : List El) : Int := if elRight l then 0 else 1
theorem raw_take_len {nar : Bool} {l : List El} (h : elRight l) (i : Nat) (hi : i ≤ l.length) : (elRaw nar (l.take i)).length ≤ 257 * i := by
  have := elRaw_len nar (l.take i) (fun e he => (right_mem h e (List.mem_of_mem_take he)).2.2)
  rw [List.length_take] at this
  omega
theorem pc_elem_Write (l : List El) (hl : l.length ≤ 10000) : PC Try.prog f_elem_Write [(.sl ElSh, Els l)] [(U16, .int (elProfile l : Nat)), (Byt, B (elwB l)), (I64, .int (elwE l))] := by
  apply pcv_elem_Write rfl
  simp only [vc_elem_Write, VC.H_cond, VC.H_ret, VC.H_call1, ev_var, ev_int, ev_nilS, ev_eql, ea_nil, ea_cons, env_zero, env_succ, env_cons, env_nil, List.map_cons, List.map_nil, v_int, v_bool, pres_nil, decide_eq_true_eq, decide_eq_false_iff_not, forall_const]
  refine ⟨_, pc_elem_Profile l (by omega), ?_⟩
  simp only [v_int]
  by_cases hr : elRight l
  · have hp := elProfile_eq hr
    have hw : elwB l = elBytes l := if_pos hr
    have he : elwE l = 0 := if_pos hr
    rw [hp, hw, he]
    have hfit := (elRight_fits hr).1
    unfold elBytes
    generalize hn : elNarrow l = nar at hfit
    refine ⟨fun h => ?_, fun h => ?_⟩
    · exfalso
      unfold profOf at h
      cases nar <;> simp at h
    · refine VC.go_loop (fun i : Nat => [B (elRaw nar (l.take i)), .int (i : Int)]) (fun i => i ≤ l.length) (fun i => l.length - i) 0 (by simp [E.eval, elRaw, ofBytes]) (Nat.zero_le _) fun i hi => ?_
      have hlen := raw_take_len (nar := nar) hr i hi
      simp only [VC.H_asrt, VC.H_cond, VC.H_ret, VC.H_back, VC.H_call1, ev_var, ev_int, ev_nil, ev_cons, ev_hd, ev_tl, ev_bin, ev_add, ev_sub', ev_mul, ev_eql, ev_lss, ev_leq, ev_geq, ev_conv, ev_len, ev_idx, ev_app, ev_fits64, ea_nil, ea_cons, env_zero, env_succ, env_cons, env_nil, List.map_cons, List.map_nil, v_int, v_bool, v_ls, pres_nil, decide_eq_true_eq, decide_eq_false_iff_not, forall_const, Int.not_lt, List.length_map, ofBytes_length, List.length_cons, List.length_nil]
      refine ⟨fun hc => ?_, fun hc => ?_⟩
      · have hk : i < l.length := by omega
        have hm := hfit _ (el_mem hk)
        have hm2 := right_mem hr _ (el_mem hk)
        have ht := el_take l i hk
        rw [el_getD l i hk]
        generalize l.getD i El.zero = e at hm ht hm2
        simp only [v_hd, v_tl, v_int, v_ls, ofBytes_length]
        refine ⟨by omega, by omega, fun h1 => ?_, fun h1 => ?_⟩
        · have hnar : nar = true := by
            unfold profOf at h1
            cases nar
            · simp at h1
            · rfl
          subst hnar
          refine ⟨by omega, by omega, by omega, by omega, i + 1, ?_, by omega, by omega⟩
          rw [List.append_assoc, enc_nar hm, ofBytes_append, ht, elRaw_snoc]
          simp
        · have hnar : nar = false := by
            unfold profOf at h1
            cases nar
            · rfl
            · simp at h1
          subst hnar
          refine ⟨by omega, by omega, by omega, i + 1, ?_, by omega, by omega⟩
          rw [List.append_assoc, enc_wide hm2, ofBytes_append, ht, elRaw_snoc]
          simp
      · have hi2 : i = l.length := by omega
        rw [hi2, List.take_length] at hlen ⊢
        refine ⟨_, pc_pad_Fill (elRaw nar l) (by omega), rfl⟩
  · have hp : elProfile l = 0 := if_neg hr
    have hw : elwB l = [] := if_neg hr
    have he : elwE l = 1 := if_neg hr
    rw [hp, hw, he]
    refine ⟨fun _ => rfl, fun h => by simp at h⟩
theorem elRead_take (b : List UInt8) (l : List Sp) (i : Nat) (h : i < l.length) : (l.take (i + 1)).map (elOf b) = (l.take i).map (elOf b) ++ [elOf b (l.getD i Sp.zero)] := by rw [sp_take l i h, List.map_append]; rfl
theorem el_cut (b : List UInt8) (s : Sp) (h : s.pos + s.size ≤ b.length) : C.ls ((List.take ((s.pos : Int) + (s.size : Int)).toNat (ofBytes b)).drop ((s.pos : Int)).toNat) = B (elOf b s).data := by
  rw [← Int.natCast_add, Int.toNat_natCast, Int.toNat_natCast, ofBytes_take, ofBytes_drop]
  unfold elOf
  congr 2
  rw [List.drop_take, Nat.add_sub_cancel_left]
theorem spots_count (q : Nat) (b : List UInt8) : (spots q b).1.length ≤ b.length := by
  have key : ∀ (nar : Bool) (n p : Nat) (out : List Sp), b.length - p ≤ n → out.length ≤ p → p ≤ b.length → (wk nar b p out).1.length ≤ b.length := by
    intro nar n
    induction n with
    | zero => intro p out h1 h2 h3; rw [wk_end (by omega)]; simp only; omega
    | succ n ih =>
      intro p out h1 h2 h3
      by_cases hp : p < b.length
      · by_cases h0 : at_ b p = 0
        · rw [wk_zero hp h0]; exact ih _ _ (by omega) (by omega) (by omega)
        · by_cases hs : nar = true ∧ (at_ b p / 16 = 15 ∨ at_ b p / 16 = 0)
          · rw [wk_stop hp h0 hs]; simp only; omega
          · by_cases hw : nar = false ∧ b.length ≤ p + 1
            · rw [wk_short hp h0 hs hw]; simp
            · by_cases hl : b.length < (spAt nar b p).pos + (spAt nar b p).size
              · rw [wk_long hp h0 hs hw hl]; simp
              · by_cases ht : (spAt nar b p).id ∈ spIds out
                · rw [wk_twice hp h0 hs hw hl ht]; simp
                · rw [wk_step hp h0 hs hw hl ht]
                  have := spAt_far nar b p
                  exact ih _ _ (by omega) (by simp; omega) (by omega)
      · rw [wk_end hp]; simp only; omega
  unfold spots
  split
  · exact key true _ 0 [] (Nat.le_refl _) (Nat.zero_le _) (Nat.zero_le _)
  · split
    · exact key false _ 0 [] (Nat.le_refl _) (Nat.zero_le _) (Nat.zero_le _)
    · simp
theorem pc_elem_Read (q : Nat) (hq : q < 65536) (b : List UInt8) (hb : b.length ≤ 1000000) : PC Try.prog f_elem_Read [(U16, .int (q : Int)), (Byt, B b)] [(.sl ElSh, Els (elRead q b)), (I64, .int (spots q b).2)] := by
  obtain ⟨g1, g2, _⟩ := spots_good q b
  have g3 := spots_count q b
  apply pcv_elem_Read rfl
  simp only [vc_elem_Read, VC.H_cond, VC.H_ret, VC.H_call2, ev_var, ev_int, ev_nilS, ev_neq, ea_nil, ea_cons, env_zero, env_succ, env_cons, env_nil, List.map_cons, List.map_nil, v_int, v_bool, pres_nil, nnE, decide_eq_true_eq, decide_eq_false_iff_not, forall_const]
  refine ⟨_, _, pc_elem_Spots q hq b hb, ?_⟩
  simp only [v_int]
  unfold elRead
  generalize (spots q b).1 = l at g1 g2 g3
  refine ⟨fun h => ?_, fun h => ?_⟩
  · rcases g2 with g2 | ⟨g2, _⟩
    · exact absurd g2 h
    · rw [g2]; rfl
  · rw [h]
    refine VC.go_loop (fun i : Nat => [Els ((l.take i).map (elOf b)), .int (i : Int)]) (fun i => i ≤ l.length) (fun i => l.length - i) 0 rfl (Nat.zero_le _) fun i hi => ?_
    simp only [VC.H_asrt, VC.H_cond, VC.H_ret, VC.H_back, ev_var, ev_int, ev_nil, ev_cons, ev_hd, ev_tl, ev_add, ev_mul, ev_lss, ev_leq, ev_geq, ev_len, ev_idx, ev_sub, ev_app, ev_fits64, ea_nil, ea_cons, env_zero, env_succ, env_cons, env_nil, List.map_cons, List.map_nil, v_int, v_bool, v_ls, pres_nil, decide_eq_true_eq, decide_eq_false_iff_not, forall_const, Int.not_lt, List.length_map, ofBytes_length, List.length_cons, List.length_nil, List.length_take]
    refine ⟨fun hc => ?_, fun hc => ?_⟩
    · have hk : i < l.length := by omega
      have hm := g1 _ (sp_mem hk)
      have ht := elRead_take b l i hk
      rw [sp_getD l i hk]
      generalize l.getD i Sp.zero = s at hm ht
      have hcut := el_cut b s hm
      simp only [v_hd, v_tl, v_int, hcut]
      have hcl := congrArg (fun c : C => c.toList.length) hcut
      simp only [v_ls, ofBytes_length] at hcl
      have hdl : (elOf b s).data.length = s.size := by unfold elOf; simp; omega
      refine ⟨by omega, by omega, by omega, by omega, by omega, by omega, ?_, by omega, by omega, i + 1, ?_, by omega, by omega⟩
      · rw [hcl]; omega
      · rw [ht]
        simp only [Els, List.map_append, List.map_cons, List.map_nil]
        rfl
    · rw [show i = l.length by omega, List.take_length]
def elCanon (q : Nat) (b : List UInt8) : Bool := decide ((spots q b).2 = 0 ∧ elProfile (elRead q b) = q ∧ elBytes (elRead q b) = b)
theorem nodup_lt : ∀ (n : Nat) (l : List Nat), l.Nodup → (∀ x ∈ l, x < n) → l.length ≤ n
  | 0, l, _, h => by
    cases l with
    | nil => exact Nat.le_refl _
    | cons x l => exact absurd (h x (by simp)) (Nat.not_lt_zero x)
  | n + 1, l, hd, h => by
    have ih := nodup_lt n (l.erase n) (hd.erase n) fun x hx => by
      have h1 := (hd.mem_erase_iff).1 hx
      have := h x h1.2
      omega
    rw [List.length_erase] at ih
    split at ih <;> omega
theorem elRead_count (q : Nat) (b : List UInt8) : (elRead q b).length ≤ 256 := by
  obtain ⟨_, _, h⟩ := spots_good q b
  have h1 := (elRight_fits h).2
  have h2 := right_mem h
  have := nodup_lt 256 _ h1 (by
    intro x hx
    obtain ⟨e, he, rfl⟩ := List.mem_map.1 hx
    have := h2 e he
    omega)
  simpa using this
end Go.Vc
