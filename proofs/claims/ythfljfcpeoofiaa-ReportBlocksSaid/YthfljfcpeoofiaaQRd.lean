/-
  The contracts of the functions of report's reference, each out of its condition.
-/
import Derived.Test.YthfljfcpeoofiaaQRc
set_option maxRecDepth 100000
namespace Go.Vc
open Go Go.Proofs Go.Plain
theorem pc_crossbarref05_Num (b : List UInt8) (i n : Nat) (hi : i + n ≤ b.length) (hn : 1 ≤ n ∧ n ≤ 4) (hb : b.length ≤ 9223372036854775807) : PC Try.prog f_crossbarref05_Num [(Byt, B b), (I64, .int i), (I64, .int n)] [(U32, .int (num b i n))] := by
  apply pcv_crossbarref05_Num rfl
  simp only [vc_crossbarref05_Num, VC.H_ret, VC.H_call2, ev_var, ev_conv, ea_nil, ea_cons, env_zero, env_succ, env_cons, env_nil, List.map_cons, List.map_nil, pres_nil, forall_const]
  refine ⟨_, _, pc_crossbarref01_Get b i n hb, ?_⟩
  have e : getE b.length i n = 0 := by rw [getE_zero]; omega
  have hl : num b i n < 4294967296 := Nat.lt_of_lt_of_le (num_lt b i n) (Nat.le_trans (Nat.pow_le_pow_right (by decide) hn.2) (by decide))
  have e2 : getV b i n = num b i n := by rw [getV, if_pos e]; rfl
  rw [v_int, e2, wrapu32]
  congr 3
  omega
theorem pn_crossbarref01_Put (v : Nat) (n : Int) (h1 : v < 18446744073709551616) :
    PC Try.prog n_crossbarref01_Put [(U64, .int v), (I64, .int n)] [(Byt, B (putB v n)), (I64, .int (putE v n))] := by
  apply pcn_crossbarref01_Put rfl
  simp only [vn_crossbarref01_Put, VC.H_asrt, VC.H_cond, VC.H_ret, ev_var, ev_int, ev_bool, ev_nilS, ev_mul, ev_lss, ev_leq, ev_gtr, ev_geq, ev_ite, ea_nil, ea_cons, env_zero, env_succ, List.map_cons, List.map_nil, v_int, v_bool, bool_ite, pres_nil, orT, orF, decide_eq_true_eq, decide_eq_false_iff_not, forall_const, Int.not_lt]
  refine ⟨fun hc => ?_, fun hc => ⟨by omega, by omega, by omega, ?_⟩⟩
  · have e : putE v n = 1 := by rw [putE, if_pos (by omega)]
    simp [putB, e]
  · obtain ⟨m, rfl⟩ : ∃ m : Nat, n = m := ⟨n.toNat, by omega⟩
    refine VC.go_loop (fun j : Nat => [.int ((v / 256 ^ j : Nat) : Int), .int j, Go.Vc.B (List.replicate (m - j) 0 ++ toBE j v)]) (fun j => j ≤ m) (fun j => m - j) 0 ?_ (Nat.zero_le _) fun j hj => ?_
    · simp only [ev_var, ev_int, ev_rep, env_zero, env_succ, List.map_cons, List.map_nil, v_int]
      simp [toBE, ofBytes_rep]
    · simp only [VC.H_asrt, VC.H_cond, VC.H_ret, VC.H_back, ev_var, ev_int, ev_nilS, ev_bin, ev_add, ev_sub', ev_lss, ev_gtr, ev_geq, ev_conv, ev_set, ev_fits64, ea_nil, ea_cons, env_zero, env_succ, env_cons, env_nil, List.map_cons, List.map_nil, v_int, v_bool, v_ls, pres_nil, decide_eq_true_eq, decide_eq_false_iff_not, forall_const, Int.not_lt]
      refine ⟨fun hc => ⟨by omega, by omega, by omega, by omega, by omega, j + 1, ?_, by omega, by omega⟩, fun hc => ?_⟩
      · have e1 : ((m : Int) - 1 - j).toNat = m - 1 - j := by omega
        have e2 : arith .quo .u64 ((v / 256 ^ j : Nat) : Int) 256 = ((v / 256 ^ (j + 1) : Nat) : Int) := by
          have hq : v / 256 ^ j ≤ v := Nat.div_le_self _ _
          rw [Nat.pow_succ, ← Nat.div_div_eq_div_mul]
          generalize v / 256 ^ j = q at hq
          rw [arith_quo _ _ _ (by omega), wrapu64]
          omega
        have e3 : arith .rem .u64 ((v / 256 ^ j : Nat) : Int) 256 = ((v / 256 ^ j % 256 : Nat) : Int) := by
          generalize v / 256 ^ j = q
          rw [arith_rem _ _ _ (by omega)]
          omega
        have e4 : UInt8.ofNat (v / 256 ^ j % 256) = UInt8.ofNat (v / 256 ^ j) := by
          apply UInt8.toNat_inj.1
          simp
        rw [e1, e2, e3, byte_of, ofBytes_set', rep_set m j (by omega), e4, ← toBE_cons]
        simp
      · have : j = m := by omega
        subst this
        refine ⟨fun hp => ?_, fun hp => ?_⟩
        · have e : putE v j = 6 := by
            rw [putE, if_neg (by omega), if_neg]
            intro h
            rw [Int.toNat_natCast] at h
            rw [Nat.div_eq_of_lt h] at hp
            omega
          simp [putB, e]
        · have e : putE v j = 0 := by
            rw [putE_zero]
            refine ⟨by omega, by omega, Nat.lt_of_not_le fun hle => ?_⟩
            have := Nat.div_pos hle (Nat.pow_pos (by decide))
            rw [Int.toNat_natCast] at this
            omega
          simp [putB, e]
theorem pn_crossbarref01_Must (v : Nat) (n : Nat) (hv : v < 256 ^ n) (hn : 1 ≤ n ∧ n ≤ 8) (h1 : v < 18446744073709551616) :
    PC Try.prog n_crossbarref01_Must [(U64, .int v), (I64, .int n)] [(Byt, B (toBE n v))] := by
  apply pcn_crossbarref01_Must rfl
  have e : putE v n = 0 := by rw [putE_zero]; refine ⟨by omega, by omega, by simpa using hv⟩
  have e2 : putB v n = toBE n v := by rw [putB, if_pos e]; rfl
  simp only [vn_crossbarref01_Must, VC.H_ret, VC.H_call2, ev_var, ea_nil, ea_cons, env_zero, env_succ, env_cons, env_nil, List.map_cons, List.map_nil, pres_nil, forall_const]
  refine ⟨_, _, pn_crossbarref01_Put v n h1, ?_⟩
  rw [e2]
theorem pc_crossbarref12_Short (r : Rp) : PC Try.prog f_crossbarref12_Short [(RpSh, RpC r)] [(.bool, .bool (decide (r.blocks.length ≤ 99 ∧ r.more.length ≤ 70000)))] := by
  apply pcv_crossbarref12_Short rfl
  simp only [vc_crossbarref12_Short, VC.H_ret, ev_var, ev_int, ev_bool, ev_hd, ev_tl, ev_leq, ev_ite, ev_len, ea_nil, ea_cons, env_zero, List.map_cons, List.map_nil, v_int, v_bool, v_ls, v_hd, v_tl, bool_ite, decide_eq_true_eq, List.length_map, ofBytes_length]
  congr 3
  apply Bool.eq_iff_iff.2
  simp only [andT, decide_eq_true_eq]
  omega
theorem pc_crossbarref12_Right (r : Rp) (hm : r.more.length ≤ 140737488355328) : PC Try.prog f_crossbarref12_Right [(RpSh, RpC r)] [(.bool, .bool (decide r.right))] := by
  apply pcv_crossbarref12_Right rfl
  simp only [vc_crossbarref12_Right, VC.H_cond, VC.H_ret, ev_var, ev_int, ev_bool, ev_hd, ev_tl, ev_bin, ev_neq, ev_gtr, ev_ite, ev_len, ea_nil, ea_cons, env_zero, List.map_cons, List.map_nil, v_int, v_bool, v_ls, v_hd, v_tl, bool_ite, orT, orF, decide_eq_true_eq, decide_eq_false_iff_not, Int.not_lt, List.length_map, ofBytes_length, mod4 _ (show r.more.length < 9223372036854775807 by omega)]
  refine ⟨fun hc => ?_, fun hc => ?_⟩
  · have : ¬ r.right := fun hr => by have := hr.1; have := hr.2.1; have := hr.2.2.2.2; omega
    simp [this]
  · refine VC.go_loop (fun i : Nat => [.bool false, .int i]) (fun i => i ≤ r.blocks.length ∧ ∀ b ∈ r.blocks.take i, b.fits) (fun i => r.blocks.length - i) 0 rfl ⟨Nat.zero_le _, by simp⟩ fun i hi => ?_
    simp only [VC.H_asrt, VC.H_cond, VC.H_ret, VC.H_back, ev_var, ev_int, ev_bool, ev_nil, ev_cons, ev_hd, ev_tl, ev_add, ev_mul, ev_lss, ev_leq, ev_gtr, ev_geq, ev_not, ev_ite, ev_len, ev_idx, ev_deq, ev_fits64, ea_nil, ea_cons, env_zero, env_succ, env_cons, env_nil, List.map_cons, List.map_nil, v_int, v_bool, v_ls, v_hd, v_tl, bool_ite, pres_nil, pres_cons, orT, orF, notT, notF, decide_eq_true_eq, decide_eq_false_iff_not, forall_const, and_true, Int.not_lt, List.length_map, ofBytes_length]
    refine ⟨fun hl => ⟨by omega, by omega, fun _ => by omega, fun _ => by omega, ?_⟩, fun hl => ?_⟩
    · rw [Int.toNat_natCast, bk_getD _ _ (by omega)]
      simp only [v_hd, v_tl, v_int]
      have hmem := bk_mem (l := r.blocks) (i := i) (by omega)
      refine ⟨fun hbad => ?_, fun hgood => ⟨by omega, i + 1, by simp, ⟨by omega, take_fits (by omega) hi.2 (by unfold Bk.fits; omega)⟩, by omega⟩⟩
      have : ¬ r.right := right_loop ⟨_, hmem, by unfold Bk.fits; omega⟩
      simp [this]
    · have hall : ∀ b ∈ r.blocks, b.fits := by
        have := hi.2
        rwa [List.take_of_length_le (by omega)] at this
      have e0 : C.ls [C.int 0, C.int 0, C.int 0, C.int 0] = SndC Snd.zero := rfl
      rw [e0, snd_deq]
      have fin : ∀ n : Nat, n = rpSize r.sends r.blocks.length + r.more.length → (r.sends = true ∨ r.snd = Snd.zero) → decide ((n : Int) ≤ 65528) = decide r.right := by
        intro n hn hs'
        by_cases hle : n ≤ 65528
        · have hr : r.right := ⟨by omega, by omega, hall, hs', by omega⟩
          simp only [hr, decide_true, decide_eq_true_eq]
          omega
        · have hr : ¬ r.right := fun hr => hle (by have := hr.2.2.2.2; omega)
          simp only [hr, decide_false, decide_eq_false_iff_not]
          omega
      refine ⟨by omega, by omega, by omega, fun hs => ⟨by omega, ?_⟩, fun hs => ⟨fun hz => ?_, fun hz => ?_⟩⟩
      · rw [← fin (4 + 24 * r.blocks.length + r.more.length + 20) (by rw [hs]; simp [rpSize]; omega) (.inl hs)]
        simp
      · have : ¬ r.right := fun hr => by
          rcases hr.2.2.2.1 with h | h
          · rw [hs] at h; cases h
          · simp [h] at hz
        simp [this]
      · have hz' : r.snd = Snd.zero := by simpa using hz
        rw [← fin (4 + 24 * r.blocks.length + r.more.length) (by rw [hs]; simp [rpSize]) (.inr hz')]
        simp
theorem pc_crossbarref12_Same (a b : Rp) (ha : a.blocks.length ≤ 9223372036854775806) : PC Try.prog f_crossbarref12_Same [(RpSh, RpC a), (RpSh, RpC b)] [(.bool, .bool (decide (a = b)))] := by
  apply pcv_crossbarref12_Same rfl
  simp only [vc_crossbarref12_Same, VC.H_cond, VC.H_ret, ev_var, ev_bool, ev_nil, ev_cons, ev_hd, ev_tl, ev_neq, ev_sneq, ev_beq, ev_not, ev_ite, ev_len, ev_toStr, ev_deq, ea_nil, ea_cons, env_zero, env_succ, List.map_cons, List.map_nil, v_int, v_bool, v_str, v_ls, v_hd, v_tl, bool_ite, orT, orF, notT, nnE, decide_eq_true_eq, decide_eq_false_iff_not, List.length_map, bytesOf_ofBytes]
  rw [snd_deq]
  refine ⟨fun hc => ?_, fun hc => ?_⟩
  · have : a ≠ b := by
      rintro rfl
      simp at hc
    simp [this]
  · obtain ⟨hc1, h5⟩ := hc
    have h1 : (a.ssrc : Int) = b.ssrc := Classical.byContradiction fun h => hc1 (.inl (.inl (.inl h)))
    have h2 : a.sends = b.sends := Classical.byContradiction fun h => hc1 (.inl (.inl (.inr h)))
    have h3 : a.snd = b.snd := Classical.byContradiction fun h => hc1 (.inl (.inr (by simp [h])))
    have h4 : (a.blocks.length : Int) = b.blocks.length := Classical.byContradiction fun h => hc1 (.inr h)
    have hl : a.blocks.length = b.blocks.length := by omega
    refine VC.go_loop (fun i : Nat => [.bool false, .int i]) (fun i => i ≤ a.blocks.length ∧ a.blocks.take i = b.blocks.take i) (fun i => a.blocks.length - i) 0 rfl ⟨Nat.zero_le _, rfl⟩ fun i hi => ?_
    simp only [VC.H_asrt, VC.H_cond, VC.H_ret, VC.H_back, ev_var, ev_int, ev_bool, ev_hd, ev_tl, ev_add, ev_lss, ev_geq, ev_not, ev_len, ev_idx, ev_deq, ev_fits64, ea_nil, ea_cons, env_zero, env_succ, env_cons, env_nil, List.map_cons, List.map_nil, v_int, v_bool, v_ls, v_hd, v_tl, pres_nil, notT, notF, decide_eq_true_eq, decide_eq_false_iff_not, forall_const, Int.not_lt, List.length_map]
    refine ⟨fun hc => ⟨by omega, by omega, by omega, by omega, ?_⟩, fun hc => ?_⟩
    · rw [Int.toNat_natCast, bk_getD _ _ (by omega), bk_getD _ _ (by omega), bk_deq]
      refine ⟨fun hn => ?_, fun hn => ⟨by omega, i + 1, by simp, ⟨by omega, ?_⟩, by omega⟩⟩
      · have : a ≠ b := by
          rintro rfl
          simp at hn
        simp [this]
      · have hn : a.blocks.getD i ⟨0, 0, 0, 0, 0, 0, 0⟩ = b.blocks.getD i ⟨0, 0, 0, 0, 0, 0, 0⟩ := by simpa using hn
        rw [List.take_succ_eq_append_getElem (by omega), List.take_succ_eq_append_getElem (by omega), hi.2]
        simp [List.getD, show i < a.blocks.length by omega, show i < b.blocks.length by omega] at hn
        rw [hn]
    · have h6 := hi.2
      rw [List.take_of_length_le (by omega), List.take_of_length_le (by omega)] at h6
      have : a = b := by
        obtain ⟨a1, a2, a3, a4, a5⟩ := a
        obtain ⟨b1, b2, b3, b4, b5⟩ := b
        simp only at h1 h2 h3 h5 h6
        simp only [Rp.mk.injEq]
        exact ⟨by omega, h2, h3, h6, h5⟩
      simp [this]
theorem pc_crossbarref12_Write (r : Rp) (hr : r.right) (ho : r.ok) : PC Try.prog f_crossbarref12_Write [(RpSh, RpC r)] [(Byt, B r.bytes)] := by
  apply pcv_crossbarref12_Write rfl
  simp only [vc_crossbarref12_Write, VC.H_asrt, VC.H_cond, VC.H_call1, ev_var, ev_int, ev_hd, ev_tl, ev_add, ev_mul, ev_leq, ev_conv, ev_len, ea_nil, ea_cons, env_zero, env_succ, env_cons, env_nil, List.map_cons, List.map_nil, v_int, v_bool, v_hd, v_tl, pres_nil, decide_eq_true_eq, forall_const]
  obtain ⟨o1, ⟨o2, o3, o4, o5⟩, o6⟩ := ho
  have := hr; obtain ⟨r1, r2, r3, r4, r5⟩ := this
  have hfl := r.front_length
  rw [u64_of _ o1, u64_of _ o3, u64_of _ o4, u64_of _ o5]
  refine ⟨_, pn_crossbarref01_Must r.ssrc 4 (by omega) (by omega) (by omega), ?_⟩
  refine ⟨fun hs => ?_, fun hs => ?_⟩
  · refine ⟨_, pn_crossbarref01_Must r.snd.ntp 8 (by omega) (by omega) o2, by simp, _, pn_crossbarref01_Must r.snd.time 4 (by omega) (by omega) (by omega), by simp, _, pn_crossbarref01_Must r.snd.pk 4 (by omega) (by omega) (by omega), by simp, _, pn_crossbarref01_Must r.snd.oct 4 (by omega) (by omega) (by omega), by simp, ?_⟩
    have hfr : r.front = toBE 4 r.ssrc ++ toBE 8 r.snd.ntp ++ toBE 4 r.snd.time ++ toBE 4 r.snd.pk ++ toBE 4 r.snd.oct := by simp [Rp.front, hs, Snd.bytes]
    refine VC.go_loop (fun i : Nat => [B (r.front ++ blocksB (r.blocks.take i)), .int i]) (fun i => i ≤ r.blocks.length) (fun i => r.blocks.length - i) 0 ?_ (Nat.zero_le _) fun i hi => ?_
    · rw [hfr]
      simp only [ev_var, ev_int, ev_app, env_zero, env_succ, List.map_cons, List.map_nil, v_ls]
      simp [blocksB, ofBytes]
    · have hbl := blocksB_length (r.blocks.take i)
      rw [List.length_take] at hbl
      have hh : rpHead r.sends ≤ 24 := by unfold rpHead; split <;> omega
      have hfl' : (r.front ++ blocksB (r.blocks.take i)).length ≤ 1000 := by rw [List.length_append]; omega
      simp only [VC.H_asrt, VC.H_cond, VC.H_ret, VC.H_back, VC.H_call1, VC.H_call2, ev_var, ev_int, ev_nil, ev_cons, ev_hd, ev_tl, ev_add, ev_mul, ev_lss, ev_leq, ev_geq, ev_conv, ev_len, ev_idx, ev_app, ev_fits64, ea_nil, ea_cons, env_zero, env_succ, env_cons, env_nil, List.map_cons, List.map_nil, v_int, v_bool, v_ls, v_hd, v_tl, pres_nil, decide_eq_true_eq, decide_eq_false_iff_not, forall_const, Int.not_lt, List.length_map, ofBytes_length]
      refine ⟨fun hc => ⟨by omega, by omega, ?_⟩, fun hc => ?_⟩
      · rw [Int.toNat_natCast, bk_getD _ _ (by omega)]
        have hmem := bk_mem (l := r.blocks) (i := i) (by omega)
        obtain ⟨b1, b2, b3, b4, b5, b6, b7⟩ := o6 _ hmem
        have bf := r3 _ hmem
        have hsn := blocksB_snoc r.blocks i (by omega)
        generalize r.blocks.getD i ⟨0, 0, 0, 0, 0, 0, 0⟩ = b at hmem b1 b2 b3 b4 b5 b6 b7 bf hsn
        simp only [v_hd, v_tl, v_int]
        rw [u64_of _ b1, u64_of _ b4, u64_of _ b5, u64_of _ b6, u64_of _ b7, wrapi64_in (by omega), frac_one _ b2]
        refine ⟨_, _, pc_crossbarref01_PutSigned b.lost 3 (by omega), _, pn_crossbarref01_Must b.ssrc 4 (by omega) (by omega) (by omega), ?_⟩
        rw [ps3 _ bf]
        simp only [v_ls, ofBytes_length, toBE_length]
        refine ⟨by omega, by simp; omega, by omega, _, pn_crossbarref01_Must b.high 4 (by omega) (by omega) (by omega), ?_⟩
        simp only [v_ls, ofBytes_length, toBE_length]
        refine ⟨by omega, _, pn_crossbarref01_Must b.jit 4 (by omega) (by omega) (by omega), ?_⟩
        simp only [v_ls, ofBytes_length, toBE_length]
        refine ⟨by omega, _, pn_crossbarref01_Must b.last 4 (by omega) (by omega) (by omega), ?_⟩
        simp only [v_ls, ofBytes_length, toBE_length]
        refine ⟨by omega, _, pn_crossbarref01_Must b.delay 4 (by omega) (by omega) (by omega), ?_⟩
        simp only [v_ls, ofBytes_length, toBE_length]
        refine ⟨by omega, by omega, i + 1, ?_, by omega, by omega⟩
        rw [hsn]
        simp [Bk.bytes, ofBytes]
      · rw [List.take_of_length_le (by omega)] at hfl' ⊢
        refine ⟨by omega, ?_⟩
        rw [r.bytes_eq, ofBytes_append]
        simp
  · have hfr : r.front = toBE 4 r.ssrc := by simp [Rp.front, hs]
    refine VC.go_loop (fun i : Nat => [B (r.front ++ blocksB (r.blocks.take i)), .int i]) (fun i => i ≤ r.blocks.length) (fun i => r.blocks.length - i) 0 ?_ (Nat.zero_le _) fun i hi => ?_
    · rw [hfr]
      simp only [ev_var, ev_int, env_zero, env_succ, List.map_cons, List.map_nil]
      simp [blocksB]
    · have hbl := blocksB_length (r.blocks.take i)
      rw [List.length_take] at hbl
      have hh : rpHead r.sends ≤ 24 := by unfold rpHead; split <;> omega
      have hfl' : (r.front ++ blocksB (r.blocks.take i)).length ≤ 1000 := by rw [List.length_append]; omega
      simp only [VC.H_asrt, VC.H_cond, VC.H_ret, VC.H_back, VC.H_call1, VC.H_call2, ev_var, ev_int, ev_nil, ev_cons, ev_hd, ev_tl, ev_add, ev_mul, ev_lss, ev_leq, ev_geq, ev_conv, ev_len, ev_idx, ev_app, ev_fits64, ea_nil, ea_cons, env_zero, env_succ, env_cons, env_nil, List.map_cons, List.map_nil, v_int, v_bool, v_ls, v_hd, v_tl, pres_nil, decide_eq_true_eq, decide_eq_false_iff_not, forall_const, Int.not_lt, List.length_map, ofBytes_length]
      refine ⟨fun hc => ⟨by omega, by omega, ?_⟩, fun hc => ?_⟩
      · rw [Int.toNat_natCast, bk_getD _ _ (by omega)]
        have hmem := bk_mem (l := r.blocks) (i := i) (by omega)
        obtain ⟨b1, b2, b3, b4, b5, b6, b7⟩ := o6 _ hmem
        have bf := r3 _ hmem
        have hsn := blocksB_snoc r.blocks i (by omega)
        generalize r.blocks.getD i ⟨0, 0, 0, 0, 0, 0, 0⟩ = b at hmem b1 b2 b3 b4 b5 b6 b7 bf hsn
        simp only [v_hd, v_tl, v_int]
        rw [u64_of _ b1, u64_of _ b4, u64_of _ b5, u64_of _ b6, u64_of _ b7, wrapi64_in (by omega), frac_one _ b2]
        refine ⟨_, _, pc_crossbarref01_PutSigned b.lost 3 (by omega), _, pn_crossbarref01_Must b.ssrc 4 (by omega) (by omega) (by omega), ?_⟩
        rw [ps3 _ bf]
        simp only [v_ls, ofBytes_length, toBE_length]
        refine ⟨by omega, by simp; omega, by omega, _, pn_crossbarref01_Must b.high 4 (by omega) (by omega) (by omega), ?_⟩
        simp only [v_ls, ofBytes_length, toBE_length]
        refine ⟨by omega, _, pn_crossbarref01_Must b.jit 4 (by omega) (by omega) (by omega), ?_⟩
        simp only [v_ls, ofBytes_length, toBE_length]
        refine ⟨by omega, _, pn_crossbarref01_Must b.last 4 (by omega) (by omega) (by omega), ?_⟩
        simp only [v_ls, ofBytes_length, toBE_length]
        refine ⟨by omega, _, pn_crossbarref01_Must b.delay 4 (by omega) (by omega) (by omega), ?_⟩
        simp only [v_ls, ofBytes_length, toBE_length]
        refine ⟨by omega, by omega, i + 1, ?_, by omega, by omega⟩
        rw [hsn]
        simp [Bk.bytes, ofBytes]
      · rw [List.take_of_length_le (by omega)] at hfl' ⊢
        refine ⟨by omega, ?_⟩
        rw [r.bytes_eq, ofBytes_append]
        simp
theorem pc_crossbarref12_Read (s : Bool) (count : Int) (b : List UInt8) (hb : b.length ≤ 140737488355328) : PC Try.prog f_crossbarref12_Read [(.bool, .bool s), (I64, .int count), (Byt, B b)] [(RpSh, RpC (rpR s count b)), (I64, .int (rpE s count b))] := by
  apply pcv_crossbarref12_Read rfl
  simp only [vc_crossbarref12_Read, VC.H_asrt, VC.H_cond, VC.H_ret, VC.H_call1, VC.H_call2, ev_var, ev_int, ev_bool, ev_nil, ev_nilS, ev_cons, ev_bin, ev_add, ev_mul, ev_neq, ev_lss, ev_gtr, ev_ite, ev_len, ev_fits64, ea_nil, ea_cons, env_zero, env_succ, env_cons, env_nil, List.map_cons, List.map_nil, v_int, v_bool, v_ls, int_ite, bool_ite, pres_nil, orT, orF, nnE, decide_eq_true_eq, decide_eq_false_iff_not, forall_const, Int.not_lt, ofBytes_length, mod4 _ (show b.length < 9223372036854775807 by omega)]
  have hif : (if s = true then (24 : Int) else 4) = (rpHead s : Int) := by cases s <;> rfl
  rw [hif]
  have h4 : 4 ≤ rpHead s ∧ rpHead s ≤ 24 := by unfold rpHead; split <;> omega
  refine ⟨fun hc => ?_, fun hc => ⟨fun hl => ?_, fun hl => ⟨by omega, by omega, ?_⟩⟩⟩
  · have e : rpE s count b = 1 := by unfold rpE; rw [if_pos (by omega)]
    rw [rp_bad e (by decide), e]
  · have e : rpE s count b = 4 := by unfold rpE; rw [if_neg (by omega), if_pos (by omega)]
    rw [rp_bad e (by decide), e]
  · obtain ⟨n, rfl⟩ : ∃ n : Nat, count = n := ⟨count.toNat, by omega⟩
    have hh := rpHead_size s n
    refine ⟨fun hs => ?_, fun hs => ?_⟩
    · have e : rpE s n b = 2 := by unfold rpE; rw [if_neg (by omega), if_neg (by omega), if_pos (by rw [Int.toNat_natCast]; omega)]
      rw [rp_bad e (by decide), e]
    · have e : rpE s n b = 0 := by rw [rpE_zero, Int.toNat_natCast]; omega
      refine ⟨_, pc_crossbarref05_Num b 0 4 (by omega) (by omega) (by omega), fun hsd => ?_, fun hsd => ?_⟩
      · subst hsd
        have h24 : rpHead true = 24 := rfl
        rw [h24] at hh
        have g1 : getE b.length 4 8 = 0 := by rw [getE_zero]; omega
        have g2 : getV b 4 8 = num b 4 8 := by rw [getV, if_pos g1]; rfl
        refine ⟨_, _, pc_crossbarref01_Get b 4 8 (by omega), _, pc_crossbarref05_Num b 12 4 (by omega) (by omega) (by omega), _, pc_crossbarref05_Num b 16 4 (by omega) (by omega) (by omega), _, pc_crossbarref05_Num b 20 4 (by omega) (by omega) (by omega), ?_⟩
        rw [g2]
        refine VC.go_loop (fun i : Nat => [.int ((24 + 24 * i : Nat) : Int), .int i, .ls (((List.range i).map fun j => Bk.of b (24 + 24 * j)).map BkC)]) (fun i => i ≤ n) (fun i => n - i) 0 rfl (Nat.zero_le _) fun i hi => ?_
        have e4 : (((24 + 24 * i : Nat) : Int) + 4).toNat = (24 + 24 * i) + 4 := by omega
        simp only [VC.H_asrt, VC.H_cond, VC.H_ret, VC.H_back, VC.H_call1, VC.H_call2, ev_var, ev_int, ev_nil, ev_cons, ev_add, ev_mul, ev_lss, ev_leq, ev_geq, ev_conv, ev_len, ev_idx, ev_sub, ev_app, ev_fits64, ea_nil, ea_cons, env_zero, env_succ, env_cons, env_nil, List.map_cons, List.map_nil, v_int, v_bool, v_ls, pres_nil, decide_eq_true_eq, decide_eq_false_iff_not, forall_const, Int.not_lt, ofBytes_length, List.length_map, List.length_range, e4, ofBytes_getD]
        refine ⟨fun hc => ?_, fun hc => ?_⟩
        · have s1 : getE b.length (((24 + 24 * i : Nat) : Int) + 5) 3 = 0 := by rw [getE_zero]; omega
          have hl := num_lt b ((24 + 24 * i) + 5) 3
          have s2 : getV b (((24 + 24 * i : Nat) : Int) + 5) 3 = num b ((24 + 24 * i) + 5) 3 := by
            rw [getV, if_pos s1]
            have : (((24 + 24 * i : Nat) : Int) + 5).toNat = (24 + 24 * i) + 5 := by omega
            simp only [cut, num, this]
            rfl
          have s3 : sgnV b (((24 + 24 * i : Nat) : Int) + 5) 3 = sgn 3 (num b ((24 + 24 * i) + 5) 3) := by rw [sgnV, if_pos s1, s2]; rfl
          have g3 := sgn3_back (num b ((24 + 24 * i) + 5) 3) (by simpa using hl)
          refine ⟨by omega, _, _, pc_crossbarref01_Signed b _ 3 (by omega), _, pc_crossbarref05_Num b (24 + 24 * i) 4 (by omega) (by omega) (by omega), by omega, by omega, by omega, by omega, _, pc_crossbarref05_Num b ((24 + 24 * i) + 8) 4 (by omega) (by omega) (by omega), by omega, _, pc_crossbarref05_Num b ((24 + 24 * i) + 12) 4 (by omega) (by omega) (by omega), by omega, _, pc_crossbarref05_Num b ((24 + 24 * i) + 16) 4 (by omega) (by omega) (by omega), by omega, _, pc_crossbarref05_Num b ((24 + 24 * i) + 20) 4 (by omega) (by omega) (by omega), by simp; omega, by omega, by omega, i + 1, ?_, by omega, by omega⟩
          rw [bks_snoc, s3, v_int, wrapi32_in (by omega)]
          rfl
        · have hin : i = n := by omega
          subst hin
          have e5 : List.drop ((24 + 24 * i : Nat) : Int).toNat (List.take ((b.length : Nat) : Int).toNat (ofBytes b)) = ofBytes (b.drop (24 + 24 * i)) := by
            rw [Int.toNat_natCast, Int.toNat_natCast, ofBytes_take, List.take_length, ofBytes_drop]
          rw [e5, rpR, if_pos e, e]
          simp only [ofBytes_length]
          refine ⟨by omega, by omega, by omega, by rw [List.length_drop]; omega, ?_⟩
          simp [Rp.of, h24, Snd.of]
      · subst hsd
        have h24 : rpHead false = 4 := rfl
        rw [h24] at hh
        refine VC.go_loop (fun i : Nat => [.int ((4 + 24 * i : Nat) : Int), .int i, .ls (((List.range i).map fun j => Bk.of b (4 + 24 * j)).map BkC)]) (fun i => i ≤ n) (fun i => n - i) 0 rfl (Nat.zero_le _) fun i hi => ?_
        have e4 : (((4 + 24 * i : Nat) : Int) + 4).toNat = (4 + 24 * i) + 4 := by omega
        simp only [VC.H_asrt, VC.H_cond, VC.H_ret, VC.H_back, VC.H_call1, VC.H_call2, ev_var, ev_int, ev_nil, ev_cons, ev_add, ev_mul, ev_lss, ev_leq, ev_geq, ev_conv, ev_len, ev_idx, ev_sub, ev_app, ev_fits64, ea_nil, ea_cons, env_zero, env_succ, env_cons, env_nil, List.map_cons, List.map_nil, v_int, v_bool, v_ls, pres_nil, decide_eq_true_eq, decide_eq_false_iff_not, forall_const, Int.not_lt, ofBytes_length, List.length_map, List.length_range, e4, ofBytes_getD]
        refine ⟨fun hc => ?_, fun hc => ?_⟩
        · have s1 : getE b.length (((4 + 24 * i : Nat) : Int) + 5) 3 = 0 := by rw [getE_zero]; omega
          have hl := num_lt b ((4 + 24 * i) + 5) 3
          have s2 : getV b (((4 + 24 * i : Nat) : Int) + 5) 3 = num b ((4 + 24 * i) + 5) 3 := by
            rw [getV, if_pos s1]
            have : (((4 + 24 * i : Nat) : Int) + 5).toNat = (4 + 24 * i) + 5 := by omega
            simp only [cut, num, this]
            rfl
          have s3 : sgnV b (((4 + 24 * i : Nat) : Int) + 5) 3 = sgn 3 (num b ((4 + 24 * i) + 5) 3) := by rw [sgnV, if_pos s1, s2]; rfl
          have g3 := sgn3_back (num b ((4 + 24 * i) + 5) 3) (by simpa using hl)
          refine ⟨by omega, _, _, pc_crossbarref01_Signed b _ 3 (by omega), _, pc_crossbarref05_Num b (4 + 24 * i) 4 (by omega) (by omega) (by omega), by omega, by omega, by omega, by omega, _, pc_crossbarref05_Num b ((4 + 24 * i) + 8) 4 (by omega) (by omega) (by omega), by omega, _, pc_crossbarref05_Num b ((4 + 24 * i) + 12) 4 (by omega) (by omega) (by omega), by omega, _, pc_crossbarref05_Num b ((4 + 24 * i) + 16) 4 (by omega) (by omega) (by omega), by omega, _, pc_crossbarref05_Num b ((4 + 24 * i) + 20) 4 (by omega) (by omega) (by omega), by simp; omega, by omega, by omega, i + 1, ?_, by omega, by omega⟩
          rw [bks_snoc, s3, v_int, wrapi32_in (by omega)]
          rfl
        · have hin : i = n := by omega
          subst hin
          have e5 : List.drop ((4 + 24 * i : Nat) : Int).toNat (List.take ((b.length : Nat) : Int).toNat (ofBytes b)) = ofBytes (b.drop (4 + 24 * i)) := by
            rw [Int.toNat_natCast, Int.toNat_natCast, ofBytes_take, List.take_length, ofBytes_drop]
          rw [e5, rpR, if_pos e, e]
          simp only [ofBytes_length]
          refine ⟨by omega, by omega, by omega, by rw [List.length_drop]; omega, ?_⟩
          simp [Rp.of, h24, Snd.zero]
end Go.Vc
