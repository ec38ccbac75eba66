/-
  The contracts of the functions of report and of its reference, each out of its condition.
-/
import Derived.Test.YthfljfcpeoofiaaQVr
import Derived.Test.YthfljfcpeoofiaaQOc
import Derived.Test.YthfljfcpeoofiaaQBase3
set_option maxRecDepth 100000
namespace Go.Vc
open Go Go.Proofs Go.Plain
abbrev U8 : Sh := .int .u8
abbrev U32 : Sh := .int .u32
abbrev SndSh : Sh := .pair U64 (.pair U32 (.pair U32 (.pair U32 .unit)))
abbrev BkSh : Sh := .pair U32 (.pair U8 (.pair (.int .i32) (.pair U32 (.pair U32 (.pair U32 (.pair U32 .unit))))))
abbrev RpSh : Sh := .pair U32 (.pair .bool (.pair SndSh (.pair (.sl BkSh) (.pair Byt .unit))))
abbrev SndC (s : Snd) : C := .ls [.int s.ntp, .int s.time, .int s.pk, .int s.oct]
abbrev BkC (b : Bk) : C := .ls [.int b.ssrc, .int b.frac, .int b.lost, .int b.high, .int b.jit, .int b.last, .int b.delay]
abbrev RpC (r : Rp) : C := .ls [.int r.ssrc, .bool r.sends, SndC r.snd, .ls (r.blocks.map BkC), B r.more]
theorem bk_getD (l : List Bk) (i : Nat) (h : i < l.length) : (l.map BkC).getD i default = BkC (l.getD i ⟨0, 0, 0, 0, 0, 0, 0⟩) := by
  simp [List.getD, h]
theorem bk_mem {l : List Bk} {i : Nat} (h : i < l.length) : l.getD i ⟨0, 0, 0, 0, 0, 0, 0⟩ ∈ l := by
  simp [List.getD, h]
theorem pc_report_sizeOf (s : Bool) (n : Nat) (h : n ≤ 1000000) : PC Try.prog f_report_sizeOf [(.bool, .bool s), (I64, .int n)] [(I64, .int (rpSize s n))] := by
  apply pcv_report_sizeOf rfl
  simp only [vc_report_sizeOf, VC.H_asrt, VC.H_ret, ev_var, ev_int, ev_add, ev_mul, ev_ite, ev_fits64, ea_nil, ea_cons, env_zero, env_succ, List.map_cons, List.map_nil, v_int, v_bool, int_ite, pres_nil, pres_cons, decide_eq_true_eq, forall_const, and_true]
  refine ⟨by omega, by omega, fun _ => by omega, ?_⟩
  cases s <;> simp [rpSize]
theorem snd_deq (s t : Snd) : dataEq SndSh (SndC s) (SndC t) = decide (s = t) := by
  obtain ⟨a, b, c, d⟩ := s
  obtain ⟨a', b', c', d'⟩ := t
  simp [dataEq]
  rw [Bool.eq_iff_iff]
  simp
  omega
theorem bk_deq (s t : Bk) : dataEq BkSh (BkC s) (BkC t) = decide (s = t) := by
  obtain ⟨a, b, c, d, e, f, g⟩ := s
  obtain ⟨a', b', c', d', e', f', g'⟩ := t
  simp [dataEq]
  rw [Bool.eq_iff_iff]
  simp
  omega
theorem right_loop {r : Rp} (h : ∃ b ∈ r.blocks, ¬ b.fits) : ¬ r.right := by
  obtain ⟨b, hb, hn⟩ := h
  exact fun hr => hn (hr.2.2.1 b hb)
theorem take_fits {l : List Bk} {i : Nat} (h : i < l.length) (h1 : ∀ b ∈ l.take i, b.fits) (h2 : (l.getD i ⟨0, 0, 0, 0, 0, 0, 0⟩).fits) : ∀ b ∈ l.take (i + 1), b.fits := by
  intro b hb
  rw [List.take_succ_eq_append_getElem h] at hb
  rcases List.mem_append.1 hb with hb | hb
  · exact h1 b hb
  · simp only [List.mem_singleton] at hb
    have e : l.getD i ⟨0, 0, 0, 0, 0, 0, 0⟩ = l[i] := by simp [List.getD, h]
    rw [hb, ← e]
    exact h2
theorem mod4 (n : Nat) (h : n < 9223372036854775807) : arith .rem .i64 (n : Int) 4 = ((n % 4 : Nat) : Int) := by
  rw [arith_rem _ _ _ (by omega)]
  omega
theorem pc_report_Right (r : Rp) (hm : r.more.length ≤ 140737488355328) : PC Try.prog f_report_Right [(RpSh, RpC r)] [(.bool, .bool (decide r.right))] := by
  apply pcv_report_Right rfl
  simp only [vc_report_Right, VC.H_cond, VC.H_ret, ev_var, ev_int, ev_bool, ev_hd, ev_tl, ev_bin, ev_neq, ev_gtr, ev_ite, ev_len, ea_nil, ea_cons, env_zero, List.map_cons, List.map_nil, v_int, v_bool, v_ls, v_hd, v_tl, bool_ite, orT, orF, nnE, decide_eq_true_eq, decide_eq_false_iff_not, Int.not_lt, List.length_map, ofBytes_length, mod4 _ (show r.more.length < 9223372036854775807 by omega)]
  refine ⟨fun hc => ?_, fun hc => ?_⟩
  · have : ¬ r.right := fun hr => by have := hr.1; have := hr.2.1; omega
    simp [this]
  · refine VC.go_loop (fun i : Nat => [.bool false, .int i]) (fun i => i ≤ r.blocks.length ∧ ∀ b ∈ r.blocks.take i, b.fits) (fun i => r.blocks.length - i) 0 rfl ⟨Nat.zero_le _, by simp⟩ fun i hi => ?_
    simp only [VC.H_asrt, VC.H_cond, VC.H_ret, VC.H_back, VC.H_call1, ev_var, ev_int, ev_bool, ev_nil, ev_cons, ev_hd, ev_tl, ev_add, ev_lss, ev_leq, ev_gtr, ev_geq, ev_not, ev_ite, ev_len, ev_idx, ev_deq, ev_fits64, ea_nil, ea_cons, env_zero, env_succ, env_cons, env_nil, List.map_cons, List.map_nil, v_int, v_bool, v_ls, v_hd, v_tl, bool_ite, pres_nil, orT, orF, andT, andF, notT, notF, decide_eq_true_eq, decide_eq_false_iff_not, forall_const, Int.not_lt, List.length_map, ofBytes_length]
    refine ⟨fun hl => ⟨by omega, by omega, ?_⟩, fun hl => ?_⟩
    · rw [Int.toNat_natCast, bk_getD _ _ (by omega)]
      simp only [v_hd, v_tl, v_int]
      have hmem := bk_mem (l := r.blocks) (i := i) (by omega)
      refine ⟨fun hbad => ?_, fun hgood => ⟨by omega, i + 1, by simp, ⟨by omega, take_fits (by omega) hi.2 (by unfold Bk.fits; omega)⟩, by omega⟩⟩
      have : ¬ r.right := right_loop ⟨_, hmem, by unfold Bk.fits; omega⟩
      simp [this]
    · have hall : ∀ b ∈ r.blocks, b.fits := by
        have := hi.2
        rwa [List.take_of_length_le (by omega)] at this
      have e0 : C.ls [C.int 0, C.int 0, C.int 0, C.int 0] = SndC Snd.zero := rfl
      rw [e0, snd_deq]
      refine ⟨fun hs => ?_, fun hs => ?_⟩
      · have : ¬ r.right := fun hr => by
          rcases hr.2.2.2.1 with h | h
          · simp [h] at hs
          · simp [h] at hs
        simp [this]
      · refine ⟨_, pc_report_sizeOf r.sends r.blocks.length (by omega), ?_⟩
        have hsz : rpSize r.sends r.blocks.length ≤ 1000 := by
          unfold rpSize
          cases r.sends <;> simp <;> omega
        simp only [v_int]
        refine ⟨by omega, ?_⟩
        congr 3
        have hs' : r.sends = true ∨ r.snd = Snd.zero := by
          cases h : r.sends with
          | true => exact .inl rfl
          | false =>
            right
            simp [h] at hs
            exact hs
        by_cases hle : rpSize r.sends r.blocks.length + r.more.length ≤ 65528
        · have hr : r.right := ⟨by omega, by omega, hall, hs', hle⟩
          simp only [hr, decide_true, decide_eq_true_eq]
          omega
        · have hr : ¬ r.right := fun hr => hle hr.2.2.2.2
          simp only [hr, decide_false, decide_eq_false_iff_not]
          omega
theorem pg_report_number (b : List UInt8) (v : Nat) (n : Nat) (hv : v < 256 ^ n) (hn : 1 ≤ n ∧ n ≤ 8) (h64 : v < 18446744073709551616) (hb : b.length ≤ 1000000) :
    PC Try.prog g_report_number [(Byt, B b), (U64, .int v), (I64, .int n)] [(Byt, B (b ++ toBE n v))] := by
  apply pcg_report_number rfl
  have e : putE v n = 0 := by rw [putE_zero]; refine ⟨by omega, by omega, by simpa using hv⟩
  have e2 : putB v n = toBE n v := by rw [putB, if_pos e]; rfl
  simp only [vg_report_number, VC.H_asrt, VC.H_ret, VC.H_call2, ev_var, ev_int, ev_add, ev_mul, ev_leq, ev_len, ev_app, ea_nil, ea_cons, env_zero, env_succ, env_cons, env_nil, List.map_cons, List.map_nil, v_int, v_bool, v_ls, pres_nil, decide_eq_true_eq, forall_const]
  refine ⟨_, _, pc_octet_Put v n h64, ?_⟩
  rw [e2]
  simp only [v_ls, ofBytes_append, ofBytes_length, toBE_length]
  exact ⟨by omega, trivial⟩
theorem pc_report_wordAt (b : List UInt8) (i : Nat) (hi : i + 4 ≤ b.length) (hb : b.length ≤ 9223372036854775807) : PC Try.prog f_report_wordAt [(Byt, B b), (I64, .int i)] [(U32, .int (num b i 4))] := by
  apply pcv_report_wordAt rfl
  simp only [vc_report_wordAt, VC.H_ret, VC.H_call2, ev_var, ev_int, ev_conv, ea_nil, ea_cons, env_zero, env_succ, env_cons, env_nil, List.map_cons, List.map_nil, pres_nil, forall_const]
  refine ⟨_, _, pc_octet_Get b i 4 hb, ?_⟩
  have e : getE b.length i 4 = 0 := by rw [getE_zero]; omega
  have hl := num_lt b i 4
  have e2 : getV b i 4 = num b i 4 := by rw [getV, if_pos e]; rfl
  rw [v_int, e2, wrapu32]
  congr 3
  omega
theorem pc_report_senderAt (b : List UInt8) (i : Nat) (hi : i + 20 ≤ b.length) (hb : b.length ≤ 1000000) : PC Try.prog f_report_senderAt [(Byt, B b), (I64, .int i)] [(SndSh, SndC (Snd.of b i))] := by
  apply pcv_report_senderAt rfl
  have e : getE b.length i 8 = 0 := by rw [getE_zero]; omega
  have e2 : getV b i 8 = num b i 8 := by rw [getV, if_pos e]; rfl
  simp only [vc_report_senderAt, VC.H_asrt, VC.H_ret, VC.H_call1, VC.H_call2, ev_var, ev_int, ev_nil, ev_cons, ev_add, ev_fits64, ea_nil, ea_cons, env_zero, env_succ, env_cons, env_nil, List.map_cons, List.map_nil, v_int, v_bool, v_ls, pres_nil, decide_eq_true_eq, forall_const]
  refine ⟨_, _, pc_octet_Get b i 8 (by omega), by omega, _, pc_report_wordAt b (i + 8) (by omega) (by omega), by omega, _, pc_report_wordAt b (i + 12) (by omega) (by omega), by omega, _, pc_report_wordAt b (i + 16) (by omega) (by omega), ?_⟩
  rw [e2]
  rfl
theorem pc_report_blockAt (b : List UInt8) (i : Nat) (hi : i + 24 ≤ b.length) (hb : b.length ≤ 1000000) : PC Try.prog f_report_blockAt [(Byt, B b), (I64, .int i)] [(BkSh, BkC (Bk.of b i))] := by
  apply pcv_report_blockAt rfl
  have e : getE b.length ((i : Int) + 5) 3 = 0 := by rw [getE_zero]; omega
  have hl := num_lt b (i + 5) 3
  have e2 : getV b ((i : Int) + 5) 3 = num b (i + 5) 3 := by
    rw [getV, if_pos e]
    have : ((i : Int) + 5).toNat = i + 5 := by omega
    simp only [cut, num, this]
    rfl
  have e3 : sgnV b ((i : Int) + 5) 3 = sgn 3 (num b (i + 5) 3) := by rw [sgnV, if_pos e, e2]; rfl
  have g3 := sgn3_back (num b (i + 5) 3) (by simpa using hl)
  have e4 : ((i : Int) + 4).toNat = i + 4 := by omega
  simp only [vc_report_blockAt, VC.H_asrt, VC.H_ret, VC.H_call1, VC.H_call2, ev_var, ev_int, ev_nil, ev_cons, ev_add, ev_lss, ev_geq, ev_conv, ev_len, ev_idx, ev_fits64, ea_nil, ea_cons, env_zero, env_succ, env_cons, env_nil, List.map_cons, List.map_nil, v_int, v_bool, v_ls, pres_nil, decide_eq_true_eq, forall_const, ofBytes_length, e4, ofBytes_getD]
  refine ⟨by omega, _, _, pc_octet_Signed b ((i : Int) + 5) 3 (by omega), _, pc_report_wordAt b i (by omega) (by omega), by omega, by omega, by omega, by omega, _, pc_report_wordAt b (i + 8) (by omega) (by omega), by omega, _, pc_report_wordAt b (i + 12) (by omega) (by omega), by omega, _, pc_report_wordAt b (i + 16) (by omega) (by omega), by omega, _, pc_report_wordAt b (i + 20) (by omega) (by omega), ?_⟩
  rw [e3, v_int, wrapi32_in (by omega)]
  rfl
theorem blocksB_snoc (l : List Bk) (i : Nat) (h : i < l.length) : blocksB (l.take (i + 1)) = blocksB (l.take i) ++ (l.getD i ⟨0, 0, 0, 0, 0, 0, 0⟩).bytes := by
  rw [List.take_succ_eq_append_getElem h]
  simp only [blocksB, List.map_append, List.flatten_append]
  simp [List.getD, h]
theorem frac_one (n : Nat) (h : n < 256) : [C.int (n : Int)] = ofBytes [UInt8.ofNat n] := by
  simp only [ofBytes, List.map_cons, List.map_nil, UInt8.toNat_ofNat']
  congr 2
  omega
theorem ps3 (x : Int) (h : -8388608 ≤ x ∧ x ≤ 8388607) : psB x 3 = toBE 3 (x % 18446744073709551616).toNat := by
  rw [psB, if_pos (by rw [psE_zero]; simp; omega)]
  rfl
theorem u64_of (v : Nat) (h : v < 4294967296) : IntKind.u64.wrap (v : Int) = (v : Int) := by rw [wrapu64]; omega
def rwB (r : Rp) : List UInt8 := if r.right then r.bytes else []
def rwE (r : Rp) : Int := if r.right then 0 else 1
theorem pc_report_Write (r : Rp) (ho : r.ok) (hm : r.more.length ≤ 140737488355328) : PC Try.prog f_report_Write [(RpSh, RpC r)] [(Byt, B (rwB r)), (I64, .int (rwE r))] := by
  apply pcv_report_Write rfl
  simp only [vc_report_Write, VC.H_cond, VC.H_ret, VC.H_call1, ev_var, ev_int, ev_nil, ev_nilS, ev_cons, ev_hd, ev_tl, ev_not, ev_conv, ea_nil, ea_cons, env_zero, env_succ, env_cons, env_nil, List.map_cons, List.map_nil, v_int, v_bool, v_ls, v_hd, v_tl, pres_nil, notT, notF, forall_const]
  refine ⟨_, pc_report_Right r hm, fun hr => ?_, fun hr => ?_⟩
  · simp only [v_bool, decide_eq_false_iff_not] at hr
    rw [rwB, rwE, if_neg hr, if_neg hr]
    rfl
  simp only [v_bool, decide_eq_true_eq] at hr
  obtain ⟨o1, ⟨o2, o3, o4, o5⟩, o6⟩ := ho
  have := hr; obtain ⟨r1, r2, r3, r4, r5⟩ := this
  have hfl := r.front_length
  rw [u64_of _ o1, u64_of _ o3, u64_of _ o4, u64_of _ o5]
  refine ⟨_, pg_report_number [] r.ssrc 4 (by omega) (by omega) (by omega) (by simp), ?_⟩
  refine ⟨fun hs => ?_, fun hs => ?_⟩
  · refine ⟨_, pg_report_number _ r.snd.ntp 8 (by omega) (by omega) o2 (by simp), _, pg_report_number _ r.snd.time 4 (by omega) (by omega) (by omega) (by simp), _, pg_report_number _ r.snd.pk 4 (by omega) (by omega) (by omega) (by simp), _, pg_report_number _ r.snd.oct 4 (by omega) (by omega) (by omega) (by simp), ?_⟩
    have hfr : r.front = [] ++ toBE 4 r.ssrc ++ toBE 8 r.snd.ntp ++ toBE 4 r.snd.time ++ toBE 4 r.snd.pk ++ toBE 4 r.snd.oct := by simp [Rp.front, hs, Snd.bytes]
    refine VC.go_loop (fun i : Nat => [B (r.front ++ blocksB (r.blocks.take i)), .int i]) (fun i => i ≤ r.blocks.length) (fun i => r.blocks.length - i) 0 ?_ (Nat.zero_le _) fun i hi => ?_
    · rw [hfr]
      simp only [ev_var, ev_int, env_zero, env_succ, env_nil, List.map_cons, List.map_nil]
      simp [blocksB]
    · have hbl := blocksB_length (r.blocks.take i)
      rw [List.length_take] at hbl
      have hh : rpHead r.sends ≤ 24 := by unfold rpHead; split <;> omega
      have hfl' : (r.front ++ blocksB (r.blocks.take i)).length ≤ 1000 := by rw [List.length_append]; omega
      simp only [VC.H_asrt, VC.H_cond, VC.H_ret, VC.H_back, VC.H_call1, VC.H_call2, ev_var, ev_int, ev_nil, ev_cons, ev_hd, ev_tl, ev_add, ev_mul, ev_lss, ev_leq, ev_geq, ev_conv, ev_len, ev_idx, ev_app, ev_fits64, ea_nil, ea_cons, env_zero, env_succ, env_cons, env_nil, List.map_cons, List.map_nil, v_int, v_bool, v_ls, v_hd, v_tl, pres_nil, decide_eq_true_eq, decide_eq_false_iff_not, forall_const, Int.not_lt, List.length_map, ofBytes_length]
      refine ⟨fun hc => ⟨by omega, by omega, ?_⟩, fun hc => ?_⟩
      · rw [Int.toNat_natCast, bk_getD _ _ (by omega)]
        have hmem := bk_mem (l := r.blocks) (i := i) (by omega)
        obtain ⟨b1, b2, b3, b4, b5, b6, b7⟩ := o6 _ hmem
        have bf := r3 _ hmem
        have hsn := blocksB_snoc r.blocks i (by omega)
        generalize r.blocks.getD i ⟨0, 0, 0, 0, 0, 0, 0⟩ = b at hmem b1 b2 b3 b4 b5 b6 b7 bf hsn
        simp only [v_hd, v_tl, v_int]
        rw [u64_of _ b1, u64_of _ b4, u64_of _ b5, u64_of _ b6, u64_of _ b7, wrapi64_in (by omega), frac_one _ b2]
        refine ⟨_, pg_report_number _ b.ssrc 4 (by omega) (by omega) (by omega) (by omega), ?_⟩
        simp only [v_ls, ofBytes_length, ofBytes_append]
        refine ⟨by simp; omega, _, _, pc_octet_PutSigned b.lost 3 (by omega), ?_⟩
        rw [ps3 _ bf]
        simp only [v_ls, ofBytes_length, ofBytes_append]
        refine ⟨by simp; omega, _, pg_report_number _ b.high 4 (by omega) (by omega) (by omega) (by simp; omega), _, pg_report_number _ b.jit 4 (by omega) (by omega) (by omega) (by simp; omega), _, pg_report_number _ b.last 4 (by omega) (by omega) (by omega) (by simp; omega), _, pg_report_number _ b.delay 4 (by omega) (by omega) (by omega) (by simp; omega), by omega, i + 1, ?_, by omega, by omega⟩
        rw [hsn]
        simp [Bk.bytes]
      · rw [List.take_of_length_le (by omega)] at hfl' ⊢
        refine ⟨by omega, ?_⟩
        rw [rwB, rwE, if_pos hr, if_pos hr, r.bytes_eq, ofBytes_append]
        simp
  · have hfr : r.front = [] ++ toBE 4 r.ssrc := by simp [Rp.front, hs]
    refine VC.go_loop (fun i : Nat => [B (r.front ++ blocksB (r.blocks.take i)), .int i]) (fun i => i ≤ r.blocks.length) (fun i => r.blocks.length - i) 0 ?_ (Nat.zero_le _) fun i hi => ?_
    · rw [hfr]
      simp only [ev_var, ev_int, env_zero, env_succ, env_nil, List.map_cons, List.map_nil]
      simp [blocksB]
    · have hbl := blocksB_length (r.blocks.take i)
      rw [List.length_take] at hbl
      have hh : rpHead r.sends ≤ 24 := by unfold rpHead; split <;> omega
      have hfl' : (r.front ++ blocksB (r.blocks.take i)).length ≤ 1000 := by rw [List.length_append]; omega
      simp only [VC.H_asrt, VC.H_cond, VC.H_ret, VC.H_back, VC.H_call1, VC.H_call2, ev_var, ev_int, ev_nil, ev_cons, ev_hd, ev_tl, ev_add, ev_mul, ev_lss, ev_leq, ev_geq, ev_conv, ev_len, ev_idx, ev_app, ev_fits64, ea_nil, ea_cons, env_zero, env_succ, env_cons, env_nil, List.map_cons, List.map_nil, v_int, v_bool, v_ls, v_hd, v_tl, pres_nil, decide_eq_true_eq, decide_eq_false_iff_not, forall_const, Int.not_lt, List.length_map, ofBytes_length]
      refine ⟨fun hc => ⟨by omega, by omega, ?_⟩, fun hc => ?_⟩
      · rw [Int.toNat_natCast, bk_getD _ _ (by omega)]
        have hmem := bk_mem (l := r.blocks) (i := i) (by omega)
        obtain ⟨b1, b2, b3, b4, b5, b6, b7⟩ := o6 _ hmem
        have bf := r3 _ hmem
        have hsn := blocksB_snoc r.blocks i (by omega)
        generalize r.blocks.getD i ⟨0, 0, 0, 0, 0, 0, 0⟩ = b at hmem b1 b2 b3 b4 b5 b6 b7 bf hsn
        simp only [v_hd, v_tl, v_int]
        rw [u64_of _ b1, u64_of _ b4, u64_of _ b5, u64_of _ b6, u64_of _ b7, wrapi64_in (by omega), frac_one _ b2]
        refine ⟨_, pg_report_number _ b.ssrc 4 (by omega) (by omega) (by omega) (by omega), ?_⟩
        simp only [v_ls, ofBytes_length, ofBytes_append]
        refine ⟨by simp; omega, _, _, pc_octet_PutSigned b.lost 3 (by omega), ?_⟩
        rw [ps3 _ bf]
        simp only [v_ls, ofBytes_length, ofBytes_append]
        refine ⟨by simp; omega, _, pg_report_number _ b.high 4 (by omega) (by omega) (by omega) (by simp; omega), _, pg_report_number _ b.jit 4 (by omega) (by omega) (by omega) (by simp; omega), _, pg_report_number _ b.last 4 (by omega) (by omega) (by omega) (by simp; omega), _, pg_report_number _ b.delay 4 (by omega) (by omega) (by omega) (by simp; omega), by omega, i + 1, ?_, by omega, by omega⟩
        rw [hsn]
        simp [Bk.bytes]
      · rw [List.take_of_length_le (by omega)] at hfl' ⊢
        refine ⟨by omega, ?_⟩
        rw [rwB, rwE, if_pos hr, if_pos hr, r.bytes_eq, ofBytes_append]
        simp
theorem rp_bad {s : Bool} {n : Int} {b : List UInt8} {e : Int} (h : rpE s n b = e) (he : e ≠ 0) : RpC (rpR s n b) = .ls [.int 0, .bool false, .ls [.int 0, .int 0, .int 0, .int 0], .ls [], .ls []] := by
  rw [rpR, if_neg (by rw [h]; exact he)]
  rfl
theorem bks_snoc (b : List UInt8) (a i : Nat) : ((List.range (i + 1)).map fun j => Bk.of b (a + 24 * j)).map BkC = ((List.range i).map fun j => Bk.of b (a + 24 * j)).map BkC ++ [BkC (Bk.of b (a + 24 * i))] := by
  rw [List.range_succ, List.map_append, List.map_append]
  rfl
theorem pc_report_Read (s : Bool) (count : Int) (b : List UInt8) (hb : b.length ≤ 140737488355328) : PC Try.prog f_report_Read [(.bool, .bool s), (I64, .int count), (Byt, B b)] [(RpSh, RpC (rpR s count b)), (I64, .int (rpE s count b))] := by
  apply pcv_report_Read rfl
  simp only [vc_report_Read, VC.H_asrt, VC.H_cond, VC.H_ret, VC.H_call1, ev_var, ev_int, ev_bool, ev_nil, ev_nilS, ev_cons, ev_bin, ev_add, ev_neq, ev_lss, ev_gtr, ev_ite, ev_len, ev_fits64, ea_nil, ea_cons, env_zero, env_succ, env_cons, env_nil, List.map_cons, List.map_nil, v_int, v_bool, v_ls, bool_ite, pres_nil, orT, orF, nnE, decide_eq_true_eq, decide_eq_false_iff_not, forall_const, Int.not_lt, ofBytes_length, mod4 _ (show b.length < 9223372036854775807 by omega)]
  refine ⟨fun hc => ?_, fun hc => ⟨fun hl => ?_, fun hl => ?_⟩⟩
  · have e : rpE s count b = 1 := by unfold rpE; rw [if_pos (by omega)]
    rw [rp_bad e (by decide), e]
  · have e : rpE s count b = 4 := by unfold rpE; rw [if_neg (by omega), if_pos (by omega)]
    rw [rp_bad e (by decide), e]
  · obtain ⟨n, rfl⟩ : ∃ n : Nat, count = n := ⟨count.toNat, by omega⟩
    refine ⟨_, pc_report_sizeOf s n (by omega), fun hs => ?_, fun hs => ?_⟩
    · simp only [v_int] at hs
      have e : rpE s n b = 2 := by unfold rpE; rw [if_neg (by omega), if_neg (by omega), if_pos (by rw [Int.toNat_natCast]; omega)]
      rw [rp_bad e (by decide), e]
    · simp only [v_int] at hs
      have e : rpE s n b = 0 := by rw [rpE_zero, Int.toNat_natCast]; omega
      have hh := rpHead_size s n
      have h4 : 4 ≤ rpHead s := by unfold rpHead; split <;> omega
      refine ⟨_, pc_report_wordAt b 0 (by omega) (by omega), fun hsd => ?_, fun hsd => ?_⟩
      · subst hsd
        have h24 : rpHead true = 24 := rfl
        rw [h24] at hh
        refine ⟨_, pc_report_senderAt b 4 (by omega) (by omega), by omega, ?_⟩
        refine VC.go_loop (fun i : Nat => [.int ((24 + 24 * i : Nat) : Int), .int i, .ls (((List.range i).map fun j => Bk.of b (24 + 24 * j)).map BkC)]) (fun i => i ≤ n) (fun i => n - i) 0 rfl (Nat.zero_le _) fun i hi => ?_
        simp only [VC.H_asrt, VC.H_cond, VC.H_ret, VC.H_back, VC.H_call1, ev_var, ev_int, ev_nil, ev_cons, ev_hd, ev_tl, ev_add, ev_mul, ev_lss, ev_leq, ev_geq, ev_len, ev_sub, ev_app, ev_fits64, ea_nil, ea_cons, env_zero, env_succ, env_cons, env_nil, List.map_cons, List.map_nil, v_int, v_bool, v_ls, v_hd, v_tl, pres_nil, decide_eq_true_eq, decide_eq_false_iff_not, forall_const, Int.not_lt, ofBytes_length, List.length_map, List.length_range]
        refine ⟨fun hc => ?_, fun hc => ?_⟩
        · refine ⟨_, pc_report_blockAt b (24 + 24 * i) (by omega) (by omega), by simp; omega, by omega, by omega, i + 1, ?_, by omega, by omega⟩
          rw [bks_snoc]
          congr 1
        · have hin : i = n := by omega
          subst hin
          have e5 : List.drop ((24 + 24 * i : Nat) : Int).toNat (List.take ((b.length : Nat) : Int).toNat (ofBytes b)) = ofBytes (b.drop (24 + 24 * i)) := by
            rw [Int.toNat_natCast, Int.toNat_natCast, ofBytes_take, List.take_length, ofBytes_drop]
          rw [e5, ofBytes_length, rpR, if_pos e, e]
          refine ⟨by omega, by omega, by omega, by rw [List.length_drop]; omega, ?_⟩
          simp [Rp.of, h24]
      · subst hsd
        have h24 : rpHead false = 4 := rfl
        rw [h24] at hh
        refine VC.go_loop (fun i : Nat => [.int ((4 + 24 * i : Nat) : Int), .int i, .ls (((List.range i).map fun j => Bk.of b (4 + 24 * j)).map BkC)]) (fun i => i ≤ n) (fun i => n - i) 0 rfl (Nat.zero_le _) fun i hi => ?_
        simp only [VC.H_asrt, VC.H_cond, VC.H_ret, VC.H_back, VC.H_call1, ev_var, ev_int, ev_nil, ev_cons, ev_add, ev_mul, ev_lss, ev_leq, ev_geq, ev_len, ev_sub, ev_app, ev_fits64, ea_nil, ea_cons, env_zero, env_succ, env_cons, env_nil, List.map_cons, List.map_nil, v_int, v_bool, v_ls, pres_nil, decide_eq_true_eq, decide_eq_false_iff_not, forall_const, Int.not_lt, ofBytes_length, List.length_map, List.length_range]
        refine ⟨fun hc => ?_, fun hc => ?_⟩
        · refine ⟨_, pc_report_blockAt b (4 + 24 * i) (by omega) (by omega), by simp; omega, by omega, by omega, i + 1, ?_, by omega, by omega⟩
          rw [bks_snoc]
          congr 1
        · have hin : i = n := by omega
          subst hin
          have e5 : List.drop ((4 + 24 * i : Nat) : Int).toNat (List.take ((b.length : Nat) : Int).toNat (ofBytes b)) = ofBytes (b.drop (4 + 24 * i)) := by
            rw [Int.toNat_natCast, Int.toNat_natCast, ofBytes_take, List.take_length, ofBytes_drop]
          rw [e5, ofBytes_length, rpR, if_pos e, e]
          refine ⟨by omega, by omega, by omega, by rw [List.length_drop]; omega, ?_⟩
          simp [Rp.of, h24, Snd.zero]
end Go.Vc
