/-
  The contracts of chunk.pack and chunk.next.
-/
import Derived.Test.YthfljfcpeoofiaaQVck
import Derived.Test.YthfljfcpeoofiaaQOc
import Derived.Test.YthfljfcpeoofiaaQCa
import Derived.Test.YthfljfcpeoofiaaQBase3
set_option maxRecDepth 100000
namespace Go.Vc
open Go Go.Proofs Go.Plain Go.RowKit Go.Shelf
abbrev U16 : Sh := .int .u16
theorem nat_getD (l : List Nat) (i : Nat) (h : i < l.length) : ((l.map fun n : Nat => C.int (n : Int))).getD i default = C.int ((l.getD i 0 : Nat) : Int) := by simp [List.getD, h]
theorem nat_mem {l : List Nat} {i : Nat} (h : i < l.length) : l.getD i 0 ∈ l := by simp [List.getD, h]
theorem vecN_pad (F B : Nat) (l : List Nat) : ∀ k, vecN F B l (l.length + k) = vecN F B l l.length * B ^ k
  | 0 => by simp
  | k + 1 => by
    have : l.getD (l.length + k) 0 = 0 := by simp [List.getD]
    rw [← Nat.add_assoc, vecN, vecN_pad F B l k, this, Nat.pow_succ, Nat.add_zero, Nat.mul_left_comm, Nat.mul_comm B]
theorem pc_chunk_pack (l : List Nat) (F B p w : Nat) (hB : B = 2 ^ w) (hw : 1 ≤ w ∧ w ≤ 2) (hp : w * p = 14) (hF : F < 4) (hl : l.length ≤ p) (hx : ∀ x ∈ l, x < B) :
    PC Try.prog f_chunk_pack [(.sl I64, Ns l), (U16, .int ((F * 16384 : Nat) : Int)), (I64, .int p), (I64, .int w)] [(U16, .int (vecN F B l p : Nat))] := by
  apply pcv_chunk_pack rfl
  simp only [vc_chunk_pack, List.map_cons, List.map_nil]
  have hp14 : p ≤ 14 := by
    have := Nat.le_mul_of_pos_left p (show 0 < w by omega)
    omega
  have hBp : ∀ k, B ^ k = 2 ^ (w * k) := fun k => by rw [hB, Nat.pow_mul]
  have hg : ∀ i, l.getD i 0 < B := fun i => by
    by_cases h : i < l.length
    · exact hx _ (nat_mem h)
    · simp [List.getD, Nat.not_lt.1 h]
      rw [hB]
      exact Nat.two_pow_pos w
  refine VC.go_loop (fun i : Nat => [.int ((vecN F B l i * B ^ (p - i) : Nat) : Int), .int i]) (fun i => i ≤ l.length) (fun i => l.length - i) 0 ?_ (Nat.zero_le _) fun i hi => ?_
  · simp only [ev_var, ev_int, env_zero, env_succ, List.map_cons, List.map_nil]
    rw [vecN, Nat.sub_zero, hBp, hp]
    rfl
  · simp only [VC.H_asrt, VC.H_cond, VC.H_ret, VC.H_back, ev_var, ev_int, ev_bin, ev_add, ev_sub', ev_mul, ev_lss, ev_geq, ev_conv, ev_len, ev_idx, ev_fits64, ea_nil, ea_cons, env_zero, env_succ, env_cons, env_nil, List.map_cons, List.map_nil, v_int, v_bool, v_ls, pres_nil, decide_eq_true_eq, decide_eq_false_iff_not, forall_const, Int.not_lt, List.length_map, Int.toNat_natCast]
    refine ⟨fun hc => ?_, fun hc => ?_⟩
    · have hlt := hg i
      have hv := vecN_hi F B l (i + 1) (fun j _ => hg j)
      have hvi : vecN F B l (i + 1) = B * vecN F B l i + l.getD i 0 := rfl
      rw [nat_getD _ _ (by omega), v_int]
      generalize l.getD i 0 = x at hlt hvi
      have hk : w * (p - i) = w * (p - 1 - i) + w := by
        rw [show p - i = (p - 1 - i) + 1 by omega, Nat.mul_add, Nat.mul_one]
      have hk14 : w * (p - i) ≤ 14 := by rw [← hp]; exact Nat.mul_le_mul_left w (by omega)
      have i1 : (w : Int) * ((p : Int) - 1 - (i : Int)) = ((w * (p - 1 - i) : Nat) : Int) := by
        rw [Int.natCast_mul]
        congr 1
        omega
      have hB4 : B ≤ 4 := by rw [hB]; exact Nat.le_trans (Nat.pow_le_pow_right (by decide) hw.2) (by decide)
      have hsmall : x * 2 ^ (w * (p - 1 - i)) < 2 ^ (w * (p - i)) := by
        rw [hk, Nat.pow_add, Nat.mul_comm (2 ^ (w * (p - 1 - i)))]
        exact Nat.mul_lt_mul_of_pos_right (hB ▸ hlt) (Nat.two_pow_pos _)
      have hs16 : 2 ^ (w * (p - i)) ≤ 2 ^ 14 := Nat.pow_le_pow_right (by decide) hk14
      have hsum : vecN F B l i * 2 ^ (w * (p - i)) + x * 2 ^ (w * (p - 1 - i)) = vecN F B l (i + 1) * B ^ (p - (i + 1)) := by
        rw [hvi, Nat.add_mul, hBp, show p - (i + 1) = p - 1 - i by omega, hk, Nat.pow_add, ← hB, Nat.mul_comm B, Nat.mul_assoc, Nat.mul_comm B]
      have htop : vecN F B l (i + 1) * B ^ (p - (i + 1)) < 65536 := by
        have h1 : vecN F B l (i + 1) * B ^ (p - (i + 1)) < (F + 1) * B ^ (i + 1) * B ^ (p - (i + 1)) := Nat.mul_lt_mul_of_pos_right hv (by rw [hBp]; exact Nat.two_pow_pos _)
        have h2 : (F + 1) * B ^ (i + 1) * B ^ (p - (i + 1)) = (F + 1) * 2 ^ 14 := by
          rw [Nat.mul_assoc, ← Nat.pow_add, show i + 1 + (p - (i + 1)) = p by omega, hBp, hp]
        rw [h2] at h1
        have h3 : (F + 1) * 2 ^ 14 ≤ 4 * 2 ^ 14 := Nat.mul_le_mul_right _ (by omega)
        omega
      have e1 : arith .shl .u16 (IntKind.u16.wrap (x : Int)) ((w * (p - 1 - i) : Nat) : Int) = ((x * 2 ^ (w * (p - 1 - i)) : Nat) : Int) := by
        rw [arith_shl, Int.toNat_natCast, Nat.min_eq_left (by simp only [IntKind.bits]; omega), wrapu16, wrapu16]
        have e3 : (x : Int) % 65536 = x := by omega
        rw [e3, show (x : Int) * 2 ^ (w * (p - 1 - i)) = ((x * 2 ^ (w * (p - 1 - i)) : Nat) : Int) by simp]
        omega
      have e2 : arith .or .u16 ((vecN F B l i * B ^ (p - i) : Nat) : Int) ((x * 2 ^ (w * (p - 1 - i)) : Nat) : Int) = ((vecN F B l (i + 1) * B ^ (p - (i + 1)) : Nat) : Int) := by
        rw [hBp, arith_orU rfl (by show _ < 2 ^ 16; omega) (by show _ < 2 ^ 16; omega), or_add _ _ _ hsmall, hsum]
      have hw1 : ((w * (p - 1 - i) : Nat) : Int) ≤ 14 := by omega
      rw [i1, e1, e2]
      refine ⟨by omega, by omega, by omega, by omega, by omega, by omega, by omega, i + 1, by simp, by omega, by omega⟩
    · have : i = l.length := by omega
      subst this
      rw [← vecN_pad, show l.length + (p - l.length) = p by omega]
/-- Part of a slice, from its beginning. -/
theorem RdV_take {w : World} {N : Nat → Prop} {s : Sh} {a : Option Addr} {n cap : Nat} {l : List C} (h : RdV w N (.sl s) (.slice a n cap) (.ls l)) (m : Nat) (hm : m ≤ l.length) : RdV w N (.sl s) (.slice a m cap) (.ls (l.take m)) := by
  obtain ⟨vs, ⟨a', cap', rfl, h2, h3, h4⟩, e⟩ := h
  simp only [C.toList_ls] at *
  have e2 : Value.slice a n cap = .slice a' l.length cap' := by simpa [Sh.mk, Sh.isAgg] using e
  cases e2
  refine ⟨[.slice a m cap], ⟨a, cap, ?_, ?_, h3, fun hne => ?_⟩, by simp [Sh.mk, Sh.isAgg]⟩
  · simp only [C.toList_ls, List.length_take, Nat.min_eq_left hm]
  · simp only [C.toList_ls, List.length_take]
    omega
  · obtain ⟨b, off, rfl, hN, hlt, hr⟩ := h4 (by intro h0; rw [C.toList_ls, h0] at hne; simp at hne)
    refine ⟨b, off, rfl, hN, hlt, fun i c hc => hr i c ?_⟩
    rw [C.toList_ls, List.getElem?_take] at hc
    split at hc
    · exact hc
    · cases hc
theorem begN_run (l : List Nat) : begN (l.map fun n : Nat => (n : Int)) 8191 (fun x => x == ((l.getD 0 0 : Nat) : Int)) = runL l := by
  unfold begN runL
  rw [← List.map_take, List.takeWhile_map, List.length_map]
  congr 2
  funext x
  show ((x : Int) == ((l.getD 0 0 : Nat) : Int)) = (x == l.getD 0 0)
  rw [Bool.eq_iff_iff, beq_iff_eq, beq_iff_eq]
  omega
theorem begN_bits (l : List Nat) : begN (l.map fun n : Nat => (n : Int)) (min 14 l.length) (fun x => x != 2) = min 14 l.length ↔ oneBit l := by
  unfold begN oneBit
  rw [← List.map_take, List.takeWhile_map, List.length_map, take_min]
  have hl : (l.take 14).length = min 14 l.length := List.length_take
  rw [← hl]
  generalize l.take 14 = m
  induction m with
  | nil => simp
  | cons x m ih =>
    by_cases hx : x = 2
    · subst hx
      simp
    · have hx2 : ((fun x : Int => x != 2) ∘ fun n : Nat => (n : Int)) x = true := by simp; omega
      rw [List.takeWhile_cons_of_pos hx2, List.length_cons, List.length_cons]
      simp only [List.mem_cons, forall_eq_or_imp, Nat.add_right_cancel_iff]
      exact ⟨fun h => ⟨hx, ih.1 h⟩, fun h => ih.2 h.2⟩
theorem vecN_take (F B : Nat) (l : List Nat) (M : Nat) : ∀ p, (∀ i, i < p → (l.take M).getD i 0 = l.getD i 0) → vecN F B (l.take M) p = vecN F B l p
  | 0, _ => rfl
  | p + 1, h => by rw [vecN, vecN, vecN_take F B l M p (fun i hi => h i (by omega)), h p (by omega)]
theorem take_getD (l : List Nat) (p i : Nat) (hi : i < p) : (l.take (min p l.length)).getD i 0 = l.getD i 0 := by
  rw [take_min]
  simp [List.getD, hi]
theorem ck_pack (W : World) (N : Nat → Prop) (a : Option Addr) (cap : Nat) (l : List Nat) (hS : RdV W N (.sl I64) (.slice a l.length cap) (Ns l)) (F B p w : Nat) (hB : B = 2 ^ w) (hw : 1 ≤ w ∧ w ≤ 2) (hp : w * p = 14) (hF : F < 4) (hx : ∀ x ∈ l.take p, x < B) :
    Calls Try.prog 86 #[.slice a (min p l.length) cap, .int .u16 ((F * 16384 : Nat) : Int), .int .i64 (p : Int), .int .i64 (w : Int)] W fun e W' => e = .returned (.int .u16 (vecN F B l p : Nat)) ∧ Below W.heap.size W W' := by
  have hS2 := RdV_take hS (min p l.length) (by simp; omega)
  rw [← List.map_take] at hS2
  have hpc := (PC.to0 (by decide) (pc_chunk_pack (l.take (min p l.length)) F B p w hB hw hp hF (by rw [List.length_take]; omega) (by rw [take_min]; exact hx))).2 W N [.slice a (min p l.length) cap, .int .u16 ((F * 16384 : Nat) : Int), .int .i64 (p : Int), .int .i64 (w : Int)]
    ⟨_, _, rfl, hS2, _, _, rfl, ⟨_, rfl, rfl⟩, _, _, rfl, ⟨_, rfl, rfl⟩, _, _, rfl, ⟨_, rfl, rfl⟩, rfl⟩
  refine hpc.mono ?_
  rintro e W' ⟨v, rfl, ⟨vs, ⟨v1, r1, rfl, ⟨_, h1, rfl⟩, rfl⟩, rfl⟩, hb⟩
  simp only [Rd] at h1
  subst h1
  refine ⟨?_, hb⟩
  rw [vecN_take F B l _ p (take_getD l p)]
  rfl
theorem ck_run (l : List Nat) (hlen : 0 < l.length) (rn : Nat) (h2 : l.getD 0 0 ≤ 2) (hr : rn ≤ 8191) : bits BinOp.or IntKind.u16 ((l[0] : Int) % 65536 * 8192 % 65536) ((rn : Int) % 65536) = ((8192 * l.getD 0 0 + rn : Nat) : Int) := by
  have hl0 : l[0] = l.getD 0 0 := by simp [List.getD, hlen]
  rw [hl0]
  generalize l.getD 0 0 = x at h2
  have e1 : (x : Int) % 65536 * 8192 % 65536 = ((x * 2 ^ 13 : Nat) : Int) := by omega
  have e2 : (rn : Int) % 65536 = rn := by omega
  rw [e1, e2]
  have := arith_orU (k := .u16) (a := x * 2 ^ 13) (b := rn) rfl (by show _ < 2 ^ 16; omega) (by show _ < 2 ^ 16; omega)
  rw [or_add _ _ _ (by omega)] at this
  have h3 : bits BinOp.or IntKind.u16 ((x * 2 ^ 13 : Nat) : Int) (rn : Int) = arith .or .u16 ((x * 2 ^ 13 : Nat) : Int) (rn : Int) := rfl
  rw [h3, this]
  omega
set_option maxHeartbeats 4000000 in
theorem ck_next (w : World) (N : Nat → Prop) (sv : Value) (l : List Nat) (hsv : RdV w N (.sl I64) sv (Ns l)) (hne : l ≠ []) (ho : ckOk l) :
    Calls Try.prog 55 #[sv] w fun e W' => e = .returned (.tuple #[.int .u16 (ckC l : Nat), .int .i64 (ckM l : Nat)]) ∧ Below w.heap.size w W' := by
  have hI : IntsAt w sv (l.map fun n : Nat => (n : Int)) := IntsAt.of (N := N) (by rw [Ints, List.map_map]; exact hsv)
  have hlen : 0 < l.length := List.length_pos_iff.2 hne
  have hr := runL_pos hne
  obtain ⟨a, cap, rfl⟩ : ∃ a cap, sv = .slice a l.length cap := by
    obtain ⟨a, cap, h, _⟩ := hI
    exact ⟨a, cap, by simpa using h⟩
  have hB1 : Below w.heap.size w (w.alloc (.cells #[.slice a l.length cap] 22)) := (Below.refl _ w).alloc (Nat.le_refl _) _
  have bN := Boxed.new w 22 (.slice a l.length cap)
  have hI1 : IntsAt (w.alloc (.cells #[.slice a l.length cap] 22)) (.slice a l.length cap) (l.map fun n : Nat => (n : Int)) :=
    IntsAt.of (N := N) (by rw [Ints, List.map_map]; exact hsv.mono hB1.size fun c hc hlt => ⟨hB1.block c hlt, hc⟩)
  have hS1 : RdV (w.alloc (.cells #[.slice a l.length cap] 22)) N (.sl I64) (.slice a l.length cap) (Ns l) := hsv.mono hB1.size fun c hc hlt => ⟨hB1.block c hlt, hc⟩
  have hy : (l.map fun n : Nat => (n : Int))[0]? = some ((l.getD 0 0 : Nat) : Int) := by simp [List.getD, hlen]
  have g1 := ck_beginning _ _ _ hI1 8191 (by decide) 84 #[.pointer (some ⟨w.heap.size, 0, none⟩)] (enters_of Try.func84 (by kernel_rfl) rfl) (fun x => x == ((l.getD 0 0 : Nat) : Int)) (fun x => ck_next1 _ _ _ _ hI1 bN _ hy x)
  rw [begN_run, show ((8191 : Nat) : Int) = 8191 from rfl] at g1
  have g2 := ck_beginning _ _ _ hI1 (min 14 l.length) (by omega) 85 #[] (enters_of Try.func85 (by kernel_rfl) rfl) (fun x => x != 2) (fun x => ck_next2 _ x)
  generalize hbb : begN (l.map fun n : Nat => (n : Int)) (min 14 l.length) (fun x => x != 2) = bb at g2
  have hbits := begN_bits l
  rw [hbb] at hbits
  obtain ⟨a', cap', hsl, hcap, hmax, hcells⟩ := hI1
  rw [List.length_map] at hcap
  simp only [List.length_map] at hsl
  cases hsl
  obtain ⟨b, off, rfl, hblt, hc⟩ := hcells (by simp; exact hne)
  have d1 := hc 0 _ hy
  simp only [Nat.add_zero] at d1
  have hcell := bN.cell
  have i1 : (0 : Int) < l.length := by omega
  refine (callsIn_wide (n := 3)).1 ?_
  refine callsIn_of_wp Try.func55 rfl trivial ?_ rfl
  simp only [Try.ntmps55, List.size_toArray, List.length_cons, List.length_nil, Nat.reduceAdd, Nat.reduceSub, Array.replicate_succ, Array.replicate_zero, List.push_toArray, List.append_toArray, List.nil_append, List.cons_append]
  generalize hrn : runL l = rn at *
  gi_wp2
  refine ⟨trivial, (callsIn_wide.2 g1).mono ?_⟩
  rintro e w' ⟨rfl, rfl⟩
  have hpk2 := ck_pack _ N _ _ l hS1 3 4 7 2 rfl (by decide) (by decide) (by decide) (fun x hx => by have := ho x (List.mem_of_mem_take hx); omega)
  have hcI : (l.length : Int) ≤ cap := by omega
  by_cases hrun : 14 ≤ rn ∨ rn = l.length
  · have hC : ckC l = 8192 * l.getD 0 0 + rn ∧ ckM l = rn := by
      unfold ckC ckM
      rw [hrn, if_pos hrun, if_pos hrun]
      exact ⟨rfl, rfl⟩
    have h2 := getD_le ho 0
    by_cases hr14 : 14 ≤ rn
    · have j1 : (14 : Int) ≤ rn := by omega
      gi_wp2
      refine bodyPost_ret (results_tmp2 rfl _ _ _) rfl ?_
      have hbv := ck_run l hlen rn h2 (by omega)
      rw [hC.1, hC.2, ← hbv]
      exact ⟨rfl, hB1⟩
    · have j1 : ¬ (14 : Int) ≤ rn := by omega
      have hrl : rn = l.length := by omega
      have j2 : ((rn : Int) == l.length) = true := by rw [beq_iff_eq]; omega
      subst hrl
      gi_wp2
      refine bodyPost_ret (results_tmp2 rfl _ _ _) rfl ?_
      have hbv := ck_run l hlen l.length h2 (by omega)
      rw [hC.1, hC.2, ← hbv]
      exact ⟨rfl, hB1⟩
  · have hC : ckC l = (if oneBit l then vecN 2 2 l 14 else vecN 3 4 l 7) ∧ ckM l = if oneBit l then min 14 l.length else min 7 l.length := by
      unfold ckC ckM
      rw [hrn, if_neg hrun, if_neg hrun]
      exact ⟨rfl, rfl⟩
    have j1 : ¬ (14 : Int) ≤ rn := by omega
    have j2 : ((rn : Int) == l.length) = false := by rw [beq_eq_false_iff_ne]; omega
    by_cases h14 : l.length < 14
    · have k1 : (l.length : Int) < 14 := by omega
      have kN : ¬ (14 : Int) ≤ l.length := by omega
      rw [Nat.min_eq_right (by omega)] at g2 hbits
      have i14 : Int.toNat (l.length : Int) = l.length := Int.toNat_natCast _
      gi_wp2
      refine ⟨trivial, (callsIn_wide.2 g2).mono ?_⟩
      rintro e w' ⟨rfl, rfl⟩
      by_cases hob : oneBit l
      · rw [if_pos hob, if_pos hob] at hC
        have hpk1 := ck_pack _ N _ _ l hS1 2 2 14 1 rfl (by decide) (by decide) (by decide) (fun x hx => by have := ho x (List.mem_of_mem_take hx); have := hob x hx; omega)
        rw [Nat.min_eq_right (by omega)] at hpk1 hC
        rw [hbits.2 hob]
        gi_wp2
        refine ⟨trivial, (callsIn_wide.2 hpk1).mono ?_⟩
        rintro e w' ⟨rfl, hbel⟩
        gi_wp2
        refine bodyPost_ret (results_tmp2 rfl _ _ _) rfl ?_
        rw [hC.1, hC.2]
        exact ⟨rfl, hB1.trans (hbel.mono (by simp))⟩
      · rw [if_neg hob, if_neg hob] at hC
        have hbn : ((bb : Int) == l.length) = false := by rw [beq_eq_false_iff_ne]; intro h; exact hob (hbits.1 (by omega))
        by_cases h7 : l.length < 7
        · have k7 : (l.length : Int) < 7 := by omega
          rw [Nat.min_eq_right (by omega)] at hpk2 hC
          gi_wp2
          refine ⟨trivial, (callsIn_wide.2 hpk2).mono ?_⟩
          rintro e w' ⟨rfl, hbel⟩
          gi_wp2
          refine bodyPost_ret (results_tmp2 rfl _ _ _) rfl ?_
          rw [hC.1, hC.2]
          exact ⟨rfl, hB1.trans (hbel.mono (by simp))⟩
        · have k7 : ¬ (l.length : Int) < 7 := by omega
          have k8 : (7 : Int) ≤ l.length := by omega
          rw [Nat.min_eq_left (by omega)] at hpk2 hC
          gi_wp2
          refine ⟨trivial, (callsIn_wide.2 hpk2).mono ?_⟩
          rintro e w' ⟨rfl, hbel⟩
          gi_wp2
          refine bodyPost_ret (results_tmp2 rfl _ _ _) rfl ?_
          rw [hC.1, hC.2]
          exact ⟨rfl, hB1.trans (hbel.mono (by simp))⟩
    · have k1 : ¬ (l.length : Int) < 14 := by omega
      have k2 : (14 : Int) ≤ l.length := by omega
      have k8 : (7 : Int) ≤ l.length := by omega
      have k7 : ¬ (l.length : Int) < 7 := by omega
      rw [Nat.min_eq_left (by omega)] at g2 hbits
      rw [show ((14 : Nat) : Int) = 14 from rfl] at g2
      gi_wp2
      refine ⟨trivial, (callsIn_wide.2 g2).mono ?_⟩
      rintro e w' ⟨rfl, rfl⟩
      by_cases hob : oneBit l
      · rw [if_pos hob, if_pos hob] at hC
        have hpk1 := ck_pack _ N _ _ l hS1 2 2 14 1 rfl (by decide) (by decide) (by decide) (fun x hx => by have := ho x (List.mem_of_mem_take hx); have := hob x hx; omega)
        rw [Nat.min_eq_left (by omega)] at hpk1 hC
        rw [hbits.2 hob]
        gi_wp2
        refine ⟨trivial, (callsIn_wide.2 hpk1).mono ?_⟩
        rintro e w' ⟨rfl, hbel⟩
        gi_wp2
        refine bodyPost_ret (results_tmp2 rfl _ _ _) rfl ?_
        rw [hC.1, hC.2]
        exact ⟨rfl, hB1.trans (hbel.mono (by simp))⟩
      · rw [if_neg hob, if_neg hob] at hC
        have hbn : ((bb : Int) == 14) = false := by rw [beq_eq_false_iff_ne]; intro h; exact hob (hbits.1 (by omega))
        rw [Nat.min_eq_left (by omega)] at hpk2 hC
        gi_wp2
        refine ⟨trivial, (callsIn_wide.2 hpk2).mono ?_⟩
        rintro e w' ⟨rfl, hbel⟩
        gi_wp2
        refine bodyPost_ret (results_tmp2 rfl _ _ _) rfl ?_
        rw [hC.1, hC.2]
        exact ⟨rfl, hB1.trans (hbel.mono (by simp))⟩
end Go.Vc
