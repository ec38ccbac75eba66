/-
  The contracts of the functions of elem that walk through data, each out of its condition.
-/
import Derived.Test.YtkkkjjonjdkngaaQVw
import Derived.Test.YtkkkjjonjdkngaaQCm
import Derived.Test.YtkkkjjonjdkngaaQBase3
set_option maxRecDepth 100000
namespace Go.Vc
open Go Go.Proofs Go.Plain
abbrev ElSh : Sh := .pair I64 (.pair Byt .unit)
abbrev ElC (e : El) : C := .ls [.int e.id, B e.data]
abbrev Els (l : List El) : C := .ls (l.map ElC)
abbrev SpSh : Sh := .pair I64 (.pair I64 (.pair I64 .unit))
abbrev SpC (s : Sp) : C := .ls [.int (s.id : Int), .int (s.pos : Int), .int (s.size : Int)]
abbrev Sps (l : List Sp) : C := .ls (l.map SpC)
abbrev If1 : Sh := .ifc 96 .unit
abbrev If2 : Sh := .ifc 97 .unit
theorem mfind_mset (x : Int) (k : Int) (v : C) : ∀ l : List C, mfind (mset l k v) x = if k = x then some (.ls [.int k, v]) else mfind l x
  | [] => by
    by_cases h : k = x
    · simp [mset, mfind, h]
    · simp [mset, mfind, h]
  | d :: l => by
    have ih := mfind_mset x k v l
    by_cases h : d.hd.toInt = k
    · rw [mset, if_pos h]
      by_cases hx : k = x
      · simp [mfind, hx]
      · have : ¬ d.hd.toInt = x := fun e => hx (h.symm.trans e)
        simp [mfind, hx, this]
    · rw [mset, if_neg h]
      by_cases hd : d.hd.toInt = x
      · have : ¬ k = x := fun e => h (hd.trans e.symm)
        simp [mfind, hd, this]
      · have e1 : mfind (d :: mset l k v) x = mfind (mset l k v) x := by simp [mfind, hd]
        have e2 : mfind (d :: l) x = mfind l x := by simp [mfind, hd]
        rw [e1, ih, e2]
/-- What a map of numbers to true says of a number. -/
def mtrue (m : List C) (x : Int) : Bool := (match mfind m x with | some d => d.tl.hd | none => C.bool false).toBool
theorem mtrue_nil (x : Int) : mtrue [] x = false := rfl
theorem mtrue_mset (m : List C) (k x : Int) : mtrue (mset m k (.bool true)) x = if k = x then true else mtrue m x := by
  unfold mtrue
  rw [mfind_mset]
  by_cases h : k = x <;> simp [h]
theorem nib_hi (x : Nat) (h : x < 256) : arith .shr .u8 (x : Int) 4 = ((x / 16 : Nat) : Int) := shrN .u8 x 4 (by decide)
theorem nib_lo (x : Nat) (h : x < 256) : arith .and .u8 (x : Int) 15 = ((x % 16 : Nat) : Int) := by
  have := arith_andU (k := .u8) rfl (a := x) (b := 15) h (by decide)
  rw [show ((15 : Nat) : Int) = 15 from rfl] at this
  rw [this, Nat.and_two_pow_sub_one_eq_mod x 4]
theorem pc_single_ends (x : Nat) (h : x < 256) : PC Try.prog f__elem_single__ends [(.unit, .ls []), (U8, .int (x : Int))] [(.bool, .bool (decide (x / 16 = 15 ∨ x / 16 = 0)))] := by
  apply pcv__elem_single__ends rfl
  simp only [vc__elem_single__ends, VC.H_ret, ev_var, ev_int, ev_bool, ev_bin, ev_eql, ev_ite, ea_nil, ea_cons, env_zero, env_succ, List.map_cons, List.map_nil, v_int, v_bool, bool_ite, decide_eq_true_eq, nib_hi x h]
  have e : (if (decide (((x / 16 : Nat) : Int) = 15)) = true then true else decide (((x / 16 : Nat) : Int) = 0)) = decide (x / 16 = 15 ∨ x / 16 = 0) := by
    rw [Bool.eq_iff_iff]
    by_cases h1 : x / 16 = 15
    · simp [h1]
    · have e1 : ¬ ((x / 16 : Nat) : Int) = 15 := by omega
      rw [if_neg (by simpa using e1)]
      simp only [decide_eq_true_eq, h1, false_or]
      omega
  first
    | (rw [← e]; simp)
    | (simp only [decide_eq_true_eq] at e ⊢; rw [e])
theorem pc_double_ends (x : Nat) : PC Try.prog f__elem_double__ends [(.unit, .ls []), (U8, .int (x : Int))] [(.bool, .bool false)] := by
  apply pcv__elem_double__ends rfl
  simp only [vc__elem_double__ends, VC.H_ret, ev_bool, ea_nil, ea_cons, List.map_cons, List.map_nil]
theorem pc_single_begin (b : List UInt8) (h : 0 < b.length) : PC Try.prog f__elem_single__begin [(.unit, .ls []), (Byt, B b)] [(SpSh, .ls [.int ((at_ b 0 / 16 : Nat) : Int), .int 1, .int ((at_ b 0 % 16 + 1 : Nat) : Int)]), (.bool, .bool true)] := by
  have hx := at_lt b 0
  apply pcv__elem_single__begin rfl
  simp only [vc__elem_single__begin, VC.H_asrt, VC.H_ret, ev_var, ev_int, ev_bool, ev_nil, ev_cons, ev_bin, ev_add, ev_lss, ev_conv, ev_len, ev_idx, ev_fits64, ea_nil, ea_cons, env_zero, env_succ, List.map_cons, List.map_nil, v_int, v_bool, v_ls, pres_nil, decide_eq_true_eq, forall_const, ofBytes_length, ofBytes_getD, Int.toNat_zero, atD, nib_hi _ hx, nib_lo _ hx]
  rw [wrapi64_in (by omega), wrapi64_in (by omega)]
  refine ⟨by omega, by omega, by omega, ?_⟩
  simp
theorem pc_double_begin (b : List UInt8) (h : 2 ≤ b.length) : PC Try.prog f__elem_double__begin [(.unit, .ls []), (Byt, B b)] [(SpSh, .ls [.int ((at_ b 0 : Nat) : Int), .int 2, .int ((at_ b 1 : Nat) : Int)]), (.bool, .bool true)] := by
  have hx := at_lt b 0
  have hy := at_lt b 1
  apply pcv__elem_double__begin rfl
  simp only [vc__elem_double__begin, VC.H_asrt, VC.H_cond, VC.H_ret, ev_var, ev_int, ev_bool, ev_nil, ev_cons, ev_lss, ev_conv, ev_len, ev_idx, ea_nil, ea_cons, env_zero, env_succ, List.map_cons, List.map_nil, v_int, v_bool, v_ls, pres_nil, decide_eq_true_eq, decide_eq_false_iff_not, forall_const, Int.not_lt, ofBytes_length, ofBytes_getD, Int.toNat_zero, Int.toNat_one, atD]
  rw [wrapi64_in (by omega), wrapi64_in (by omega)]
  refine ⟨fun hc => by omega, fun _ => ⟨by omega, by omega, rfl⟩⟩
theorem pc_double_short (b : List UInt8) (h : b.length < 2) : PC Try.prog f__elem_double__begin [(.unit, .ls []), (Byt, B b)] [(SpSh, .ls [.int 0, .int 0, .int 0]), (.bool, .bool false)] := by
  apply pcv__elem_double__begin rfl
  simp only [vc__elem_double__begin, VC.H_asrt, VC.H_cond, VC.H_ret, ev_var, ev_int, ev_bool, ev_nil, ev_cons, ev_lss, ev_conv, ev_len, ev_idx, ea_nil, ea_cons, env_zero, env_succ, List.map_cons, List.map_nil, v_int, v_bool, v_ls, pres_nil, decide_eq_true_eq, decide_eq_false_iff_not, forall_const, Int.not_lt, ofBytes_length]
  refine ⟨fun hc => trivial, fun hc => by omega⟩
theorem at_drop (b : List UInt8) (k i : Nat) : at_ (b.drop k) i = at_ b (k + i) := by
  unfold at_; rw [List.getD_eq_getElem?_getD, List.getD_eq_getElem?_getD, List.getElem?_drop]
theorem cutB (b : List UInt8) (k : Nat) : B (b.drop k) = C.ls (List.drop k (List.take b.length (ofBytes b))) := by
  rw [List.take_of_length_le (by simp), ofBytes_drop]
theorem sps_snoc (l : List Sp) (s : Sp) : l.map SpC ++ [SpC s] = (l ++ [s]).map SpC := by simp
structure WkSt where
  p : Nat
  out : List Sp
  m : List C
def WkSt.enc (s : WkSt) : List C := [.ls [], .int 0, Sps s.out, .int (s.p : Int), .ls s.m]
def WkSt.inv (nar : Bool) (b : List UInt8) (s : WkSt) : Prop := s.p ≤ b.length ∧ wk nar b 0 [] = wk nar b s.p s.out ∧ (∀ x : Nat, mtrue s.m x = decide (x ∈ spIds s.out)) ∧ s.out.length ≤ s.p
theorem WkSt.next {nar : Bool} {b : List UInt8} {s : WkSt} (h : s.inv nar b) (h0 : s.p < b.length) (h1 : ¬ at_ b s.p = 0) (h2 : ¬ (nar = true ∧ (at_ b s.p / 16 = 15 ∨ at_ b s.p / 16 = 0))) (h3 : ¬ (nar = false ∧ b.length ≤ s.p + 1))
    (h4 : ¬ b.length < (spAt nar b s.p).pos + (spAt nar b s.p).size) (h5 : ¬ (spAt nar b s.p).id ∈ spIds s.out) :
    (WkSt.mk ((spAt nar b s.p).pos + (spAt nar b s.p).size) (s.out ++ [spAt nar b s.p]) (mset s.m (spAt nar b s.p).id (.bool true))).inv nar b ∧ b.length - ((spAt nar b s.p).pos + (spAt nar b s.p).size) < b.length - s.p := by
  obtain ⟨i1, i2, i3, i4⟩ := h
  have hfar := spAt_far nar b s.p
  refine ⟨⟨by simp only; omega, ?_, fun x => ?_, ?_⟩, by omega⟩
  · rw [i2, wk_step h0 h1 h2 h3 h4 h5]
  · simp only
    rw [mtrue_mset, i3]
    by_cases hx : ((spAt nar b s.p).id : Int) = x
    · have : (spAt nar b s.p).id = x := by omega
      rw [if_pos hx]
      simp [spIds, this]
    · have : ¬ x = (spAt nar b s.p).id := by omega
      rw [if_neg hx]
      simp [spIds, this]
  · simp only [List.length_append, List.length_singleton]
    omega
theorem pc_elem_walk1 (b : List UInt8) (hb : b.length ≤ 1000000) (c0 : C) (hc0 : c0 = .ls []) : PC Try.prog f_elem_walk1 [(If1, c0), (Byt, B b)] [(.sl SpSh, Sps (wk true b 0 []).1), (I64, .int (wk true b 0 []).2)] := by
  subst hc0
  apply pcv_elem_walk1 rfl
  simp only [vc_elem_walk1, List.map_cons, List.map_nil]
  refine VC.go_loop WkSt.enc (WkSt.inv true b) (fun s => b.length - s.p) ⟨0, [], []⟩ (by simp [WkSt.enc, E.eval]) ⟨Nat.zero_le _, rfl, fun x => by simp [mtrue_nil, spIds], Nat.le_refl _⟩ fun s hs => ?_
  obtain ⟨i1, i2, i3, i4⟩ := id hs
  have hx := at_lt b s.p
  simp only [WkSt.enc, VC.H_asrt, VC.H_cond, VC.H_ret, VC.H_back, VC.H_call1, VC.H_call2, ev_var, ev_int, ev_bool, ev_nil, ev_nilS, ev_cons, ev_hd, ev_tl, ev_add, ev_mul, ev_eql, ev_lss, ev_leq, ev_gtr, ev_geq, ev_not, ev_ite, ev_len, ev_idx, ev_sub, ev_app, ev_fits64, ev_mget, ev_mput, ea_nil, ea_cons, env_zero, env_succ, env_cons, env_nil, List.map_cons, List.map_nil, v_int, v_bool, v_ls, toBool_ite, pres_nil, notT, notF, decide_eq_true_eq, decide_eq_false_iff_not, forall_const, Int.not_lt, ofBytes_length, ofBytes_getD, Int.toNat_natCast, atD]
  refine ⟨fun hc => ⟨by omega, by omega, fun hz => ?_, fun hz => ?_⟩, fun hc => ?_⟩
  · refine ⟨by omega, ⟨s.p + 1, s.out, s.m⟩, by simp, ⟨by simp only; omega, ?_, i3, by simp only; omega⟩, by simp only; omega⟩
    rw [i2, wk_zero (by omega) (by omega)]
  · refine ⟨by omega, by omega, _, pc_single_ends _ hx, ?_⟩
    simp only [v_bool, decide_eq_true_eq, decide_eq_false_iff_not]
    refine ⟨fun he => ?_, fun he => ?_⟩
    · rw [i2, wk_stop (by omega) (by omega) ⟨rfl, he⟩]
    · have hbd := pc_single_begin (b.drop s.p) (by rw [List.length_drop]; omega)
      rw [at_drop, Nat.add_zero, cutB] at hbd
      refine ⟨by omega, by omega, by omega, _, _, hbd, ?_⟩
      simp only [v_int, v_bool, v_hd, v_tl, forall_const]
      refine ⟨fun hf => by simp at hf, by omega, by omega, fun hl => ?_, fun hl => ⟨fun ht => ?_, fun ht => ?_⟩⟩
      · rw [i2, wk_long (by omega) (by omega) (by simp; omega) (by simp) (by simp [spAt]; omega)]
        rfl
      · have ht : mtrue s.m ((at_ b s.p / 16 : Nat) : Int) = true := ht
        rw [i3] at ht
        rw [i2, wk_twice (by omega) (by omega) (by simp; omega) (by simp) (by simp [spAt]; omega) (by simpa [spAt] using ht)]
        rfl
      · have ht : mtrue s.m ((at_ b s.p / 16 : Nat) : Int) = false := ht
        rw [i3] at ht
        obtain ⟨n1, n2⟩ := WkSt.next (nar := true) hs (by omega) (by omega) (by simp; omega) (by simp) (by simp [spAt]; omega) (by simpa [spAt] using ht)
        refine ⟨?_, by omega, _, ?_, n1, n2⟩
        · simp only [List.length_map, List.length_cons, List.length_nil]; omega
        · simp only [spAt, if_true]
          rw [show (1 + (s.p : Int)) = ((s.p + 1 : Nat) : Int) by omega, ← Int.natCast_add]
          simp only [Sps, List.map_append, List.map_cons, List.map_nil]
  · rw [i2, wk_end (by omega)]
theorem pc_elem_walk2 (b : List UInt8) (hb : b.length ≤ 1000000) (c0 : C) (hc0 : c0 = .ls []) : PC Try.prog f_elem_walk2 [(If2, c0), (Byt, B b)] [(.sl SpSh, Sps (wk false b 0 []).1), (I64, .int (wk false b 0 []).2)] := by
  subst hc0
  apply pcv_elem_walk2 rfl
  simp only [vc_elem_walk2, List.map_cons, List.map_nil]
  refine VC.go_loop WkSt.enc (WkSt.inv false b) (fun s => b.length - s.p) ⟨0, [], []⟩ (by simp [WkSt.enc, E.eval]) ⟨Nat.zero_le _, rfl, fun x => by simp [mtrue_nil, spIds], Nat.le_refl _⟩ fun s hs => ?_
  obtain ⟨i1, i2, i3, i4⟩ := id hs
  have hx := at_lt b s.p
  have hy := at_lt b (s.p + 1)
  simp only [WkSt.enc, VC.H_asrt, VC.H_cond, VC.H_ret, VC.H_back, VC.H_call1, VC.H_call2, ev_var, ev_int, ev_bool, ev_nil, ev_nilS, ev_cons, ev_hd, ev_tl, ev_add, ev_mul, ev_eql, ev_lss, ev_leq, ev_gtr, ev_geq, ev_not, ev_ite, ev_len, ev_idx, ev_sub, ev_app, ev_fits64, ev_mget, ev_mput, ea_nil, ea_cons, env_zero, env_succ, env_cons, env_nil, List.map_cons, List.map_nil, v_int, v_bool, v_ls, toBool_ite, pres_nil, notT, notF, decide_eq_true_eq, decide_eq_false_iff_not, forall_const, Int.not_lt, ofBytes_length, ofBytes_getD, Int.toNat_natCast, atD]
  refine ⟨fun hc => ⟨by omega, by omega, fun hz => ?_, fun hz => ?_⟩, fun hc => ?_⟩
  · refine ⟨by omega, ⟨s.p + 1, s.out, s.m⟩, by simp, ⟨by simp only; omega, ?_, i3, by simp only; omega⟩, by simp only; omega⟩
    rw [i2, wk_zero (by omega) (by omega)]
  · refine ⟨by omega, by omega, _, pc_double_ends _, ?_⟩
    simp only [v_bool, forall_const]
    by_cases h1 : b.length ≤ s.p + 1
    · have hbd := pc_double_short (b.drop s.p) (by rw [List.length_drop]; omega)
      rw [cutB] at hbd
      refine ⟨fun he => by simp at he, by omega, by omega, by omega, _, _, hbd, ?_⟩
      simp only [v_int, v_bool, v_hd, v_tl, forall_const]
      refine ⟨?_, fun hf => by simp at hf⟩
      rw [i2, wk_short (by omega) (by omega) (by simp) ⟨rfl, h1⟩]
      rfl
    · have hbd := pc_double_begin (b.drop s.p) (by rw [List.length_drop]; omega)
      rw [at_drop, at_drop, Nat.add_zero, cutB] at hbd
      refine ⟨fun he => by simp at he, by omega, by omega, by omega, _, _, hbd, ?_⟩
      simp only [v_int, v_bool, v_hd, v_tl, forall_const]
      refine ⟨fun hf => by simp at hf, by omega, by omega, fun hl => ?_, fun hl => ⟨fun ht => ?_, fun ht => ?_⟩⟩
      · rw [i2, wk_long (by omega) (by omega) (by simp) (by simp; omega) (by simp [spAt]; omega)]
        rfl
      · have ht : mtrue s.m ((at_ b s.p : Nat) : Int) = true := ht
        rw [i3] at ht
        rw [i2, wk_twice (by omega) (by omega) (by simp) (by simp; omega) (by simp [spAt]; omega) (by simpa [spAt] using ht)]
        rfl
      · have ht : mtrue s.m ((at_ b s.p : Nat) : Int) = false := ht
        rw [i3] at ht
        obtain ⟨n1, n2⟩ := WkSt.next (nar := false) hs (by omega) (by omega) (by simp) (by simp; omega) (by simp [spAt]; omega) (by simpa [spAt] using ht)
        refine ⟨?_, by omega, _, ?_, n1, n2⟩
        · simp only [List.length_map, List.length_cons, List.length_nil]; omega
        · simp only [spAt, Bool.false_eq_true, if_false]
          rw [show (2 + (s.p : Int)) = ((s.p + 2 : Nat) : Int) by omega, ← Int.natCast_add]
          simp only [Sps, List.map_append, List.map_cons, List.map_nil]
  · rw [i2, wk_end (by omega)]
theorem and65520 (q : Nat) (h : q < 65536) : arith .and .u16 (q : Int) 65520 = ((q / 16 * 16 : Nat) : Int) := by
  have := arith_andU (k := .u16) rfl (a := q) (b := 65520) h (by decide)
  rw [show ((65520 : Nat) : Int) = 65520 from rfl] at this
  rw [this]
  congr 1
  have e : q / 16 * 16 = (q >>> 4) <<< 4 := by rw [Nat.shiftRight_eq_div_pow, Nat.shiftLeft_eq]
  rw [e]
  apply Nat.eq_of_testBit_eq
  intro i
  rw [Nat.testBit_and, Nat.testBit_shiftLeft, Nat.testBit_shiftRight]
  by_cases hi : i < 16
  · have h65 : ∀ i : Fin 16, (65520 : Nat).testBit i.1 = decide (i.1 ≥ 4) := by decide
    rw [h65 ⟨i, hi⟩]
    by_cases h4 : i ≥ 4
    · simp [h4, show 4 + (i - 4) = i by omega]
    · simp [h4]
  · have h1 : q.testBit i = false := Nat.testBit_lt_two_pow (Nat.lt_of_lt_of_le h (Nat.pow_le_pow_right (n := 2) (by decide) (show 16 ≤ i by omega)))
    have h2 : q.testBit (4 + (i - 4)) = false := by rw [show 4 + (i - 4) = i by omega]; exact h1
    rw [h1, h2]
    simp
theorem pc_elem_Spots (q : Nat) (hq : q < 65536) (b : List UInt8) (hb : b.length ≤ 1000000) : PC Try.prog f_elem_Spots [(U16, .int (q : Int)), (Byt, B b)] [(.sl SpSh, Sps (spots q b).1), (I64, .int (spots q b).2)] := by
  apply pcv_elem_Spots rfl
  simp only [vc_elem_Spots, VC.H_cond, VC.H_ret, VC.H_call2, ev_var, ev_int, ev_nil, ev_nilS, ev_bin, ev_eql, ea_nil, ea_cons, env_zero, env_succ, env_cons, env_nil, List.map_cons, List.map_nil, v_int, v_bool, pres_nil, decide_eq_true_eq, decide_eq_false_iff_not, forall_const, and65520 q hq]
  unfold spots
  refine ⟨fun h1 => ⟨_, _, pc_elem_walk1 b hb _ rfl, ?_⟩, fun h1 => ⟨fun h2 => ⟨_, _, pc_elem_walk2 b hb _ rfl, ?_⟩, fun h2 => ?_⟩⟩
  · rw [if_pos (by omega)]
  · rw [if_neg (by omega), if_pos (by omega)]
  · rw [if_neg (by omega), if_neg (by omega)]
    rfl
structure RtSt where
  k : Nat
  m : List C
theorem pc_elem_Right (l : List El) (hl : l.length ≤ 1000000) : PC Try.prog f_elem_Right [(.sl ElSh, Els l)] [(.bool, .bool (decide (elRight l)))] := by
  apply pcv_elem_Right rfl
  simp only [vc_elem_Right, List.map_cons, List.map_nil]
  refine VC.go_loop (fun s : RtSt => [.bool false, .int (s.k : Int), .ls s.m]) (fun s => s.k ≤ l.length ∧ (∀ j, j < s.k → elAt l j) ∧ ∀ x : Int, mtrue s.m x = decide (x ∈ elIds (l.take s.k))) (fun s => l.length - s.k) ⟨0, []⟩ rfl
    ⟨Nat.zero_le _, fun j hj => absurd hj (Nat.not_lt_zero j), fun x => by simp [mtrue_nil, elIds]⟩ fun s hs => ?_
  obtain ⟨i1, i2, i3⟩ := hs
  simp only [VC.H_asrt, VC.H_cond, VC.H_ret, VC.H_back, ev_var, ev_int, ev_bool, ev_hd, ev_tl, ev_add, ev_lss, ev_gtr, ev_geq, ev_ite, ev_len, ev_idx, ev_fits64, ev_mget, ev_mput, ea_nil, ea_cons, env_zero, env_succ, env_cons, env_nil, List.map_cons, List.map_nil, v_int, v_bool, v_ls, toBool_ite, bool_ite, pres_nil, orT, orF, decide_eq_true_eq, decide_eq_false_iff_not, forall_const, Int.not_lt, List.length_map]
  refine ⟨fun hc => ?_, fun hc => ?_⟩
  · have hk : s.k < l.length := by omega
    have hg : (l.map ElC).getD ((s.k : Int)).toNat default = ElC (l.getD s.k El.zero) := by simp [List.getD, hk]
    rw [hg]
    have hat : elAt l s.k ↔ 1 ≤ (l.getD s.k El.zero).id ∧ (l.getD s.k El.zero).id ≤ 255 ∧ (l.getD s.k El.zero).data.length ≤ 255 ∧ (l.getD s.k El.zero).id ∉ elIds (l.take s.k) := Iff.rfl
    have htk : l.take (s.k + 1) = l.take s.k ++ [l.getD s.k El.zero] := by rw [List.take_succ_eq_append_getElem hk]; simp [List.getD, hk]
    generalize l.getD s.k El.zero = e at hat htk
    have hm := i3 e.id
    simp only [v_hd, v_tl, v_int, v_ls, ofBytes_length, if_true]
    refine ⟨by omega, by omega, fun h => ?_, fun h => ?_⟩
    · have h : ((e.id < 1 ∨ 255 < e.id) ∨ mtrue s.m e.id = true) ∨ (255 : Int) < e.data.length := h
      rw [hm, decide_eq_true_eq] at h
      have hn : ¬ elRight l := fun hr => by
        have h1 := hat.1 (hr s.k hk)
        rcases h with (h | h) | h
        · omega
        · exact h1.2.2.2 h
        · omega
      rw [decide_eq_false hn]
    · have h : ¬((e.id < 1 ∨ 255 < e.id) ∨ mtrue s.m e.id = true) ∧ (e.data.length : Int) ≤ 255 := h
      rw [hm, decide_eq_true_eq] at h
      · have hin : ¬ e.id ∈ elIds (l.take s.k) := fun hh => h.1 (.inr hh)
        have h2 : ¬ (e.id < 1 ∨ 255 < e.id) := fun hh => h.1 (.inl hh)
        have hok : 1 ≤ e.id ∧ e.id ≤ 255 ∧ e.data.length ≤ 255 := by omega
        refine ⟨by omega, ⟨s.k + 1, _⟩, by simp; rfl, ⟨by simp only; omega, fun j hj => ?_, fun x => ?_⟩, by simp only; omega⟩
        · by_cases hjk : j = s.k
          · rw [hjk]; exact hat.2 ⟨hok.1, hok.2.1, hok.2.2, hin⟩
          · simp only at hj; exact i2 j (by omega)
        · simp only
          rw [mtrue_mset, i3, htk]
          by_cases hx : e.id = x
          · rw [if_pos hx]; simp [elIds, hx]
          · have : ¬ x = e.id := fun h => hx h.symm
            rw [if_neg hx]
            simp [elIds, this]
  · have he : s.k = l.length := by omega
    rw [decide_eq_true (show elRight l from fun j hj => i2 j (by omega))]
end Go.Vc
