/-
  Plans as data; whether a plan is right, in the program and in the reference, each contract out of its condition.
-/
import Derived.Test.YtodhgafhllbojaaDoorQYa
set_option maxRecDepth 100000
namespace Go.Vc
open Go Go.Proofs Go.Plain
/-! The place of an id. -/
def atN : List Int → Int → Nat → Int
  | [], _, _ => -1
  | y :: t, x, i => if y = x then (i : Int) else atN t x (i + 1)
def atL (l : List Int) (x : Int) : Int := atN l x 0
theorem atN_mem : ∀ (l : List Int) (x : Int) (i : Nat), (0 ≤ atN l x i ↔ x ∈ l) ∧ (x ∈ l → (i : Int) ≤ atN l x i ∧ atN l x i < (i : Int) + l.length)
  | [], x, i => by simp [atN]
  | y :: t, x, i => by
    obtain ⟨h1, h2⟩ := atN_mem t x (i + 1)
    unfold atN
    by_cases h : y = x
    · simp [h]; omega
    · have hx : ¬ x = y := fun e => h e.symm
      rw [if_neg h]
      simp only [List.mem_cons, hx, false_or, List.length_cons]
      refine ⟨h1, fun hm => ?_⟩
      have := h2 hm
      omega
theorem atN_app : ∀ (a b : List Int) (x : Int) (i : Nat), x ∉ a → atN (a ++ b) x i = atN b x (i + a.length)
  | [], b, x, i, _ => by simp
  | y :: t, b, x, i, h => by
    simp only [List.mem_cons, not_or] at h
    have e : atN (y :: t ++ b) x i = atN (t ++ b) x (i + 1) := by
      show (if y = x then _ else _) = _
      rw [if_neg (fun e => h.1 e.symm)]
      rfl
    rw [e, atN_app t b x (i + 1) h.2, List.length_cons]
    congr 1
    omega
theorem atN_in : ∀ (a b : List Int) (x : Int) (i : Nat), x ∈ a → atN (a ++ b) x i < (i : Int) + a.length
  | y :: t, b, x, i, h => by
    by_cases hy : y = x
    · have e : atN (y :: t ++ b) x i = i := by show (if y = x then _ else _) = _; rw [if_pos hy]
      rw [e]; simp; omega
    · have e : atN (y :: t ++ b) x i = atN (t ++ b) x (i + 1) := by show (if y = x then _ else _) = _; rw [if_neg hy]; rfl
      rw [e]
      have := atN_in t b x (i + 1) (by rcases List.mem_cons.1 h with h | h; exact absurd h.symm hy; exact h)
      simp only [List.length_cons]
      omega
theorem at_first (l : List Int) (i : Nat) (h : i < l.length) : atL l (l.getD i 0) = (i : Int) ↔ l.getD i 0 ∉ l.take i := by
  have e : l = l.take i ++ l.getD i 0 :: l.drop (i + 1) := by
    have := List.drop_eq_getElem_cons h
    have g : l.getD i 0 = l[i] := by simp [List.getD, h]
    rw [g, ← this, List.take_append_drop]
  have hl : (l.take i).length = i := by rw [List.length_take]; omega
  unfold atL
  constructor
  · intro hh hm
    have := atN_in (l.take i) (l.getD i 0 :: l.drop (i + 1)) (l.getD i 0) 0 hm
    rw [← e, hh, hl] at this
    omega
  · intro hm
    have := atN_app (l.take i) (l.getD i 0 :: l.drop (i + 1)) (l.getD i 0) 0 hm
    rw [← e, hl] at this
    rw [this]
    unfold atN
    simp
theorem pc_ref29_at (l : List Int) (x : Int) (hl : l.length ≤ 1000000) : PC Tryd.prog f_crossbarref29_at [(.sl I64, Ints l), (I64, .int x)] [(I64, .int (atL l x))] := by
  apply pcv_crossbarref29_at rfl
  simp only [vc_crossbarref29_at, List.map_cons, List.map_nil]
  refine VC.go_loop (fun i : Nat => [.int 0, .int (i : Int)]) (fun i => i ≤ l.length ∧ atL l x = atN (l.drop i) x i) (fun i => l.length - i) 0 rfl ⟨Nat.zero_le _, rfl⟩ fun i hi => ?_
  obtain ⟨i1, i2⟩ := hi
  simp only [VC.H_asrt, VC.H_cond, VC.H_ret, VC.H_back, ev_var, ev_int, ev_add, ev_eql, ev_lss, ev_geq, ev_len, ev_idx, ev_fits64, ea_nil, ea_cons, env_zero, env_succ, env_cons, env_nil, List.map_cons, List.map_nil, v_int, v_bool, v_ls, pres_nil, decide_eq_true_eq, decide_eq_false_iff_not, forall_const, Int.not_lt, List.length_map]
  refine ⟨fun hc => ?_, fun hc => ?_⟩
  · have hk : i < l.length := by omega
    rw [Int.toNat_natCast, int_getD l i hk, v_int]
    have hd : l.drop i = l.getD i 0 :: l.drop (i + 1) := by rw [List.drop_eq_getElem_cons hk]; simp [List.getD, hk]
    rw [hd] at i2
    unfold atN at i2
    refine ⟨by omega, by omega, fun h => ?_, fun h => ⟨by omega, i + 1, by simp, ⟨by omega, ?_⟩, by omega⟩⟩
    · rw [if_pos h] at i2; rw [i2]
    · rw [if_neg h] at i2; exact i2
  · have : i = l.length := by omega
    subst this
    rw [List.drop_length] at i2
    rw [i2]
    rfl
theorem pc_ref29_may (l : List Int) (hl : l.length ≤ 1000000) : PC Tryd.prog f_crossbarref29_may [(.sl I64, Ints l)] [(.bool, .bool (decide (idsRight l)))] := by
  apply pcv_crossbarref29_may rfl
  simp only [vc_crossbarref29_may, List.map_cons, List.map_nil]
  refine VC.go_loop (fun i : Nat => [.bool false, .int (i : Int)]) (fun i => i ≤ l.length ∧ ∀ j, j < i → idAt l j) (fun i => l.length - i) 0 rfl ⟨Nat.zero_le _, fun j hj => absurd hj (Nat.not_lt_zero j)⟩ fun i hi => ?_
  obtain ⟨i1, i2⟩ := hi
  simp only [VC.H_asrt, VC.H_cond, VC.H_ret, VC.H_back, VC.H_call1, ev_var, ev_int, ev_bool, ev_add, ev_neq, ev_lss, ev_gtr, ev_geq, ev_ite, ev_len, ev_idx, ev_fits64, ea_nil, ea_cons, env_zero, env_succ, env_cons, env_nil, List.map_cons, List.map_nil, v_int, v_bool, v_ls, bool_ite, pres_nil, pres_cons, orT, orF, nnE, decide_eq_true_eq, decide_eq_false_iff_not, forall_const, and_true, Int.not_lt, List.length_map]
  refine ⟨fun hc => ?_, fun hc => ?_⟩
  · have hk : i < l.length := by omega
    rw [Int.toNat_natCast, int_getD l i hk, v_int]
    have hf := at_first l i hk
    have hat : idAt l i ↔ 1 ≤ l.getD i 0 ∧ l.getD i 0 ≤ 255 ∧ l.getD i 0 ∉ l.take i := Iff.rfl
    refine ⟨by omega, by omega, fun _ => by omega, fun _ => by omega, fun _ => by omega, fun _ => by omega, _, fun _ => pc_ref29_at l (l.getD i 0) hl, fun h => ?_, fun h => ⟨by omega, i + 1, by simp, ⟨by omega, fun j hj => ?_⟩, by omega⟩⟩
    · have : ¬ idsRight l := fun hr => by
        have h1 := hat.1 (hr i hk)
        rcases h with h | h
        · omega
        · exact h (hf.2 h1.2.2)
      rw [decide_eq_false this]
    · by_cases hj2 : j = i
      · rw [hj2]
        refine hat.2 ⟨by omega, by omega, hf.1 h.2⟩
      · exact i2 j (by omega)
  · have : i = l.length := by omega
    subst this
    rw [decide_eq_true (show idsRight l from i2)]
theorem pc_ref29_froms (l : List Mp) (hl : l.length ≤ 1000000) : PC Tryd.prog f_crossbarref29_froms [(.sl MpSh, Mps l)] [(.sl I64, Ints (l.map (·.fr)))] := by
  apply pcv_crossbarref29_froms rfl
  simp only [vc_crossbarref29_froms, List.map_cons, List.map_nil]
  refine VC.go_loop (fun i : Nat => [Ints ((l.map (·.fr)).take i), .int (i : Int)]) (fun i => i ≤ l.length) (fun i => l.length - i) 0 rfl (Nat.zero_le _) fun i hi => ?_
  simp only [VC.H_asrt, VC.H_cond, VC.H_ret, VC.H_back, ev_var, ev_int, ev_nil, ev_cons, ev_hd, ev_add, ev_mul, ev_lss, ev_leq, ev_geq, ev_len, ev_idx, ev_app, ev_fits64, ea_nil, ea_cons, env_zero, env_succ, env_cons, env_nil, List.map_cons, List.map_nil, v_int, v_bool, v_ls, pres_nil, decide_eq_true_eq, decide_eq_false_iff_not, forall_const, Int.not_lt, List.length_map]
  refine ⟨fun hc => ?_, fun hc => ?_⟩
  · have hk : i < l.length := by omega
    rw [Int.toNat_natCast, mp_getD l i hk]
    simp only [v_hd, List.length_take, List.length_map, List.length_singleton]
    refine ⟨by omega, by omega, by omega, by omega, i + 1, ?_, by omega, by omega⟩
    rw [List.take_succ_eq_append_getElem (by simpa using hk)]
    simp [List.getD, hk]
  · have : i = l.length := by omega
    subst this
    rw [List.take_of_length_le (by simp)]
theorem pc_ref29_tos (l : List Mp) (hl : l.length ≤ 1000000) : PC Tryd.prog f_crossbarref29_tos [(.sl MpSh, Mps l)] [(.sl I64, Ints (l.map (·.to)))] := by
  apply pcv_crossbarref29_tos rfl
  simp only [vc_crossbarref29_tos, List.map_cons, List.map_nil]
  refine VC.go_loop (fun i : Nat => [Ints ((l.map (·.to)).take i), .int (i : Int)]) (fun i => i ≤ l.length) (fun i => l.length - i) 0 rfl (Nat.zero_le _) fun i hi => ?_
  simp only [VC.H_asrt, VC.H_cond, VC.H_ret, VC.H_back, ev_var, ev_int, ev_nil, ev_cons, ev_hd, ev_tl, ev_add, ev_mul, ev_lss, ev_leq, ev_geq, ev_len, ev_idx, ev_app, ev_fits64, ea_nil, ea_cons, env_zero, env_succ, env_cons, env_nil, List.map_cons, List.map_nil, v_int, v_bool, v_ls, pres_nil, decide_eq_true_eq, decide_eq_false_iff_not, forall_const, Int.not_lt, List.length_map]
  refine ⟨fun hc => ?_, fun hc => ?_⟩
  · have hk : i < l.length := by omega
    rw [Int.toNat_natCast, mp_getD l i hk]
    simp only [v_hd, v_tl, List.length_take, List.length_map, List.length_singleton]
    refine ⟨by omega, by omega, by omega, by omega, i + 1, ?_, by omega, by omega⟩
    rw [List.take_succ_eq_append_getElem (by simpa using hk)]
    simp [List.getD, hk]
  · have : i = l.length := by omega
    subst this
    rw [List.take_of_length_le (by simp)]
theorem pc_ref29_Ids (l : List El) (hl : l.length ≤ 1000000) : PC Tryd.prog f_crossbarref29_Ids [(.sl ElSh, Els l)] [(.sl I64, Ints (elIds l))] := by
  apply pcv_crossbarref29_Ids rfl
  simp only [vc_crossbarref29_Ids, List.map_cons, List.map_nil]
  refine VC.go_loop (fun i : Nat => [Ints ((elIds l).take i), .int (i : Int)]) (fun i => i ≤ l.length) (fun i => l.length - i) 0 rfl (Nat.zero_le _) fun i hi => ?_
  simp only [VC.H_asrt, VC.H_cond, VC.H_ret, VC.H_back, ev_var, ev_int, ev_nil, ev_cons, ev_hd, ev_add, ev_mul, ev_lss, ev_leq, ev_geq, ev_len, ev_idx, ev_app, ev_fits64, ea_nil, ea_cons, env_zero, env_succ, env_cons, env_nil, List.map_cons, List.map_nil, v_int, v_bool, v_ls, pres_nil, decide_eq_true_eq, decide_eq_false_iff_not, forall_const, Int.not_lt, List.length_map]
  refine ⟨fun hc => ?_, fun hc => ?_⟩
  · have hk : i < l.length := by omega
    have hk2 : i < (elIds l).length := by simpa [elIds] using hk
    rw [el_getD l i hk]
    simp only [v_hd, List.length_take, List.length_singleton]
    refine ⟨by omega, by omega, by omega, by omega, i + 1, ?_, by omega, by omega⟩
    rw [List.take_succ_eq_append_getElem hk2]
    simp [List.getD, hk, elIds]
  · have : i = l.length := by omega
    subst this
    rw [List.take_of_length_le (by simp [elIds])]
/-! Plans. -/
structure Pl where
  sm : Bool
  m : Bool
  st : Bool
  ty : Int
  sq : Bool
  seq : Int
  stm : Bool
  time : Int
  ss : Bool
  ssrc : Int
  maps : List Mp
  over : List El
  drops : List Int
  adds : List El
  np : Bool
  deriving DecidableEq
abbrev PlSh : Sh := .pair .bool (.pair .bool (.pair .bool (.pair I64 (.pair .bool (.pair (.int .u16) (.pair .bool (.pair (.int .u32) (.pair .bool (.pair (.int .u32) (.pair (.sl MpSh) (.pair (.sl ElSh) (.pair (.sl I64) (.pair (.sl ElSh) (.pair .bool .unit))))))))))))))
abbrev PlC (p : Pl) : C := .ls [.bool p.sm, .bool p.m, .bool p.st, .int p.ty, .bool p.sq, .int p.seq, .bool p.stm, .int p.time, .bool p.ss, .int p.ssrc, Mps p.maps, Els p.over, Ints p.drops, Els p.adds, .bool p.np]
def dropMap (l : List Int) : List C := l.foldl (fun m d => mset m d (.bool true)) []
theorem dropMap_snoc (l : List Int) (x : Int) : dropMap (l ++ [x]) = mset (dropMap l) x (.bool true) := by unfold dropMap; rw [List.foldl_append]; rfl
theorem dropMap_fold (x : Int) : ∀ (l : List Int) (m : List C), mtrue (l.foldl (fun m d => mset m d (.bool true)) m) x = (mtrue m x || decide (x ∈ l))
  | [], m => by simp
  | y :: l, m => by
    rw [List.foldl_cons, dropMap_fold x l, mtrue_mset]
    by_cases h : y = x
    · simp [h]
    · have : ¬ x = y := fun e => h e.symm
      simp [h, this]
theorem dropMap_mem (l : List Int) (x : Int) : mtrue (dropMap l) x = decide (x ∈ l) := by
  unfold dropMap
  rw [dropMap_fold, mtrue_nil, Bool.false_or]
def flagsOk (p : Pl) : Prop := (p.sm = true ∨ p.m = false) ∧ (p.st = true ∨ p.ty = 0) ∧ (p.sq = true ∨ p.seq = 0) ∧ (p.stm = true ∨ p.time = 0) ∧ (p.ss = true ∨ p.ssrc = 0) ∧ 0 ≤ p.ty ∧ p.ty ≤ 127
instance (p : Pl) : Decidable (flagsOk p) := by unfold flagsOk; infer_instance
def plRight (p : Pl) : Prop := flagsOk p ∧ idsRight (p.maps.map (·.fr)) ∧ idsRight (p.maps.map (·.to)) ∧ idsRight p.drops ∧ elRight p.over ∧ elRight p.adds ∧ (∀ d ∈ p.drops, d ∉ p.maps.map (·.fr)) ∧ ∀ d ∈ p.drops, d ∉ elIds p.over
instance (p : Pl) : Decidable (plRight p) := by unfold plRight; infer_instance
def plFew (p : Pl) : Prop := p.maps.length ≤ 1000000 ∧ p.over.length ≤ 1000000 ∧ p.drops.length ≤ 1000000 ∧ p.adds.length ≤ 1000000
theorem pc_plan_drops (p : Pl) (h : plFew p) : PC Tryd.prog f_plan_drops [(PlSh, PlC p)] [(.mp .i64 .bool, .ls (dropMap p.drops))] := by
  obtain ⟨_, _, hl, _⟩ := h
  apply pcv_plan_drops rfl
  simp only [vc_plan_drops, List.map_cons, List.map_nil]
  refine VC.go_loop (fun i : Nat => [.int (i : Int), .ls (dropMap (p.drops.take i))]) (fun i => i ≤ p.drops.length) (fun i => p.drops.length - i) 0 rfl (Nat.zero_le _) fun i hi => ?_
  simp only [VC.H_asrt, VC.H_cond, VC.H_ret, VC.H_back, ev_var, ev_int, ev_bool, ev_hd, ev_tl, ev_add, ev_lss, ev_geq, ev_len, ev_idx, ev_fits64, ev_mput, ea_nil, ea_cons, env_zero, env_succ, env_cons, env_nil, List.map_cons, List.map_nil, v_int, v_bool, v_ls, v_hd, v_tl, pres_nil, decide_eq_true_eq, decide_eq_false_iff_not, forall_const, Int.not_lt, List.length_map]
  refine ⟨fun hc => ?_, fun hc => ?_⟩
  · have hk : i < p.drops.length := by omega
    rw [Int.toNat_natCast, int_getD _ i hk]
    refine ⟨by omega, by omega, by omega, i + 1, ?_, by omega, by omega⟩
    rw [List.take_succ_eq_append_getElem hk, dropMap_snoc]
    simp [List.getD, hk]
  · have : i = p.drops.length := by omega
    subst this
    rw [List.take_length]
theorem pc_plan_Right (p : Pl) (h : plFew p) : PC Tryd.prog f_plan_Right [(PlSh, PlC p)] [(.bool, .bool (decide (plRight p)))] := by
  have hh := h
  obtain ⟨h1, h2, h3, h4⟩ := h
  apply pcv_plan_Right rfl
  simp only [vc_plan_Right, VC.H_cond, VC.H_ret, VC.H_call1, ev_var, ev_int, ev_bool, ev_nil, ev_cons, ev_hd, ev_tl, ev_neq, ev_lss, ev_gtr, ev_not, ev_ite, ea_nil, ea_cons, env_zero, env_succ, env_cons, env_nil, List.map_cons, List.map_nil, v_int, v_bool, v_ls, v_hd, v_tl, bool_ite, pres_nil, pres_cons, orT, orF, andT, andF, notT, notF, nnE, decide_eq_true_eq, decide_eq_false_iff_not, forall_const, and_true, Int.not_lt]
  refine ⟨fun h => ?_, fun g1 => ⟨fun h => ?_, fun g2 => ⟨_, pc_distinct_from p.maps h1, _, fun _ => pc_distinct_to p.maps h1, _, fun _ => pc_distinct_it p.drops h3, fun h => ?_, fun g3 => ⟨_, pc_elem_Right p.over h2, _, fun _ => pc_elem_Right p.adds h4, fun h => ?_, fun g4 => ⟨_, pc_plan_drops p hh, ?_⟩⟩⟩⟩⟩
  · have : ¬ plRight p := by
      rintro ⟨⟨f1, f2, f3, f4, f5, f6, f7⟩, _⟩
      rcases h with (⟨a, b⟩ | ⟨a, b⟩) | ⟨a, b⟩ <;> simp_all
    rw [decide_eq_false this]
  · have : ¬ plRight p := by
      rintro ⟨⟨f1, f2, f3, f4, f5, f6, f7⟩, _⟩
      rcases h with ((⟨a, b⟩ | ⟨a, b⟩) | h) | h
      · simp_all
      · simp_all
      · omega
      · omega
    rw [decide_eq_false this]
  · have : ¬ plRight p := by
      rintro ⟨_, r1, r2, r3, _⟩
      simp only [v_bool, decide_eq_false_iff_not] at h
      rcases h with (h | h) | h
      · exact h r1
      · exact h r2
      · exact h r3
    rw [decide_eq_false this]
  · have : ¬ plRight p := by
      rintro ⟨_, _, _, _, r1, r2, _⟩
      simp only [v_bool, decide_eq_false_iff_not] at h
      rcases h with h | h
      · exact h r1
      · exact h r2
    rw [decide_eq_false this]
  simp only [v_bool, decide_eq_false_iff_not, decide_eq_true_eq, not_or, Decidable.not_not] at g3 g4
  have gf : flagsOk p := by
    refine ⟨?_, ?_, ?_, ?_, ?_, by omega, by omega⟩
    · cases hb : p.sm <;> cases hc : p.m <;> simp_all
    · cases hb : p.st <;> simp_all
    · cases hb : p.sq <;> simp_all
    · cases hb : p.stm <;> simp_all
    · cases hb : p.ss <;> simp_all
  refine VC.go_loop (fun i : Nat => [.bool false, .int (i : Int)]) (fun i => i ≤ p.maps.length ∧ ∀ m ∈ p.maps.take i, m.fr ∉ p.drops) (fun i => p.maps.length - i) 0 rfl ⟨Nat.zero_le _, by simp⟩ fun i hi => ?_
  obtain ⟨i1, i2⟩ := hi
  simp only [VC.H_asrt, VC.H_cond, VC.H_ret, VC.H_back, ev_var, ev_int, ev_bool, ev_hd, ev_tl, ev_add, ev_lss, ev_geq, ev_ite, ev_len, ev_idx, ev_fits64, ev_mget, ea_nil, ea_cons, env_zero, env_succ, env_cons, env_nil, List.map_cons, List.map_nil, v_int, v_bool, v_ls, v_hd, v_tl, toBool_ite, pres_nil, decide_eq_true_eq, decide_eq_false_iff_not, forall_const, Int.not_lt, List.length_map]
  refine ⟨fun hc => ?_, fun hc => ?_⟩
  · have hk : i < p.maps.length := by omega
    rw [Int.toNat_natCast, mp_getD p.maps i hk]
    have hm : p.maps.getD i Mp.zero ∈ p.maps := by simp [List.getD, hk]
    have ht : p.maps.take (i + 1) = p.maps.take i ++ [p.maps.getD i Mp.zero] := by rw [List.take_succ_eq_append_getElem hk]; simp [List.getD, hk]
    generalize p.maps.getD i Mp.zero = e at hm ht
    simp only [v_hd, v_int, if_true]
    refine ⟨by omega, by omega, fun h => ?_, fun h => ⟨by omega, i + 1, by simp, ⟨by omega, ?_⟩, by omega⟩⟩
    · have : ¬ plRight p := by
        rintro ⟨_, _, _, _, _, _, r, _⟩
        have h : mtrue (dropMap p.drops) e.fr = true := h
        rw [dropMap_mem, decide_eq_true_eq] at h
        exact r _ h (List.mem_map.2 ⟨e, hm, rfl⟩)
      rw [decide_eq_false this]
    · rw [ht]
      intro m hm2
      rcases List.mem_append.1 hm2 with hm2 | hm2
      · exact i2 m hm2
      · rw [List.mem_singleton] at hm2; rw [hm2]
        have h : mtrue (dropMap p.drops) e.fr = false := h
        rw [dropMap_mem, decide_eq_false_iff_not] at h
        exact h
  · have : i = p.maps.length := by omega
    subst this
    rw [List.take_length] at i2
    refine VC.go_loop (fun k : Nat => [.bool false, .int (k : Int)]) (fun k => k ≤ p.over.length ∧ ∀ m ∈ p.over.take k, m.id ∉ p.drops) (fun k => p.over.length - k) 0 rfl ⟨Nat.zero_le _, by simp⟩ fun k hk => ?_
    obtain ⟨k1, k2⟩ := hk
    simp only [VC.H_asrt, VC.H_cond, VC.H_ret, VC.H_back, ev_var, ev_int, ev_bool, ev_hd, ev_tl, ev_add, ev_lss, ev_geq, ev_ite, ev_len, ev_idx, ev_fits64, ev_mget, ea_nil, ea_cons, env_zero, env_succ, env_cons, env_nil, List.map_cons, List.map_nil, v_int, v_bool, v_ls, v_hd, v_tl, toBool_ite, pres_nil, decide_eq_true_eq, decide_eq_false_iff_not, forall_const, Int.not_lt, List.length_map]
    refine ⟨fun hc => ?_, fun hc => ?_⟩
    · have hk : k < p.over.length := by omega
      rw [el_getD p.over k hk]
      have hm := el_mem hk
      have ht := el_take p.over k hk
      generalize p.over.getD k El.zero = e at hm ht
      simp only [v_hd, v_int, if_true]
      refine ⟨by omega, by omega, fun h => ?_, fun h => ⟨by omega, k + 1, by simp, ⟨by omega, ?_⟩, by omega⟩⟩
      · have : ¬ plRight p := by
          rintro ⟨_, _, _, _, _, _, _, r⟩
          have h : mtrue (dropMap p.drops) e.id = true := h
          rw [dropMap_mem, decide_eq_true_eq] at h
          exact r _ h (List.mem_map.2 ⟨e, hm, rfl⟩)
        rw [decide_eq_false this]
      · rw [ht]
        intro m hm2
        rcases List.mem_append.1 hm2 with hm2 | hm2
        · exact k2 m hm2
        · rw [List.mem_singleton] at hm2; rw [hm2]
          have h : mtrue (dropMap p.drops) e.id = false := h
          rw [dropMap_mem, decide_eq_false_iff_not] at h
          exact h
    · have : k = p.over.length := by omega
      subst this
      rw [List.take_length] at k2
      have : plRight p := by
        refine ⟨gf, g3.1.1, g3.1.2, g3.2, g4.1, g4.2, fun d hd hm => ?_, fun d hd hm => ?_⟩
        · obtain ⟨m, hm1, rfl⟩ := List.mem_map.1 hm
          exact i2 m hm1 hd
        · obtain ⟨m, hm1, rfl⟩ := List.mem_map.1 hm
          exact k2 m hm1 hd
      rw [decide_eq_true this]
theorem pc_ref29_Right (p : Pl) (h : plFew p) : PC Tryd.prog f_crossbarref29_Right [(PlSh, PlC p)] [(.bool, .bool (decide (plRight p)))] := by
  obtain ⟨h1, h2, h3, h4⟩ := h
  apply pcv_crossbarref29_Right rfl
  simp only [vc_crossbarref29_Right, VC.H_cond, VC.H_ret, VC.H_call1, ev_var, ev_int, ev_bool, ev_hd, ev_tl, ev_neq, ev_lss, ev_gtr, ev_not, ev_ite, ea_nil, ea_cons, env_zero, env_succ, env_cons, env_nil, List.map_cons, List.map_nil, v_int, v_bool, v_hd, v_tl, bool_ite, pres_nil, pres_cons, orT, orF, andT, andF, notT, notF, nnE, decide_eq_true_eq, decide_eq_false_iff_not, and_true, Int.not_lt]
  refine ⟨fun h => ?_, fun g1 => ⟨_, fun _ => pc_ref29_froms p.maps h1, _, fun _ => pc_ref29_may _ (by simpa using h1), _, fun _ => pc_ref29_tos p.maps h1, _, fun _ => pc_ref29_may _ (by simpa using h1), _, fun _ => pc_ref08_Right p.over h2, _, fun _ => pc_ref08_Right p.adds h4, _, fun _ => pc_ref29_may p.drops h3, fun h => ?_, fun g2 => ?_⟩⟩
  · have : ¬ plRight p := by
      rintro ⟨⟨f1, f2, f3, f4, f5, f6, f7⟩, _⟩
      rcases h with (((⟨a, b⟩ | ⟨a, b⟩) | ⟨a, b⟩) | ⟨a, b⟩) | ⟨a, b⟩ <;> simp_all
    rw [decide_eq_false this]
  · have : ¬ plRight p := by
      rintro ⟨⟨f1, f2, f3, f4, f5, f6, f7⟩, r1, r2, r3, r4, r5, _⟩
      simp only [v_bool, decide_eq_false_iff_not] at h
      rcases h with (((((h | h) | h) | h) | h) | h) | h
      · omega
      · omega
      · exact h r1
      · exact h r2
      · exact h r4
      · exact h r5
      · exact h r3
    rw [decide_eq_false this]
  simp only [v_bool, decide_eq_false_iff_not, decide_eq_true_eq, not_or, Decidable.not_not] at g2
  have gf : flagsOk p := by
    refine ⟨?_, ?_, ?_, ?_, ?_, by omega, by omega⟩
    · cases hb : p.sm <;> cases hc : p.m <;> simp_all
    · cases hb : p.st <;> simp_all
    · cases hb : p.sq <;> simp_all
    · cases hb : p.stm <;> simp_all
    · cases hb : p.ss <;> simp_all
  refine VC.go_loop (fun i : Nat => [.bool false, .int (i : Int)]) (fun i => i ≤ p.drops.length ∧ ∀ d ∈ p.drops.take i, d ∉ p.maps.map (·.fr) ∧ d ∉ elIds p.over) (fun i => p.drops.length - i) 0 rfl ⟨Nat.zero_le _, by simp⟩ fun i hi => ?_
  obtain ⟨i1, i2⟩ := hi
  simp only [VC.H_asrt, VC.H_cond, VC.H_ret, VC.H_back, VC.H_call1, ev_var, ev_int, ev_bool, ev_hd, ev_tl, ev_add, ev_lss, ev_geq, ev_ite, ev_len, ev_idx, ev_fits64, ea_nil, ea_cons, env_zero, env_succ, env_cons, env_nil, List.map_cons, List.map_nil, v_int, v_bool, v_ls, v_hd, v_tl, bool_ite, pres_nil, pres_cons, orT, orF, decide_eq_true_eq, decide_eq_false_iff_not, forall_const, and_true, Int.not_lt, Int.not_le, List.length_map]
  refine ⟨fun hc => ⟨_, pc_ref29_froms p.maps h1, ?_⟩, fun hc => ?_⟩
  · have hk : i < p.drops.length := by omega
    rw [Int.toNat_natCast, int_getD p.drops i hk]
    have hm : p.drops.getD i 0 ∈ p.drops := by simp [List.getD, hk]
    have ht : p.drops.take (i + 1) = p.drops.take i ++ [p.drops.getD i 0] := by rw [List.take_succ_eq_append_getElem hk]; simp [List.getD, hk]
    generalize p.drops.getD i 0 = d at hm ht
    refine ⟨by omega, by omega, _, pc_ref29_at (p.maps.map (·.fr)) d (by simpa using h1), _, fun _ => pc_ref29_Ids p.over h2, fun _ => by omega, fun _ => by omega, _, fun _ => pc_ref29_at (elIds p.over) d (by simpa [elIds] using h2), ?_⟩
    simp only [v_int]
    have a1 := (atN_mem (p.maps.map (·.fr)) d 0).1
    have a2 := (atN_mem (elIds p.over) d 0).1
    refine ⟨fun h => ?_, fun h => ⟨by omega, i + 1, by simp, ⟨by omega, ?_⟩, by omega⟩⟩
    · have : ¬ plRight p := by
        rintro ⟨_, _, _, _, _, _, r1, r2⟩
        rcases h with h | h
        · exact r1 d hm (a1.1 h)
        · exact r2 d hm (a2.1 h)
      rw [decide_eq_false this]
    · rw [ht]
      intro x hx
      rcases List.mem_append.1 hx with hx | hx
      · exact i2 x hx
      · rw [List.mem_singleton] at hx
        rw [hx]
        exact ⟨fun hh => absurd (a1.2 hh) (by unfold atL at h; omega), fun hh => absurd (a2.2 hh) (by unfold atL at h; omega)⟩
  · have : i = p.drops.length := by omega
    subst this
    rw [List.take_length] at i2
    have : plRight p := ⟨gf, g2.1.1.1.1.2, g2.1.1.1.2, g2.2, g2.1.1.2, g2.1.2, fun d hd => (i2 d hd).1, fun d hd => (i2 d hd).2⟩
    rw [decide_eq_true this]
def plShort (p : Pl) : Prop := p.maps.length ≤ 300 ∧ p.drops.length ≤ 300 ∧ elShort p.over = true ∧ elShort p.adds = true
instance (p : Pl) : Decidable (plShort p) := by unfold plShort; infer_instance
theorem plShort_few {p : Pl} (h : plShort p) : p.maps.length ≤ 300 ∧ p.over.length ≤ 300 ∧ p.drops.length ≤ 300 ∧ p.adds.length ≤ 300 ∧ (∀ e ∈ p.over, e.data.length ≤ 400) ∧ ∀ e ∈ p.adds, e.data.length ≤ 400 := by
  obtain ⟨h1, h2, h3, h4⟩ := h
  have e3 := of_decide_eq_true h3
  have e4 := of_decide_eq_true h4
  exact ⟨h1, e3.2, h2, e4.2, e3.1, e4.1⟩
theorem pc_ref29_Short (p : Pl) (h2 : p.over.length ≤ maxLen) (h4 : p.adds.length ≤ maxLen) : PC Tryd.prog f_crossbarref29_Short [(PlSh, PlC p)] [(.bool, .bool (decide (plShort p)))] := by
  apply pcv_crossbarref29_Short rfl
  simp only [vc_crossbarref29_Short, VC.H_ret, VC.H_call1, ev_var, ev_int, ev_bool, ev_hd, ev_tl, ev_leq, ev_ite, ev_len, ea_nil, ea_cons, env_zero, env_succ, env_cons, env_nil, List.map_cons, List.map_nil, v_int, v_bool, v_ls, v_hd, v_tl, toBool_ite, bool_ite, pres_nil, pres_cons, andT, decide_eq_true_eq, and_true, List.length_map]
  refine ⟨_, fun _ => pc_ref08_Short p.over h2, _, fun _ => pc_ref08_Short p.adds h4, ?_⟩
  congr 2
  by_cases h1 : p.maps.length ≤ 300 <;> by_cases hd : p.drops.length ≤ 300 <;> cases ho : elShort p.over <;> cases ha : elShort p.adds <;> simp [plShort, h1, hd, ho, ha, show ((p.maps.length : Int) ≤ 300) ↔ p.maps.length ≤ 300 by omega, show ((p.drops.length : Int) ≤ 300) ↔ p.drops.length ≤ 300 by omega]
theorem len_pos {α : Type} (l : List α) : ((0 : Int) < (l.length : Int)) ↔ l ≠ [] := by
  cases l with
  | nil => simp
  | cons x t => simp
theorem pc_plan_anew (p : Pl) : PC Tryd.prog f_plan_anew [(PlSh, PlC p)] [(.bool, .bool (decide (p.drops ≠ [] ∨ p.adds ≠ [])))] := by
  apply pcv_plan_anew rfl
  simp only [vc_plan_anew, VC.H_ret, ev_var, ev_int, ev_bool, ev_hd, ev_tl, ev_gtr, ev_ite, ev_len, ea_nil, ea_cons, env_zero, List.map_cons, List.map_nil, v_int, v_bool, v_ls, v_hd, v_tl, bool_ite, decide_eq_true_eq, List.length_map]
  generalize p.drops = d
  generalize p.adds = a
  cases d <;> cases a <;> simp <;> omega
theorem pc_plan_Elements (p : Pl) : PC Tryd.prog f_plan_Elements [(PlSh, PlC p)] [(.bool, .bool (decide (p.maps ≠ [] ∨ p.over ≠ [] ∨ p.drops ≠ [] ∨ p.adds ≠ [])))] := by
  apply pcv_plan_Elements rfl
  simp only [vc_plan_Elements, VC.H_ret, VC.H_call1, ev_var, ev_int, ev_bool, ev_nil, ev_cons, ev_hd, ev_tl, ev_gtr, ev_ite, ev_len, ea_nil, ea_cons, env_zero, env_succ, env_cons, env_nil, List.map_cons, List.map_nil, v_int, v_bool, v_ls, v_hd, v_tl, bool_ite, pres_nil, pres_cons, orT, orF, decide_eq_true_eq, decide_eq_false_iff_not, and_true, Int.not_lt, List.length_map]
  refine ⟨_, fun _ => pc_plan_anew p, ?_⟩
  congr 2
  generalize p.maps = a1
  generalize p.over = a2
  generalize p.drops = a3
  generalize p.adds = a4
  cases a1 <;> cases a2 <;> cases a3 <;> cases a4 <;> simp <;> omega
def Pl.zero : Pl := ⟨false, false, false, 0, false, 0, false, 0, false, 0, [], [], [], [], false⟩
theorem pc_plan_Empty (p : Pl) : PC Tryd.prog f_plan_Empty [(PlSh, PlC p)] [(.bool, .bool (decide (p = Pl.zero)))] := by
  apply pcv_plan_Empty rfl
  simp only [vc_plan_Empty, VC.H_ret, VC.H_call1, ev_var, ev_int, ev_bool, ev_nil, ev_cons, ev_hd, ev_tl, ev_eql, ev_not, ev_ite, ea_nil, ea_cons, env_zero, env_succ, env_cons, env_nil, List.map_cons, List.map_nil, v_int, v_bool, v_ls, v_hd, v_tl, bool_ite, pres_nil, pres_cons, andT, notT, decide_eq_true_eq, and_true]
  refine ⟨_, fun _ => pc_plan_Elements p, ?_⟩
  obtain ⟨a1, a2, a3, a4, a5, a6, a7, a8, a9, a10, a11, a12, a13, a14, a15⟩ := p
  congr 2
  by_cases h : (⟨a1, a2, a3, a4, a5, a6, a7, a8, a9, a10, a11, a12, a13, a14, a15⟩ : Pl) = Pl.zero
  · rw [decide_eq_true h]
    simp only [Pl.zero, Pl.mk.injEq] at h
    obtain ⟨rfl, rfl, rfl, rfl, rfl, rfl, rfl, rfl, rfl, rfl, rfl, rfl, rfl, rfl, rfl⟩ := h
    simp
  · rw [decide_eq_false h]
    simp only [Pl.zero, Pl.mk.injEq] at h
    simp
    intros
    simp_all
theorem pc_ref24_Ints (a b : List Int) (ha : a.length ≤ 1000000) : PC Tryd.prog f_crossbarref24_Ints [(.sl I64, Ints a), (.sl I64, Ints b)] [(.bool, .bool (decide (a = b)))] := by
  apply pcv_crossbarref24_Ints rfl
  simp only [vc_crossbarref24_Ints, VC.H_cond, VC.H_ret, ev_var, ev_bool, ev_neq, ev_len, ea_nil, ea_cons, env_zero, env_succ, List.map_cons, List.map_nil, v_int, v_bool, v_ls, nnE, decide_eq_true_eq, decide_eq_false_iff_not, List.length_map]
  refine ⟨fun hl => ?_, fun hl => ?_⟩
  · have : a ≠ b := fun e => hl (by rw [e])
    simp [this]
  · have hl : a.length = b.length := by omega
    refine VC.go_loop (fun i : Nat => [.bool false, .int i]) (fun i => i ≤ a.length ∧ a.take i = b.take i) (fun i => a.length - i) 0 rfl ⟨Nat.zero_le _, rfl⟩ fun i hi => ?_
    simp only [VC.H_asrt, VC.H_cond, VC.H_ret, VC.H_back, ev_var, ev_int, ev_bool, ev_add, ev_neq, ev_lss, ev_geq, ev_len, ev_idx, ev_fits64, ea_nil, ea_cons, env_zero, env_succ, env_cons, env_nil, List.map_cons, List.map_nil, v_int, v_bool, v_ls, pres_nil, nnE, decide_eq_true_eq, decide_eq_false_iff_not, forall_const, Int.not_lt, List.length_map]
    refine ⟨fun hc => ⟨by omega, by omega, by omega, by omega, ?_⟩, fun hc => ?_⟩
    · rw [Int.toNat_natCast, int_getD _ _ (by omega), int_getD _ _ (by omega), v_int, v_int]
      refine ⟨fun hn => ?_, fun hn => ⟨by omega, i + 1, by simp, ⟨by omega, ?_⟩, by omega⟩⟩
      · have : a ≠ b := fun e => hn (by rw [e])
        simp [this]
      · rw [List.take_succ_eq_append_getElem (by omega), List.take_succ_eq_append_getElem (by omega), hi.2]
        simp [List.getD, show i < a.length by omega, show i < b.length by omega] at hn
        rw [hn]
    · have h2 := hi.2
      rw [List.take_of_length_le (by omega), List.take_of_length_le (by omega)] at h2
      simp [h2]
abbrev TmSh : Sh := .pair I64 (.pair I64 (.pair (.sl I64) (.pair (.sl I64) (.pair (.sl I64) .unit))))
abbrev TmC (l : List Int) : C := .ls [.int 0, .int 0, Ints l, .ls [], .ls []]
theorem pc_ref27_Template (a b : List Int) (ha : a.length ≤ 1000000) : PC Tryd.prog f_crossbarref27_Template [(TmSh, TmC a), (TmSh, TmC b)] [(.bool, .bool (decide (a = b)))] := by
  apply pcv_crossbarref27_Template rfl
  simp only [vc_crossbarref27_Template, VC.H_ret, VC.H_call1, ev_var, ev_bool, ev_hd, ev_tl, ev_eql, ev_ite, ea_nil, ea_cons, env_zero, env_succ, env_cons, env_nil, List.map_cons, List.map_nil, v_int, v_bool, v_hd, v_tl, toBool_ite, bool_ite, pres_nil, pres_cons, andT, decide_eq_true_eq, forall_const, and_true, true_and]
  refine ⟨_, pc_ref24_Ints a b ha, _, fun _ => pc_ref24_Ints [] [] (by simp), _, fun _ => pc_ref24_Ints [] [] (by simp), ?_⟩
  by_cases h : a = b <;> simp [h]
theorem pc_ref30_Drops (a b : List Int) (ha : a.length ≤ 1000000) : PC Tryd.prog f_crossbarref30_Drops [(.sl I64, Ints a), (.sl I64, Ints b)] [(.bool, .bool (decide (a = b)))] := by
  apply pcv_crossbarref30_Drops rfl
  simp only [vc_crossbarref30_Drops, VC.H_ret, VC.H_call1, ev_var, ev_int, ev_nil, ev_nilS, ev_cons, ea_nil, ea_cons, env_zero, env_succ, env_cons, env_nil, List.map_cons, List.map_nil, v_ls, pres_nil, forall_const]
  exact ⟨_, pc_ref27_Template a b ha, rfl⟩
theorem pc_ref30_Same (p q : Pl) (h : plFew p) : PC Tryd.prog f_crossbarref30_Same [(PlSh, PlC p), (PlSh, PlC q)] [(.bool, .bool (decide (p = q)))] := by
  obtain ⟨h1, h2, h3, h4⟩ := h
  apply pcv_crossbarref30_Same rfl
  simp only [vc_crossbarref30_Same, VC.H_cond, VC.H_ret, ev_var, ev_bool, ev_hd, ev_tl, ev_neq, ev_beq, ev_not, ev_ite, ev_len, ea_nil, ea_cons, env_zero, env_succ, List.map_cons, List.map_nil, v_int, v_bool, v_ls, v_hd, v_tl, bool_ite, orT, orF, notT, notF, nnE, decide_eq_true_eq, decide_eq_false_iff_not, List.length_map]
  refine ⟨fun h => ?_, fun g1 => ⟨fun h => ?_, fun g2 => ?_⟩⟩
  · have : p ≠ q := by
      rintro rfl
      simp at h
    rw [decide_eq_false this]
  · have : p ≠ q := by
      rintro rfl
      simp at h
    rw [decide_eq_false this]
  · have hl : p.maps.length = q.maps.length := by omega
    refine VC.go_loop (fun i : Nat => [.bool false, .int (i : Int)]) (fun i => i ≤ p.maps.length ∧ p.maps.take i = q.maps.take i) (fun i => p.maps.length - i) 0 rfl ⟨Nat.zero_le _, rfl⟩ fun i hi => ?_
    obtain ⟨i1, i2⟩ := hi
    simp only [VC.H_asrt, VC.H_cond, VC.H_ret, VC.H_back, VC.H_call1, ev_var, ev_int, ev_bool, ev_hd, ev_tl, ev_add, ev_lss, ev_geq, ev_not, ev_ite, ev_len, ev_idx, ev_deq, ev_fits64, ea_nil, ea_cons, env_zero, env_succ, env_cons, env_nil, List.map_cons, List.map_nil, v_int, v_bool, v_ls, v_hd, v_tl, toBool_ite, pres_nil, pres_cons, andT, notT, notF, decide_eq_true_eq, decide_eq_false_iff_not, forall_const, and_true, Int.not_lt, List.length_map]
    refine ⟨fun hc => ?_, fun hc => ?_⟩
    · have hk : i < p.maps.length := by omega
      have hk2 : i < q.maps.length := by omega
      rw [Int.toNat_natCast, mp_getD p.maps i hk, mp_getD q.maps i hk2]
      have tp : p.maps.take (i + 1) = p.maps.take i ++ [p.maps.getD i Mp.zero] := by rw [List.take_succ_eq_append_getElem hk]; simp [List.getD, hk]
      have tq : q.maps.take (i + 1) = q.maps.take i ++ [q.maps.getD i Mp.zero] := by rw [List.take_succ_eq_append_getElem hk2]; simp [List.getD, hk2]
      have hne : p.maps.getD i Mp.zero ≠ q.maps.getD i Mp.zero → p ≠ q := fun hh e => hh (by rw [e])
      generalize p.maps.getD i Mp.zero = x at tp hne
      generalize q.maps.getD i Mp.zero = y at tq hne
      obtain ⟨x1, x2⟩ := x
      obtain ⟨y1, y2⟩ := y
      have hd : dataEq (.pair (.int .i64) (.pair (.int .i64) .unit)) (MpC ⟨x1, x2⟩) (MpC ⟨y1, y2⟩) = decide (x1 = y1 ∧ x2 = y2) := by
        simp [dataEq]
        rfl
      simp only [hd, decide_eq_true_eq, decide_eq_false_iff_not]
      refine ⟨by omega, by omega, by omega, by omega, fun h => ?_, fun h => ⟨by omega, i + 1, by simp, ⟨by omega, ?_⟩, by omega⟩⟩
      · have : p ≠ q := hne (by simp only [ne_eq, Mp.mk.injEq]; exact h)
        rw [decide_eq_false this]
      · rw [tp, tq, i2, h.1, h.2]
    · have : i = p.maps.length := by omega
      subst this
      rw [List.take_length, hl, List.take_length] at i2
      refine ⟨_, pc_ref30_Drops p.drops q.drops h3, _, fun _ => pc_ref08_Same p.over q.over h2, _, fun _ => pc_ref08_Same p.adds q.adds h4, ?_⟩
      simp only [v_bool]
      by_cases d1 : p.drops = q.drops
      · by_cases d2 : p.over = q.over
        · by_cases d3 : p.adds = q.adds
          · have : p = q := by
              obtain ⟨a1, a2, a3, a4, a5, a6, a7, a8, a9, a10, a11, a12, a13, a14, a15⟩ := p
              obtain ⟨b1, b2, b3, b4, b5, b6, b7, b8, b9, b10, b11, b12, b13, b14, b15⟩ := q
              simp only [Pl.mk.injEq] at *
              simp at g1
              simp_all
            simp [this]
          · have : p ≠ q := fun e => d3 (by rw [e])
            simp [d1, d2, d3, this]
        · have : p ≠ q := fun e => d2 (by rw [e])
          simp [d1, d2, this]
      · have : p ≠ q := fun e => d1 (by rw [e])
        simp [d1, this]
end Go.Vc
