/-
  The contracts of what asks whether a plan is right: lists of ids, elements, in the program and in the reference, each out of its condition.
-/
import Derived.Test.YtodhgafhllbojaaDoorQVcs1
import Derived.Test.YtodhgafhllbojaaDoorQTc
import Derived.Test.YtodhgafhllbojaaDoorQBase3
set_option maxRecDepth 100000
namespace Go.Vc
open Go Go.Proofs Go.Plain
abbrev ElSh : Sh := .pair I64 (.pair (.sl U8) .unit)
abbrev ElC (e : El) : C := .ls [.int e.id, .ls (ofBytes e.data)]
abbrev Els (l : List El) : C := .ls (l.map ElC)
theorem mfind_mset (x : Int) (k : Int) (v : C) : ∀ l : List C, mfind (mset l k v) x = if k = x then some (.ls [.int k, v]) else mfind l x
  | [] => by
    by_cases h : k = x
    · simp [mset, mfind, h]
    · simp [mset, mfind, h]
  | d :: l => by
    have ih := mfind_mset x k v l
    by_cases h : d.hd.toInt = k
    · rw [mset, if_pos h]
      by_cases hx : k = x
      · simp [mfind, hx]
      · have : ¬ d.hd.toInt = x := fun e => hx (h.symm.trans e)
        simp [mfind, hx, this]
    · rw [mset, if_neg h]
      by_cases hd : d.hd.toInt = x
      · have : ¬ k = x := fun e => h (hd.trans e.symm)
        simp [mfind, hd, this]
      · have e1 : mfind (d :: mset l k v) x = mfind (mset l k v) x := by simp [mfind, hd]
        have e2 : mfind (d :: l) x = mfind l x := by simp [mfind, hd]
        rw [e1, ih, e2]
/-- What a map of numbers to true says of a number. -/
def mtrue (m : List C) (x : Int) : Bool := (match mfind m x with | some d => d.tl.hd | none => C.bool false).toBool
theorem mtrue_nil (x : Int) : mtrue [] x = false := rfl
theorem mtrue_mset (m : List C) (k x : Int) : mtrue (mset m k (.bool true)) x = if k = x then true else mtrue m x := by
  unfold mtrue
  rw [mfind_mset]
  by_cases h : k = x <;> simp [h]
theorem el_getD (l : List El) (i : Nat) (h : i < l.length) : (l.map ElC).getD ((i : Int)).toNat default = ElC (l.getD i El.zero) := by simp [List.getD, h]
theorem el_take (l : List El) (i : Nat) (h : i < l.length) : l.take (i + 1) = l.take i ++ [l.getD i El.zero] := by rw [List.take_succ_eq_append_getElem h]; simp [List.getD, h]
theorem el_mem {l : List El} {i : Nat} (h : i < l.length) : l.getD i El.zero ∈ l := by simp [List.getD, h]
structure RtSt where
  k : Nat
  m : List C
theorem pc_elem_Right (l : List El) (hl : l.length ≤ 1000000) : PC Tryd.prog f_elem_Right [(.sl ElSh, Els l)] [(.bool, .bool (decide (elRight l)))] := by
  apply pcv_elem_Right rfl
  simp only [vc_elem_Right, List.map_cons, List.map_nil]
  refine VC.go_loop (fun s : RtSt => [.bool false, .int (s.k : Int), .ls s.m]) (fun s => s.k ≤ l.length ∧ (∀ j, j < s.k → elAt l j) ∧ ∀ x : Int, mtrue s.m x = decide (x ∈ elIds (l.take s.k))) (fun s => l.length - s.k) ⟨0, []⟩ rfl
    ⟨Nat.zero_le _, fun j hj => absurd hj (Nat.not_lt_zero j), fun x => by simp [mtrue_nil, elIds]⟩ fun s hs => ?_
  obtain ⟨i1, i2, i3⟩ := hs
  simp only [VC.H_asrt, VC.H_cond, VC.H_ret, VC.H_back, ev_var, ev_int, ev_bool, ev_hd, ev_tl, ev_add, ev_lss, ev_gtr, ev_geq, ev_ite, ev_len, ev_idx, ev_fits64, ev_mget, ev_mput, ea_nil, ea_cons, env_zero, env_succ, env_cons, env_nil, List.map_cons, List.map_nil, v_int, v_bool, v_ls, toBool_ite, bool_ite, pres_nil, orT, orF, decide_eq_true_eq, decide_eq_false_iff_not, forall_const, Int.not_lt, List.length_map]
  refine ⟨fun hc => ?_, fun hc => ?_⟩
  · have hk : s.k < l.length := by omega
    have hg : (l.map ElC).getD ((s.k : Int)).toNat default = ElC (l.getD s.k El.zero) := by simp [List.getD, hk]
    rw [hg]
    have hat : elAt l s.k ↔ 1 ≤ (l.getD s.k El.zero).id ∧ (l.getD s.k El.zero).id ≤ 255 ∧ (l.getD s.k El.zero).data.length ≤ 255 ∧ (l.getD s.k El.zero).id ∉ elIds (l.take s.k) := Iff.rfl
    have htk : l.take (s.k + 1) = l.take s.k ++ [l.getD s.k El.zero] := by rw [List.take_succ_eq_append_getElem hk]; simp [List.getD, hk]
    generalize l.getD s.k El.zero = e at hat htk
    have hm := i3 e.id
    simp only [v_hd, v_tl, v_int, v_ls, ofBytes_length, if_true]
    refine ⟨by omega, by omega, fun h => ?_, fun h => ?_⟩
    · have h : ((e.id < 1 ∨ 255 < e.id) ∨ mtrue s.m e.id = true) ∨ (255 : Int) < e.data.length := h
      rw [hm, decide_eq_true_eq] at h
      have hn : ¬ elRight l := fun hr => by
        have h1 := hat.1 (hr s.k hk)
        rcases h with (h | h) | h
        · omega
        · exact h1.2.2.2 h
        · omega
      rw [decide_eq_false hn]
    · have h : ¬((e.id < 1 ∨ 255 < e.id) ∨ mtrue s.m e.id = true) ∧ (e.data.length : Int) ≤ 255 := h
      rw [hm, decide_eq_true_eq] at h
      · have hin : ¬ e.id ∈ elIds (l.take s.k) := fun hh => h.1 (.inr hh)
        have h2 : ¬ (e.id < 1 ∨ 255 < e.id) := fun hh => h.1 (.inl hh)
        have hok : 1 ≤ e.id ∧ e.id ≤ 255 ∧ e.data.length ≤ 255 := by omega
        refine ⟨by omega, ⟨s.k + 1, _⟩, by simp; rfl, ⟨by simp only; omega, fun j hj => ?_, fun x => ?_⟩, by simp only; omega⟩
        · by_cases hjk : j = s.k
          · rw [hjk]; exact hat.2 ⟨hok.1, hok.2.1, hok.2.2, hin⟩
          · simp only at hj; exact i2 j (by omega)
        · simp only
          rw [mtrue_mset, i3, htk]
          by_cases hx : e.id = x
          · rw [if_pos hx]; simp [elIds, hx]
          · have : ¬ x = e.id := fun h => hx h.symm
            rw [if_neg hx]
            simp [elIds, this]
  · have he : s.k = l.length := by omega
    rw [decide_eq_true (show elRight l from fun j hj => i2 j (by omega))]
theorem pc_ref08_Right (l : List El) (hl : l.length ≤ 1000000) : PC Tryd.prog f_crossbarref08_Right [(.sl ElSh, Els l)] [(.bool, .bool (decide (elRight l)))] := by
  apply pcv_crossbarref08_Right rfl
  simp only [vc_crossbarref08_Right, List.map_cons, List.map_nil]
  refine VC.go_loop (fun i : Nat => [.bool false, .int (i : Int)]) (fun i => i ≤ l.length ∧ ∀ j, j < i → elAt l j) (fun i => l.length - i) 0 rfl ⟨Nat.zero_le _, fun j hj => absurd hj (Nat.not_lt_zero j)⟩ fun i hi => ?_
  obtain ⟨i1, i2⟩ := hi
  simp only [VC.H_asrt, VC.H_cond, VC.H_ret, ev_var, ev_int, ev_bool, ev_hd, ev_tl, ev_lss, ev_gtr, ev_geq, ev_ite, ev_len, ev_idx, ea_nil, ea_cons, env_zero, env_succ, env_cons, env_nil, v_int, v_bool, v_ls, bool_ite, pres_nil, pres_cons, orT, orF, decide_eq_true_eq, decide_eq_false_iff_not, forall_const, and_true, Int.not_lt, List.length_map]
  refine ⟨fun hc => ?_, fun hc => ?_⟩
  · have hk : i < l.length := by omega
    have hg := el_getD l i hk
    have hat : elAt l i ↔ 1 ≤ (l.getD i El.zero).id ∧ (l.getD i El.zero).id ≤ 255 ∧ (l.getD i El.zero).data.length ≤ 255 ∧ (l.getD i El.zero).id ∉ elIds (l.take i) := Iff.rfl
    generalize l.getD i El.zero = e at hat hg
    simp only [hg, v_hd, v_tl, v_int, v_ls, ofBytes_length]
    refine ⟨by omega, by omega, fun _ => by omega, fun _ => by omega, fun _ => by omega, fun _ => by omega, fun h => ?_, fun h => ?_⟩
    · have : ¬ elRight l := fun hr => by
        have := hat.1 (hr i hk)
        omega
      rw [decide_eq_false this]
    · refine VC.go_loop (fun k : Nat => [.bool false, .int (k : Int)]) (fun k => k ≤ i ∧ ∀ j, j < k → (l.getD j El.zero).id ≠ e.id) (fun k => i - k) 0 rfl ⟨Nat.zero_le _, fun j hj => absurd hj (Nat.not_lt_zero j)⟩ fun k hk2 => ?_
      obtain ⟨k1, k2⟩ := hk2
      simp only [VC.H_asrt, VC.H_cond, VC.H_ret, VC.H_back, ev_var, ev_int, ev_bool, ev_hd, ev_add, ev_eql, ev_lss, ev_geq, ev_len, ev_idx, ev_fits64, ea_nil, ea_cons, env_zero, env_succ, env_cons, env_nil, List.map_cons, List.map_nil, v_int, v_bool, v_ls, pres_nil, decide_eq_true_eq, decide_eq_false_iff_not, forall_const, Int.not_lt, List.length_map]
      refine ⟨fun hc2 => ?_, fun hc2 => ?_⟩
      · have hg2 := el_getD l k (by omega)
        have hid : (l.getD k El.zero).id ∈ elIds (l.take i) := by
          have : l.getD k El.zero ∈ l.take i := by
            rw [List.mem_take_iff_getElem]
            refine ⟨k, by omega, ?_⟩
            simp [List.getD, show k < l.length by omega]
          exact List.mem_map.2 ⟨_, this, rfl⟩
        simp only [hg, hg2, v_hd, v_int]
        refine ⟨by omega, by omega, by omega, by omega, fun h3 => ?_, fun h3 => ⟨by omega, k + 1, by simp, ⟨by omega, fun j hj => ?_⟩, by omega⟩⟩
        · have : ¬ elRight l := fun hr => by
            have := (hat.1 (hr i hk)).2.2.2
            rw [← h3] at this
            exact this hid
          rw [decide_eq_false this]
        · by_cases hjk : j = k
          · rw [hjk]; exact h3
          · exact k2 j (by omega)
      · have hki : k = i := by omega
        subst hki
        refine ⟨by omega, k + 1, by simp, ⟨by omega, fun j hj => ?_⟩, by omega⟩
        by_cases hjk : j = k
        · rw [hjk]
          refine hat.2 ⟨by omega, by omega, by omega, fun hm => ?_⟩
          obtain ⟨x, hx, hxe⟩ := List.mem_map.1 hm
          obtain ⟨j2, hj2, rfl⟩ := (List.mem_take_iff_getElem).1 hx
          refine k2 j2 (by omega) ?_
          rw [← hxe]
          simp [List.getD, show j2 < l.length by omega]
        · exact i2 j (by omega)
  · have he : i = l.length := by omega
    rw [decide_eq_true (show elRight l from fun j hj => i2 j (by omega))]
theorem pc_ref08_Same (a b : List El) (ha : a.length ≤ 1000000) : PC Tryd.prog f_crossbarref08_Same [(.sl ElSh, Els a), (.sl ElSh, Els b)] [(.bool, .bool (decide (a = b)))] := by
  apply pcv_crossbarref08_Same rfl
  simp only [vc_crossbarref08_Same, VC.H_cond, VC.H_ret, ev_var, ev_bool, ev_neq, ev_len, ea_nil, ea_cons, env_zero, env_succ, List.map_cons, List.map_nil, v_int, v_bool, v_ls, nnE, decide_eq_true_eq, decide_eq_false_iff_not, List.length_map]
  refine ⟨fun hl => ?_, fun hl => ?_⟩
  · have : a ≠ b := fun e => hl (by rw [e])
    simp [this]
  · have hl : a.length = b.length := by omega
    refine VC.go_loop (fun i : Nat => [.bool false, .int (i : Int)]) (fun i => i ≤ a.length ∧ a.take i = b.take i) (fun i => a.length - i) 0 rfl ⟨Nat.zero_le _, rfl⟩ fun i hi => ?_
    simp only [VC.H_asrt, VC.H_cond, VC.H_ret, VC.H_back, ev_var, ev_int, ev_bool, ev_hd, ev_tl, ev_add, ev_neq, ev_lss, ev_geq, ev_sneq, ev_ite, ev_len, ev_idx, ev_toStr, ev_fits64, ea_nil, ea_cons, env_zero, env_succ, env_cons, env_nil, List.map_cons, List.map_nil, v_int, v_bool, v_str, v_ls, bool_ite, pres_nil, pres_cons, orT, orF, nnE, decide_eq_true_eq, decide_eq_false_iff_not, forall_const, and_true, Int.not_lt, List.length_map]
    refine ⟨fun hc => ?_, fun hc => ?_⟩
    · have ga := el_getD a i (by omega)
      have gb := el_getD b i (by omega)
      have ta := el_take a i (by omega)
      have tb := el_take b i (by omega)
      have hne : a.getD i El.zero ≠ b.getD i El.zero → a ≠ b := fun h e => h (by rw [e])
      generalize a.getD i El.zero = x at ga ta hne
      generalize b.getD i El.zero = y at gb tb hne
      simp only [ga, gb, v_hd, v_tl, v_int, v_ls, bytesOf_ofBytes]
      refine ⟨by omega, by omega, by omega, by omega, fun _ => by omega, fun _ => by omega, fun _ => by omega, fun _ => by omega, fun h => ?_, fun h => ⟨by omega, i + 1, by simp, ⟨by omega, ?_⟩, by omega⟩⟩
      · have : a ≠ b := hne fun e => by
          subst e
          simp at h
        simp [this]
      · have : x = y := by
          obtain ⟨x1, x2⟩ := x
          obtain ⟨y1, y2⟩ := y
          simp at h
          simp only [El.mk.injEq]
          exact h
        rw [ta, tb, hi.2, this]
    · have h2 := hi.2
      rw [List.take_of_length_le (by omega), List.take_of_length_le (by omega)] at h2
      simp [h2]
def elShort (l : List El) : Bool := decide ((∀ e ∈ l, e.data.length ≤ 400) ∧ l.length ≤ 300)
theorem pc_ref08_Short (l : List El) (hl : l.length ≤ maxLen) : PC Tryd.prog f_crossbarref08_Short [(.sl ElSh, Els l)] [(.bool, .bool (elShort l))] := by
  apply pcv_crossbarref08_Short rfl
  simp only [maxLen] at hl
  simp only [vc_crossbarref08_Short, List.map_cons, List.map_nil]
  refine VC.go_loop (fun i : Nat => [.bool false, .int (i : Int)]) (fun i => i ≤ l.length ∧ ∀ e ∈ l.take i, e.data.length ≤ 400) (fun i => l.length - i) 0 rfl ⟨Nat.zero_le _, by simp⟩ fun i hi => ?_
  obtain ⟨i1, i2⟩ := hi
  simp only [VC.H_asrt, VC.H_cond, VC.H_ret, VC.H_back, ev_var, ev_int, ev_bool, ev_hd, ev_tl, ev_add, ev_lss, ev_leq, ev_gtr, ev_geq, ev_len, ev_idx, ev_fits64, ea_nil, ea_cons, env_zero, env_succ, env_cons, env_nil, List.map_cons, List.map_nil, v_int, v_bool, v_ls, pres_nil, decide_eq_true_eq, decide_eq_false_iff_not, forall_const, Int.not_lt, List.length_map]
  refine ⟨fun hc => ?_, fun hc => ?_⟩
  · have hk : i < l.length := by omega
    have hm := el_mem hk
    have ht := el_take l i hk
    rw [el_getD l i hk]
    generalize l.getD i El.zero = e at hm ht
    simp only [v_hd, v_tl, v_ls, ofBytes_length]
    refine ⟨by omega, by omega, fun h => ?_, fun h => ⟨by omega, i + 1, by simp, ⟨by omega, ?_⟩, by omega⟩⟩
    · have : elShort l = false := decide_eq_false fun hall => by
        have := hall.1 e hm
        omega
      rw [this]
    · rw [ht]
      intro x hx
      rcases List.mem_append.1 hx with hx | hx
      · exact i2 x hx
      · rw [List.mem_singleton] at hx
        subst hx
        omega
  · have he : i = l.length := by omega
    rw [he, List.take_length] at i2
    congr 3
    unfold elShort
    rw [decide_eq_decide]
    constructor
    · intro h; exact ⟨i2, by omega⟩
    · intro h; omega

/-! Lists of ids. -/
def idAt (l : List Int) (j : Nat) : Prop := 1 ≤ l.getD j 0 ∧ l.getD j 0 ≤ 255 ∧ l.getD j 0 ∉ l.take j
instance (l : List Int) (j : Nat) : Decidable (idAt l j) := by unfold idAt; infer_instance
def idsRight (l : List Int) : Prop := ∀ j, j < l.length → idAt l j
instance (l : List Int) : Decidable (idsRight l) := by unfold idsRight; infer_instance
structure Mp where
  fr : Int
  to : Int
  deriving DecidableEq
def Mp.zero : Mp := ⟨0, 0⟩
abbrev MpSh : Sh := .pair I64 (.pair I64 .unit)
abbrev MpC (m : Mp) : C := .ls [.int m.fr, .int m.to]
abbrev Mps (l : List Mp) : C := .ls (l.map MpC)
abbrev Ints (l : List Int) : C := .ls (l.map .int)
theorem mp_getD (l : List Mp) (i : Nat) (h : i < l.length) : (l.map MpC).getD i default = MpC (l.getD i Mp.zero) := by simp [List.getD, h]
theorem int_getD (l : List Int) (i : Nat) (h : i < l.length) : (l.map C.int).getD i default = .int (l.getD i 0) := by simp [List.getD, h]
theorem pc_plan_from (m : Mp) : PC Tryd.prog f_plan_from [(MpSh, MpC m)] [(I64, .int m.fr)] := by
  apply pcv_plan_from rfl
  simp only [vc_plan_from, VC.H_ret, ev_var, ev_hd, ea_nil, ea_cons, env_zero, List.map_cons, List.map_nil, v_hd]
theorem pc_plan_to (m : Mp) : PC Tryd.prog f_plan_to [(MpSh, MpC m)] [(I64, .int m.to)] := by
  apply pcv_plan_to rfl
  simp only [vc_plan_to, VC.H_ret, ev_var, ev_hd, ev_tl, ea_nil, ea_cons, env_zero, List.map_cons, List.map_nil, v_hd, v_tl]
theorem pc_plan_itself (n : Int) : PC Tryd.prog f_plan_itself [(I64, .int n)] [(I64, .int n)] := by
  apply pcv_plan_itself rfl
  simp only [vc_plan_itself, VC.H_ret, ev_var, ea_nil, ea_cons, env_zero, List.map_cons, List.map_nil]
theorem pc_distinct_from (l : List Mp) (hl : l.length ≤ 1000000) : PC Tryd.prog f_plan_distinct_api_Map_from [(.sl MpSh, Mps l), (.fun_ f_plan_from, .ls [])] [(.bool, .bool (decide (idsRight (l.map (·.fr)))))] := by
  apply pcv_plan_distinct_api_Map_from rfl
  simp only [vc_plan_distinct_api_Map_from, List.map_cons, List.map_nil]
  refine VC.go_loop (fun s : RtSt => [.bool false, .int (s.k : Int), .ls s.m]) (fun s => s.k ≤ l.length ∧ (∀ j, j < s.k → idAt (l.map (·.fr)) j) ∧ ∀ x : Int, mtrue s.m x = decide (x ∈ (l.map (·.fr)).take s.k)) (fun s => l.length - s.k) ⟨0, []⟩ rfl
    ⟨Nat.zero_le _, fun j hj => absurd hj (Nat.not_lt_zero j), fun x => by simp [mtrue_nil]⟩ fun s hs => ?_
  obtain ⟨i1, i2, i3⟩ := hs
  simp only [VC.H_asrt, VC.H_cond, VC.H_ret, VC.H_back, VC.H_call1, ev_var, ev_int, ev_bool, ev_nil, ev_cons, ev_hd, ev_tl, ev_add, ev_lss, ev_gtr, ev_geq, ev_ite, ev_len, ev_idx, ev_fits64, ev_mget, ev_mput, ea_nil, ea_cons, env_zero, env_succ, env_cons, env_nil, List.map_cons, List.map_nil, v_int, v_bool, v_ls, toBool_ite, bool_ite, pres_nil, orT, orF, decide_eq_true_eq, decide_eq_false_iff_not, forall_const, Int.not_lt, List.length_map]
  refine ⟨fun hc => ?_, fun hc => ?_⟩
  · have hk : s.k < l.length := by omega
    have hv : (l.map (·.fr)).getD s.k 0 = ((l.getD s.k Mp.zero).fr) := by simp [List.getD, hk]
    have hat : idAt (l.map (·.fr)) s.k ↔ 1 ≤ ((l.getD s.k Mp.zero).fr) ∧ ((l.getD s.k Mp.zero).fr) ≤ 255 ∧ ((l.getD s.k Mp.zero).fr) ∉ (l.map (·.fr)).take s.k := by unfold idAt; rw [hv]
    have htk : (l.map (·.fr)).take (s.k + 1) = (l.map (·.fr)).take s.k ++ [((l.getD s.k Mp.zero).fr)] := by rw [List.take_succ_eq_append_getElem (by simpa using hk), ← hv]; simp [List.getD, hk]
    rw [Int.toNat_natCast, mp_getD l s.k hk]
    try simp only [v_hd, v_tl]
    refine ⟨by omega, by omega, _, pc_plan_from _, ?_⟩
    simp only [v_int]
    generalize ((l.getD s.k Mp.zero).fr) = e at hat htk
    have hm := i3 e
    refine ⟨fun h => ?_, fun h => ?_⟩
    · have h : (e < 1 ∨ 255 < e) ∨ mtrue s.m e = true := by
        rcases h with h | h
        · exact .inl h
        · rw [if_pos trivial] at h; exact .inr h
      rw [hm, decide_eq_true_eq] at h
      have hn : ¬ idsRight (l.map (·.fr)) := fun hr => by
        have h1 := hat.1 (hr s.k (by simpa using hk))
        rcases h with h | h
        · omega
        · exact h1.2.2 h
      rw [decide_eq_false hn]
    · have h : ¬ (e < 1 ∨ 255 < e) ∧ mtrue s.m e = false := ⟨h.1, by have h2 := h.2; rw [if_pos trivial] at h2; exact h2⟩
      rw [hm, decide_eq_false_iff_not] at h
      refine ⟨by omega, ⟨s.k + 1, _⟩, by simp; rfl, ⟨by simp only; omega, fun j hj => ?_, fun x => ?_⟩, by simp only; omega⟩
      · by_cases hjk : j = s.k
        · rw [hjk]; exact hat.2 ⟨by omega, by omega, h.2⟩
        · simp only at hj; exact i2 j (by omega)
      · simp only
        rw [mtrue_mset, i3, htk]
        by_cases hx : e = x
        · rw [if_pos hx]; simp [hx]
        · have : ¬ x = e := fun h => hx h.symm
          rw [if_neg hx]
          simp [this]
  · have he : s.k = l.length := by omega
    rw [decide_eq_true (show idsRight (l.map (·.fr)) from fun j hj => i2 j (by first | (simp at hj; omega) | omega))]
theorem pc_distinct_to (l : List Mp) (hl : l.length ≤ 1000000) : PC Tryd.prog f_plan_distinct_api_Map_to [(.sl MpSh, Mps l), (.fun_ f_plan_to, .ls [])] [(.bool, .bool (decide (idsRight (l.map (·.to)))))] := by
  apply pcv_plan_distinct_api_Map_to rfl
  simp only [vc_plan_distinct_api_Map_to, List.map_cons, List.map_nil]
  refine VC.go_loop (fun s : RtSt => [.bool false, .int (s.k : Int), .ls s.m]) (fun s => s.k ≤ l.length ∧ (∀ j, j < s.k → idAt (l.map (·.to)) j) ∧ ∀ x : Int, mtrue s.m x = decide (x ∈ (l.map (·.to)).take s.k)) (fun s => l.length - s.k) ⟨0, []⟩ rfl
    ⟨Nat.zero_le _, fun j hj => absurd hj (Nat.not_lt_zero j), fun x => by simp [mtrue_nil]⟩ fun s hs => ?_
  obtain ⟨i1, i2, i3⟩ := hs
  simp only [VC.H_asrt, VC.H_cond, VC.H_ret, VC.H_back, VC.H_call1, ev_var, ev_int, ev_bool, ev_nil, ev_cons, ev_hd, ev_tl, ev_add, ev_lss, ev_gtr, ev_geq, ev_ite, ev_len, ev_idx, ev_fits64, ev_mget, ev_mput, ea_nil, ea_cons, env_zero, env_succ, env_cons, env_nil, List.map_cons, List.map_nil, v_int, v_bool, v_ls, toBool_ite, bool_ite, pres_nil, orT, orF, decide_eq_true_eq, decide_eq_false_iff_not, forall_const, Int.not_lt, List.length_map]
  refine ⟨fun hc => ?_, fun hc => ?_⟩
  · have hk : s.k < l.length := by omega
    have hv : (l.map (·.to)).getD s.k 0 = ((l.getD s.k Mp.zero).to) := by simp [List.getD, hk]
    have hat : idAt (l.map (·.to)) s.k ↔ 1 ≤ ((l.getD s.k Mp.zero).to) ∧ ((l.getD s.k Mp.zero).to) ≤ 255 ∧ ((l.getD s.k Mp.zero).to) ∉ (l.map (·.to)).take s.k := by unfold idAt; rw [hv]
    have htk : (l.map (·.to)).take (s.k + 1) = (l.map (·.to)).take s.k ++ [((l.getD s.k Mp.zero).to)] := by rw [List.take_succ_eq_append_getElem (by simpa using hk), ← hv]; simp [List.getD, hk]
    rw [Int.toNat_natCast, mp_getD l s.k hk]
    try simp only [v_hd, v_tl]
    refine ⟨by omega, by omega, _, pc_plan_to _, ?_⟩
    simp only [v_int]
    generalize ((l.getD s.k Mp.zero).to) = e at hat htk
    have hm := i3 e
    refine ⟨fun h => ?_, fun h => ?_⟩
    · have h : (e < 1 ∨ 255 < e) ∨ mtrue s.m e = true := by
        rcases h with h | h
        · exact .inl h
        · rw [if_pos trivial] at h; exact .inr h
      rw [hm, decide_eq_true_eq] at h
      have hn : ¬ idsRight (l.map (·.to)) := fun hr => by
        have h1 := hat.1 (hr s.k (by simpa using hk))
        rcases h with h | h
        · omega
        · exact h1.2.2 h
      rw [decide_eq_false hn]
    · have h : ¬ (e < 1 ∨ 255 < e) ∧ mtrue s.m e = false := ⟨h.1, by have h2 := h.2; rw [if_pos trivial] at h2; exact h2⟩
      rw [hm, decide_eq_false_iff_not] at h
      refine ⟨by omega, ⟨s.k + 1, _⟩, by simp; rfl, ⟨by simp only; omega, fun j hj => ?_, fun x => ?_⟩, by simp only; omega⟩
      · by_cases hjk : j = s.k
        · rw [hjk]; exact hat.2 ⟨by omega, by omega, h.2⟩
        · simp only at hj; exact i2 j (by omega)
      · simp only
        rw [mtrue_mset, i3, htk]
        by_cases hx : e = x
        · rw [if_pos hx]; simp [hx]
        · have : ¬ x = e := fun h => hx h.symm
          rw [if_neg hx]
          simp [this]
  · have he : s.k = l.length := by omega
    rw [decide_eq_true (show idsRight (l.map (·.to)) from fun j hj => i2 j (by first | (simp at hj; omega) | omega))]
theorem pc_distinct_it (l : List Int) (hl : l.length ≤ 1000000) : PC Tryd.prog f_plan_distinct_int_it [(.sl I64, Ints l), (.fun_ f_plan_itself, .ls [])] [(.bool, .bool (decide (idsRight l)))] := by
  apply pcv_plan_distinct_int_it rfl
  simp only [vc_plan_distinct_int_it, List.map_cons, List.map_nil]
  refine VC.go_loop (fun s : RtSt => [.bool false, .int (s.k : Int), .ls s.m]) (fun s => s.k ≤ l.length ∧ (∀ j, j < s.k → idAt l j) ∧ ∀ x : Int, mtrue s.m x = decide (x ∈ l.take s.k)) (fun s => l.length - s.k) ⟨0, []⟩ rfl
    ⟨Nat.zero_le _, fun j hj => absurd hj (Nat.not_lt_zero j), fun x => by simp [mtrue_nil]⟩ fun s hs => ?_
  obtain ⟨i1, i2, i3⟩ := hs
  simp only [VC.H_asrt, VC.H_cond, VC.H_ret, VC.H_back, VC.H_call1, ev_var, ev_int, ev_bool, ev_add, ev_lss, ev_gtr, ev_geq, ev_ite, ev_len, ev_idx, ev_fits64, ev_mget, ev_mput, ea_nil, ea_cons, env_zero, env_succ, env_cons, env_nil, List.map_cons, List.map_nil, v_int, v_bool, v_ls, toBool_ite, bool_ite, pres_nil, orT, orF, decide_eq_true_eq, decide_eq_false_iff_not, forall_const, Int.not_lt, List.length_map]
  refine ⟨fun hc => ?_, fun hc => ?_⟩
  · have hk : s.k < l.length := by omega
    have hv : l.getD s.k 0 = (l.getD s.k 0) := rfl
    have hat : idAt l s.k ↔ 1 ≤ (l.getD s.k 0) ∧ (l.getD s.k 0) ≤ 255 ∧ (l.getD s.k 0) ∉ l.take s.k := by unfold idAt; rw [hv]
    have htk : l.take (s.k + 1) = l.take s.k ++ [(l.getD s.k 0)] := by rw [List.take_succ_eq_append_getElem (by simpa using hk), ← hv]; simp [List.getD, hk]
    rw [Int.toNat_natCast, int_getD l s.k hk]
    try simp only [v_hd, v_tl, v_int, v_ls]
    refine ⟨by omega, by omega, _, pc_plan_itself _, ?_⟩
    simp only [v_int]
    generalize (l.getD s.k 0) = e at hat htk
    have hm := i3 e
    refine ⟨fun h => ?_, fun h => ?_⟩
    · have h : (e < 1 ∨ 255 < e) ∨ mtrue s.m e = true := by
        rcases h with h | h
        · exact .inl h
        · rw [if_pos trivial] at h; exact .inr h
      rw [hm, decide_eq_true_eq] at h
      have hn : ¬ idsRight l := fun hr => by
        have h1 := hat.1 (hr s.k (by simpa using hk))
        rcases h with h | h
        · omega
        · exact h1.2.2 h
      rw [decide_eq_false hn]
    · have h : ¬ (e < 1 ∨ 255 < e) ∧ mtrue s.m e = false := ⟨h.1, by have h2 := h.2; rw [if_pos trivial] at h2; exact h2⟩
      rw [hm, decide_eq_false_iff_not] at h
      refine ⟨by omega, ⟨s.k + 1, _⟩, by simp; rfl, ⟨by simp only; omega, fun j hj => ?_, fun x => ?_⟩, by simp only; omega⟩
      · by_cases hjk : j = s.k
        · rw [hjk]; exact hat.2 ⟨by omega, by omega, h.2⟩
        · simp only at hj; exact i2 j (by omega)
      · simp only
        rw [mtrue_mset, i3, htk]
        by_cases hx : e = x
        · rw [if_pos hx]; simp [hx]
        · have : ¬ x = e := fun h => hx h.symm
          rw [if_neg hx]
          simp [this]
  · have he : s.k = l.length := by omega
    rw [decide_eq_true (show idsRight l from fun j hj => i2 j (by first | (simp at hj; omega) | omega))]
end Go.Vc
