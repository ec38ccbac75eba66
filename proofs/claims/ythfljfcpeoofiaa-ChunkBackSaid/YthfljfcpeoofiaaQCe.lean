/-
  Reading chunks: the contracts of chunk.Read, chunk.Canon and of the reference's.
-/
import Derived.Test.YthfljfcpeoofiaaQCd
set_option maxRecDepth 100000
namespace Go.Vc
open Go Go.Proofs Go.Plain
/-- Reading, by any number. -/
def ckr (c : List Nat) (count : Int) : Except Int (List Nat × Nat) := if count < 0 ∨ 4000 < count then .error 1 else rd c count.toNat
def rE : Except Int (List Nat × Nat) → Int | .ok _ => 0 | .error e => e
def rL : Except Int (List Nat × Nat) → List Nat | .ok x => x.1 | .error _ => []
def rN : Except Int (List Nat × Nat) → Nat | .ok x => x.2 | .error _ => 0
def join (out : List Nat) (k : Nat) : Except Int (List Nat × Nat) → Except Int (List Nat × Nat) | .ok x => .ok (out ++ x.1, k + x.2) | .error e => .error e
def okC (c : List Nat) : Prop := c.length ≤ 1000000 ∧ ∀ x ∈ c, x < 65536
theorem join_id (r : Except Int (List Nat × Nat)) : join [] 0 r = r := by
  cases r with
  | ok x => simp [join]
  | error e => rfl
theorem rd_step (c : List Nat) (i n : Nat) (out : List Nat) (h : i < c.length) (hn : out.length < n) (h3 : 3 ∉ (ckT (c.getD i 0)).take (n - out.length)) :
    join out i (rd (c.drop i) (n - out.length)) = join (out ++ (ckT (c.getD i 0)).take (n - out.length)) (i + 1) (rd (c.drop (i + 1)) (n - (out ++ (ckT (c.getD i 0)).take (n - out.length)).length)) := by
  have e1 : c.drop i = c.getD i 0 :: c.drop (i + 1) := by
    rw [List.drop_eq_getElem_cons h]
    simp [List.getD, h]
  rw [e1, rd, if_neg (by omega), if_neg h3, List.length_append, ← Nat.sub_sub]
  cases rd (c.drop (i + 1)) (n - out.length - ((ckT (c.getD i 0)).take (n - out.length)).length) with
  | ok x => simp [join]; omega
  | error e => rfl
theorem rd_bad (c : List Nat) (i n : Nat) (out : List Nat) (h : i < c.length) (hn : out.length < n) (h3 : 3 ∈ (ckT (c.getD i 0)).take (n - out.length)) : join out i (rd (c.drop i) (n - out.length)) = .error 6 := by
  have e1 : c.drop i = c.getD i 0 :: c.drop (i + 1) := by
    rw [List.drop_eq_getElem_cons h]
    simp [List.getD, h]
  rw [e1, rd, if_neg (by omega), if_pos h3]
  rfl
theorem rd_none (c : List Nat) (n : Nat) (out : List Nat) (hn : out.length < n) : join out c.length (rd (c.drop c.length) (n - out.length)) = .error 2 := by
  rw [List.drop_length, rd, if_neg (by omega)]
  rfl
theorem pc_chunk_Read (c : List Nat) (count : Int) (hc : okC c) : PC Try.prog f_chunk_Read [(.sl U16, Ns c), (I64, .int count)] [(.sl I64, Ns (rL (ckr c count))), (I64, .int (rN (ckr c count) : Nat)), (I64, .int (rE (ckr c count)))] := by
  apply pcv_chunk_Read rfl
  simp only [vc_chunk_Read, VC.H_cond, VC.H_ret, ev_var, ev_int, ev_bool, ev_nilS, ev_lss, ev_gtr, ev_ite, ea_nil, ea_cons, env_zero, env_succ, List.map_cons, List.map_nil, v_int, v_bool, bool_ite, orT, orF, decide_eq_true_eq, decide_eq_false_iff_not, Int.not_lt]
  refine ⟨fun h => ?_, fun h => ?_⟩
  · rw [ckr, if_pos (by omega)]
    rfl
  · rw [ckr, if_neg (by omega)]
    obtain ⟨n, rfl⟩ : ∃ n : Nat, count = n := ⟨count.toNat, by omega⟩
    rw [Int.toNat_natCast]
    refine VC.go_loop (fun s : List Nat × Nat => [.ls [], .int 0, .int 0, Ns s.1, .int s.2]) (fun s => s.2 ≤ c.length ∧ s.1.length ≤ n ∧ rd c n = join s.1 s.2 (rd (c.drop s.2) (n - s.1.length))) (fun s => c.length - s.2) ([], 0) rfl ⟨Nat.zero_le _, Nat.zero_le _, (join_id _).symm⟩ fun s hs => ?_
    obtain ⟨out, i⟩ := s
    simp only at hs
    obtain ⟨h1, h2, h3⟩ := hs
    simp only [VC.H_asrt, VC.H_cond, VC.H_ret, VC.H_back, VC.H_call1, ev_var, ev_int, ev_nilS, ev_add, ev_sub', ev_mul, ev_eql, ev_lss, ev_leq, ev_geq, ev_len, ev_idx, ev_app, ev_fits64, ea_nil, ea_cons, env_zero, env_succ, env_cons, env_nil, List.map_cons, List.map_nil, v_int, v_bool, v_ls, pres_nil, decide_eq_true_eq, decide_eq_false_iff_not, forall_const, Int.not_lt, List.length_map, Int.toNat_natCast]
    refine ⟨fun hlt => ⟨fun hz => ?_, fun hz => ?_⟩, fun hge => ?_⟩
    · have : i = c.length := by omega
      subst this
      rw [h3, rd_none c n out (by omega)]
      rfl
    · have hx := hc.2 _ (nat_mem (l := c) (i := i) (by omega))
      have ht := rd_step c i n out (by omega) (by omega)
      have hb := rd_bad c i n out (by omega) (by omega)
      have hcl := hc.1
      rw [nat_getD _ _ (by omega)]
      generalize c.getD i 0 = x at hx ht hb
      have e1 : (n : Int) - (out.length : Int) = ((n - out.length : Nat) : Int) := by omega
      have hl := ckT_len x hx
      have hl2 : ((ckT x).take (n - out.length)).length ≤ n - out.length := by rw [List.length_take]; omega
      rw [e1]
      refine ⟨by omega, by omega, by omega, _, pc_chunk_unpack x (n - out.length) hx (by omega), _, pc_slices_Contains _ 3 (by omega), fun h3' => ?_, fun h3' => ?_⟩
      · rw [h3, hb (by simpa using h3')]
        rfl
      · have h3'' : 3 ∉ (ckT x).take (n - out.length) := by simpa using h3'
        simp only [v_ls, List.length_map]
        refine ⟨by omega, by omega, (out ++ (ckT x).take (n - out.length), i + 1), ?_, ⟨by simp only; omega, by simp only [List.length_append]; omega, ?_⟩, by simp only; omega⟩
        · simp [Ns]
        · rw [h3, ht h3'']
    · have e : n - out.length = 0 := by omega
      rw [h3, e, rd_zero]
      simp [join, rL, rN, rE]
theorem may_nats (l : List Nat) (h : ckOk l) : mayI (l.map fun n : Nat => (n : Int)) ∧ natsI (l.map fun n : Nat => (n : Int)) = l := by
  refine ⟨fun x hx => ?_, ?_⟩
  · simp only [List.mem_map] at hx
    obtain ⟨y, hy, rfl⟩ := hx
    have := h y hy
    omega
  · simp [natsI, Function.comp_def]
theorem ckr_ok {c : List Nat} {count : Int} (hc : okC c) (h : rE (ckr c count) = 0) : ∃ l k, ckr c count = .ok (l, k) ∧ (l.length : Int) = count ∧ k ≤ c.length ∧ ckOk l ∧ l.length ≤ 4000 := by
  unfold ckr at h ⊢
  split at h
  · cases h
  · rename_i hr
    rw [if_neg hr]
    cases hd : rd c count.toNat with
    | ok x =>
      obtain ⟨l, k⟩ := x
      obtain ⟨h1, h2, _⟩ := rd_ok hd
      exact ⟨l, k, rfl, by omega, h2, rd_may hc.2 hd, by omega⟩
    | error e =>
      exfalso
      rw [hd] at h
      have : ∀ (c : List Nat) (n : Nat) (e : Int), rd c n = .error e → e ≠ 0 := by
        intro c
        induction c with
        | nil => intro n e he; unfold rd at he; split at he <;> cases he; decide
        | cons x c ih =>
          intro n e he
          unfold rd at he
          split at he
          · cases he
          · split at he
            · cases he; decide
            · split at he
              · cases he
              · rename_i e' he'
                cases he
                exact ih _ _ he'
      exact this _ _ _ hd h
/-- Canonical: just what is written of what is read. -/
def ckCan (c : List Nat) (count : Int) : Prop := rE (ckr c count) = 0 ∧ ckW (rL (ckr c count)) = c
instance (c : List Nat) (count : Int) : Decidable (ckCan c count) := by unfold ckCan; exact inferInstance
theorem boolK {p : Prop} [Decidable p] {x : Bool} (h : x = true ↔ p) : [(Sh.bool, C.bool x)] = [(Sh.bool, C.bool (decide p))] := by
  rw [show x = decide p by rw [Bool.eq_iff_iff, h, decide_eq_true_eq]]
theorem ckW_len (l : List Nat) (h : ckOk l) : (ckW l).length ≤ l.length := by
  have := ck_few _ l rfl h
  omega
theorem write_nats (l : List Nat) (h : ckOk l) (hl : l.length ≤ 1000000) : PC Try.prog f_chunk_Write [(.sl I64, Ns l)] [(.sl U16, Ns (ckW l)), (I64, .int 0)] := by
  obtain ⟨m1, m2⟩ := may_nats l h
  have hw := pc_chunk_Write (l.map fun n : Nat => (n : Int)) (by simpa using hl)
  rw [cwL, cwE, if_pos m1, if_pos m1, m2] at hw
  have e : Ints (l.map fun n : Nat => (n : Int)) = Ns l := by simp [Ints, Ns, Function.comp_def]
  rwa [e] at hw
theorem pc_chunk_Canon (c : List Nat) (count : Int) (hc : okC c) : PC Try.prog f_chunk_Canon [(.sl U16, Ns c), (I64, .int count)] [(.bool, .bool (decide (ckCan c count)))] := by
  apply pcv_chunk_Canon rfl
  simp only [vc_chunk_Canon, VC.H_cond, VC.H_ret, VC.H_call1, VC.H_call2, VC.H_call3, ev_var, ev_int, ev_bool, ev_eql, ev_neq, ev_ite, ea_nil, ea_cons, env_zero, env_succ, env_cons, env_nil, List.map_cons, List.map_nil, v_int, v_bool, pres_nil, pres_cons, nnE, decide_eq_true_eq, decide_eq_false_iff_not, forall_const, and_true]
  refine ⟨_, _, _, pc_chunk_Read c count hc, fun h => ?_, fun h => ?_⟩
  · have h : ¬ rE (ckr c count) = 0 := by simpa using h
    apply boolK
    simp [ckCan, h]
  · have h : rE (ckr c count) = 0 := by simpa using h
    obtain ⟨l, k, h1, h2, h3, h4, h5⟩ := ckr_ok hc h
    rw [h1]
    have := ckW_len l h4
    refine ⟨_, _, write_nats l h4 (by omega), _, fun _ => pc_slices_Equal _ _ (by omega), ?_⟩
    apply boolK
    unfold ckCan
    rw [h1]
    simp [rL, rE]
theorem pc_crossbarref18_May (l : List Int) (hl : l.length ≤ 1000000) : PC Try.prog f_crossbarref18_May [(.sl I64, Ints l)] [(.bool, .bool (decide (mayI l)))] := by
  apply pcv_crossbarref18_May rfl
  simp only [vc_crossbarref18_May, List.map_cons, List.map_nil]
  refine VC.go_loop (fun i : Nat => [.bool false, .int i]) (fun i => i ≤ l.length ∧ ∀ j, j < i → 0 ≤ l.getD j 0 ∧ l.getD j 0 ≤ 2) (fun i => l.length - i) 0 rfl ⟨Nat.zero_le _, fun j hj => by omega⟩ fun i hi => ?_
  simp only [VC.H_asrt, VC.H_cond, VC.H_ret, VC.H_back, ev_var, ev_int, ev_bool, ev_add, ev_lss, ev_gtr, ev_geq, ev_ite, ev_len, ev_idx, ev_fits64, ea_nil, ea_cons, env_zero, env_succ, env_cons, env_nil, List.map_cons, List.map_nil, v_int, v_bool, v_ls, bool_ite, pres_nil, pres_cons, orT, orF, decide_eq_true_eq, decide_eq_false_iff_not, forall_const, and_true, Int.not_lt, List.length_map, Int.toNat_natCast]
  refine ⟨fun hc => ?_, fun hc => ?_⟩
  · rw [int_getD _ _ (by omega)]
    simp only [v_int]
    refine ⟨by omega, by omega, fun _ => by omega, fun _ => by omega, fun hbad => ?_, fun hgood => ⟨by omega, i + 1, by simp, ⟨by omega, fun j hj => ?_⟩, by omega⟩⟩
    · apply boolK
      simp only [Bool.false_eq_true, false_iff]
      intro h
      have := h _ (int_mem (l := l) (i := i) (by omega))
      omega
    · by_cases hji : j = i
      · subst hji; omega
      · exact hi.2 j (by omega)
  · apply boolK
    simp only [true_iff]
    intro x hx
    obtain ⟨j, hj, rfl⟩ := List.getElem_of_mem hx
    have := hi.2 j (by omega)
    simpa [List.getD, hj] using this
end Go.Vc
