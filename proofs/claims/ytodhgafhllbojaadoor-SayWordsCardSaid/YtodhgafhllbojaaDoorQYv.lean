/-
  The contracts of what plans are printed with: numerals, quoted forms, Join; of the reference's numerals and values.
-/
import Derived.Test.YtodhgafhllbojaaDoorQVcs1
import Derived.Test.YtodhgafhllbojaaDoorQTt
import Derived.Test.YtodhgafhllbojaaDoorQTk
import Derived.Test.YtodhgafhllbojaaDoorQShelfS
import Derived.Test.YtodhgafhllbojaaDoorQYp
set_option maxRecDepth 100000
namespace Go.Vc
open Go Go.Proofs Go.Plain Go.RowKit
open Go.Lib (decDigits nDigits)
theorem tab_pow : tabAt Tryd.prog pow10Name = some 2 := by kernel_rfl
theorem tab_pow2 : Tryd.prog.globalNamed pow10Name = some 2 := by kernel_rfl
theorem pow_eq : tPow10 = Lib.pow10Tab := by decide +kernel
theorem kw_pow {w : World} (h : KW Tryd.prog w) : Lib.TabIs Tryd.prog w "internal/strconv.uint64pow10" .u64 Lib.pow10Tab := by
  obtain ⟨t, fz, e⟩ := h.2 _ tab_pow
  unfold Lib.TabIs World.var?
  have e2 : Tryd.prog.globalNamed "internal/strconv.uint64pow10" = some 2 := tab_pow2
  rw [e2]
  simp only [Option.bind_some, e, pow_eq]
abbrev f_strconv_FormatInt : FuncId := 75
theorem pc_FormatInt (n : Int) (h0 : 0 ≤ n) (h1 : n < 9223372036854775808) : PC Tryd.prog f_strconv_FormatInt [(I64, .int n), (I64, .int 10)] [(.str, .str (numI n))] := by
  refine PC.of0 (by decide) ⟨⟨_, Tryd.func75, by kernel_rfl, by kernel_rfl⟩, fun w N vs hkw hrd => ?_⟩
  obtain ⟨v, r, rfl, ⟨us, hu, rfl⟩, v2, r2, rfl, ⟨us2, hu2, rfl⟩, hr⟩ := hrd
  simp only [RdVs] at hr
  subst hr
  simp only [Rd] at hu hu2
  subst hu hu2
  have hc := Tryd.strconv_FormatInt_10 n (by omega) (by omega) w (kw_pow hkw)
  have e : Lib.itoa n = numI n := by unfold Lib.itoa numI; rw [if_neg (by omega)]
  rw [e] at hc
  refine hc.mono fun e w' ⟨he, k, os, hb⟩ => ⟨_, he, ⟨[.string ⟨(numI n).toArray⟩], ⟨_, _, rfl, ⟨_, rfl, rfl⟩, rfl⟩, ?_⟩, ?_⟩
  · simp
  · rw [hb]
    exact ⟨rfl, rfl, rfl, by show w.heap.size ≤ (w.heap ++ os).size; rw [Array.size_append]; omega, fun j hj => Sort.heap_grow_old (w.drewN k) os hj⟩
theorem pc_digits (n : Int) (h0 : 0 ≤ n) (h1 : n < 9223372036854775808) : PC Tryd.prog f_say_digits_int_ [(I64, .int n)] [(.str, .str (numI n))] := by
  apply pcv_say_digits_int_ rfl
  simp only [vc_say_digits_int_, VC.H_ret, VC.H_call1, ev_var, ev_int, ea_nil, ea_cons, env_zero, env_succ, env_cons, env_nil, List.map_cons, List.map_nil, pres_nil, forall_const]
  exact ⟨_, pc_FormatInt n h0 h1, rfl⟩
theorem pc_digits16 (n : Int) (h0 : 0 ≤ n) (h1 : n < 65536) : PC Tryd.prog f_say_digits_uint16_ [(.int .u16, .int n)] [(.str, .str (numI n))] := by
  apply pcv_say_digits_uint16_ rfl
  simp only [vc_say_digits_uint16_, VC.H_ret, VC.H_call1, ev_var, ev_int, ev_conv, ea_nil, ea_cons, env_zero, env_succ, env_cons, env_nil, List.map_cons, List.map_nil, v_int, pres_nil, forall_const, wrapi64]
  have e : (n + 9223372036854775808) % 18446744073709551616 - 9223372036854775808 = n := by omega
  first | rw [e] | skip
  exact ⟨_, pc_FormatInt n h0 (by omega), rfl⟩
theorem pc_digits32 (n : Int) (h0 : 0 ≤ n) (h1 : n < 4294967296) : PC Tryd.prog f_say_digits_uint32_ [(.int .u32, .int n)] [(.str, .str (numI n))] := by
  apply pcv_say_digits_uint32_ rfl
  simp only [vc_say_digits_uint32_, VC.H_ret, VC.H_call1, ev_var, ev_int, ev_conv, ea_nil, ea_cons, env_zero, env_succ, env_cons, env_nil, List.map_cons, List.map_nil, v_int, pres_nil, forall_const, wrapi64]
  have e : (n + 9223372036854775808) % 18446744073709551616 - 9223372036854775808 = n := by omega
  first | rw [e] | skip
  exact ⟨_, pc_FormatInt n h0 (by omega), rfl⟩
theorem pc_quoted (s : List UInt8) (hs : s.length ≤ 1000000) : PC Tryd.prog f_say_quoted [(Byt, .ls (ofBytes s))] [(.str, .str (qs s))] := by
  apply pcv_say_quoted rfl
  simp only [vc_say_quoted, VC.H_ret, VC.H_call1, ev_var, ev_toStr, ea_nil, ea_cons, env_zero, env_succ, env_cons, env_nil, List.map_cons, List.map_nil, v_ls, pres_nil, forall_const, bytesOf_ofBytes]
  exact ⟨_, quoteOk s hs, rfl⟩
theorem join_sp : ∀ ws : List (List UInt8), Lib.join ws [32] = joinSp ws
  | [] => rfl
  | [w] => by rw [Lib.join_one]; rfl
  | w :: v :: r => by
    have ih := join_sp (v :: r)
    rw [Lib.join_cons] at ih ⊢
    rw [show joinSp (w :: v :: r) = w ++ 32 :: joinSp (v :: r) from rfl, ← ih]
    simp [Lib.joinTail]
abbrev f_strings_Join : FuncId := 49
theorem pc_Join (ws : List (List UInt8)) (h1 : ws.length ≤ 1000000000) (h2 : (joinSp ws).length ≤ 140737488355328) : PC Tryd.prog f_strings_Join [(.sl .str, .ls (ws.map .str)), (.str, .str [32])] [(.str, .str (joinSp ws))] := by
  refine PC.of0 (by decide) ⟨⟨_, Tryd.func49, by kernel_rfl, by kernel_rfl⟩, fun w N vs hkw hrd => ?_⟩
  obtain ⟨v, r, rfl, ⟨us, hu, rfl⟩, v2, r2, rfl, ⟨us2, hu2, rfl⟩, hr⟩ := hrd
  simp only [RdVs] at hr
  subst hr
  simp only [Rd, C.toList_ls, List.length_map] at hu hu2
  subst hu2
  obtain ⟨a, cap, rfl, hcap, hmx, hrow⟩ := hu
  have fin : ∀ w', Below w.heap.size w w' → ∀ e : Ending, e = .returned (.string ⟨(joinSp ws).toArray⟩) → ∃ v, e = .returned v ∧ RdRes w' (fun b => N b ∨ w.heap.size ≤ b) [(.str, .str (joinSp ws))] v ∧ Below w.heap.size w w' := fun w' hb e he => ⟨_, he, ⟨[.string ⟨(joinSp ws).toArray⟩], ⟨_, _, rfl, ⟨_, rfl, rfl⟩, rfl⟩, by simp⟩, hb⟩
  by_cases hw : ws = []
  · subst hw
    refine (Tryd.strings_Join_none a cap ⟨#[32]⟩ w).mono fun e w' ⟨he, hb⟩ => ?_
    rw [hb]
    exact fin w ⟨rfl, rfl, rfl, Nat.le_refl _, fun _ _ => rfl⟩ e he
  · obtain ⟨b, off, rfl, hN, hlt, hat⟩ := hrow (by simpa using hw)
    have hc := Tryd.strings_Join b off cap (ws.map fun x => ⟨x.toArray⟩) ⟨#[32]⟩ w (fun j x hx => ?_) hlt (by rw [List.length_map]; omega) (by rw [List.length_map]; exact hcap) ?_
    · rw [List.length_map] at hc
      have e : (ws.map fun x => (⟨x.toArray⟩ : ByteArray)).map (·.data.toList) = ws := by rw [List.map_map]; exact List.map_id'' (fun _ => rfl) ws
      rw [e] at hc
      refine hc.mono fun e w' ⟨he, hb⟩ => fin w' hb e ?_
      rw [he, show (⟨#[32]⟩ : ByteArray).data.toList = [32] from rfl, join_sp]
    · rw [List.getElem?_map] at hx
      obtain ⟨y, hy, rfl⟩ := Option.map_eq_some_iff.1 hx
      obtain ⟨us, hl, hcs, hr⟩ := hat j (.str y) (by rw [List.getElem?_map, hy]; rfl)
      change us = [.string ⟨y.toArray⟩] at hr
      subst hr
      have h3 := hcs 0 (.string ⟨y.toArray⟩) rfl
      have e3 : off + j * Sh.size .str + 0 = off + j := by simp [Sh.size]
      rw [e3] at h3
      exact h3
    · have e : (ws.map fun x => (⟨x.toArray⟩ : ByteArray)).map (·.data.toList) = ws := by rw [List.map_map]; exact List.map_id'' (fun _ => rfl) ws
      rw [e, show (⟨#[32]⟩ : ByteArray).data.toList = [32] from rfl, join_sp]
      exact h2
end Go.Vc
