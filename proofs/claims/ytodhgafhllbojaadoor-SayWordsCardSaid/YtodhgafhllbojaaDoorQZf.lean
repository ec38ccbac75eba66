/-
  The laws of say: what they are handed, as plans; their fixed answer.
-/
import Derived.Test.YtodhgafhllbojaaDoorQZp
import Derived.Test.YtodhgafhllbojaaDoorQBase4
set_option maxRecDepth 100000
namespace Go.Vc
open Go Go.Proofs Go.Plain
theorem ty_elp {c : C} (h : Ty ElSh c) : ∃ e : El, c = ElC e := by
  obtain ⟨_, _, rfl, h1, _, _, e2, h2, e3⟩ := h
  obtain ⟨a, rfl, _⟩ := ty_int h1
  obtain ⟨b, rfl⟩ := ty_bytes h2
  simp only [Ty, C.ls.injEq] at e2 e3
  subst e3 e2
  exact ⟨⟨a, b⟩, rfl⟩
theorem ty_elsp {c : C} (h : Ty (.sl ElSh) c) : ∃ l : List El, c = Els l ∧ l.length ≤ maxLen := by
  obtain ⟨l, rfl, hl, hx⟩ := h
  obtain ⟨es, rfl, _⟩ := ty_list (e := ElC) (P := fun _ => True) fun x hx2 => by
    obtain ⟨e, he⟩ := ty_elp (hx x hx2)
    exact ⟨e, he, trivial⟩
  exact ⟨es, rfl, by simpa using hl⟩
theorem ty_mpp {c : C} (h : Ty MpSh c) : ∃ e : Mp, c = MpC e := by
  obtain ⟨_, _, rfl, h1, _, _, e2, h2, e3⟩ := h
  obtain ⟨a, rfl, _⟩ := ty_int h1
  obtain ⟨b, rfl, _⟩ := ty_int h2
  simp only [Ty, C.ls.injEq] at e2 e3
  subst e3 e2
  exact ⟨⟨a, b⟩, rfl⟩
theorem ty_mpsp {c : C} (h : Ty (.sl MpSh) c) : ∃ l : List Mp, c = Mps l := by
  obtain ⟨l, rfl, hl, hx⟩ := h
  obtain ⟨es, rfl, _⟩ := ty_list (e := MpC) (P := fun _ => True) fun x hx2 => by
    obtain ⟨e, he⟩ := ty_mpp (hx x hx2)
    exact ⟨e, he, trivial⟩
  exact ⟨es, rfl⟩
theorem ty_intsp {c : C} (h : Ty (.sl I64) c) : ∃ l : List Int, c = Ints l := by
  obtain ⟨l, rfl, hl, hx⟩ := h
  obtain ⟨es, rfl, _⟩ := ty_list (e := C.int) (P := fun _ => True) fun x hx2 => by
    obtain ⟨e, he, _⟩ := ty_int (hx x hx2)
    exact ⟨e, he, trivial⟩
  exact ⟨es, rfl⟩
theorem ty_pl {c : C} (h : Ty PlSh c) : ∃ p : Pl, c = PlC p ∧ plNum p ∧ p.over.length ≤ maxLen ∧ p.adds.length ≤ maxLen := by
  obtain ⟨_, _, rfl, ⟨sm, rfl⟩, _, l1, e1, ⟨m, rfl⟩, _, l2, e2, ⟨st, rfl⟩, _, l3, e3, h3, _, l4, e4, ⟨sq, rfl⟩, _, l5, e5, h5, _, l6, e6, ⟨stm, rfl⟩, _, l7, e7, h7, _, l8, e8, ⟨ss, rfl⟩, _, l9, e9, h9, _, l10, e10, h10, _, l11, e11, h11, _, l12, e12, h12, _, l13, e13, h13, _, l14, e14, ⟨np, rfl⟩, e15⟩ := h
  obtain ⟨ty, rfl, _⟩ := ty_int h3
  obtain ⟨seq, rfl, q5⟩ := ty_nat rfl h5
  obtain ⟨time, rfl, q7⟩ := ty_nat rfl h7
  obtain ⟨ssrc, rfl, q9⟩ := ty_nat rfl h9
  obtain ⟨maps, rfl⟩ := ty_mpsp h10
  obtain ⟨over, rfl, o1⟩ := ty_elsp h11
  obtain ⟨drops, rfl⟩ := ty_intsp h12
  obtain ⟨adds, rfl, o2⟩ := ty_elsp h13
  simp only [Ty, C.ls.injEq] at e1 e2 e3 e4 e5 e6 e7 e8 e9 e10 e11 e12 e13 e14 e15
  subst e15 e14 e13 e12 e11 e10 e9 e8 e7 e6 e5 e4 e3 e2 e1
  simp only [IntKind.bits] at q5 q7 q9
  exact ⟨⟨sm, m, st, ty, sq, seq, stm, time, ss, ssrc, maps, over, drops, adds, np⟩, rfl, ⟨by simp <;> omega, by simp <;> omega, by simp <;> omega, by simp <;> omega, by simp <;> omega, by simp <;> omega⟩, o1, o2⟩
theorem pc_law30_awake : PC Tryd.prog f_crossbarlaw30_awake [] [(.bool, .bool true)] := by
  apply pcv_crossbarlaw30_awake rfl
  simp only [vc_crossbarlaw30_awake, VC.H_asrt, VC.H_ret, VC.H_call2, ev_var, ev_int, ev_bool, ev_str, ev_nil, ev_nilS, ev_cons, ev_hd, ev_tl, ev_eql, ev_lss, ev_seql, ev_ite, ev_len, ev_idx, ev_toStr, ev_deq, ea_nil, ea_cons, env_zero, env_succ, env_cons, env_nil, List.map_nil, v_int, v_bool, v_str, v_ls, toBool_ite, bool_ite, pres_nil, pres_cons, andT, decide_eq_true_eq, forall_const, and_true]
  have u := pc_say_Parse [115, 101, 113, 32, 55, 32, 109, 97, 112, 32, 51, 32, 52, 32, 111, 118, 101, 114, 32, 51, 32, 34, 97, 92, 48, 48, 34] (by decide)
  rw [valA] at u
  have v := pc_say_Print pB (by unfold plFew; decide) rightB.2
  rw [if_pos rightB.1, if_pos rightB.1, valB] at v
  have t := pc_say_Parse [115, 101, 113, 32, 48, 55] (by decide)
  rw [valC] at t
  refine ⟨_, _, u, _, _, v, _, _, t, ?_⟩
  refine ⟨fun _ => by decide, fun _ => by decide, ?_⟩
  simp [pA, Pl.zero, dataEq, bytesOf, ofBytes]
theorem fewS {p : Pl} (h : plShort p) : plFew p := by
  obtain ⟨h1, h2, h3, h4, _⟩ := plShort_few h
  unfold plFew
  omega
end Go.Vc
