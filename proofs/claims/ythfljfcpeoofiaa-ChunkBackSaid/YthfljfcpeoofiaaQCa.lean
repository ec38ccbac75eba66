/-
  The contracts of chunk.beginning and chunk.next, which hold closures: walked by hand.
-/
import Derived.RangeFuncBox
import Derived.RangeFuncLeaves
import Derived.Shelf.Abstract
import Derived.WalkKit
import Derived.OwnWalkIn
import Derived.TacticsInMore
import Derived.LoopNIn
import Derived.LoopIn
import Derived.Test.YthfljfcpeoofiaaQBase3
import Derived.Test.YthfljfcpeoofiaaChecked
set_option maxRecDepth 100000
namespace Go.Vc
open Go Go.Proofs Go.RowKit Go.Shelf
abbrev Ints (l : List Int) : C := .ls (l.map C.int)
/-- A slice of numbers, in memory. -/
def IntsAt (w : World) (v : Value) (l : List Int) : Prop :=
  ∃ a cap, v = .slice a l.length cap ∧ l.length ≤ cap ∧ cap ≤ maxLen ∧ (l ≠ [] → ∃ b off, a = some ⟨b, off, none⟩ ∧ b < w.heap.size ∧ ∀ i x, l[i]? = some x → w.cell? ⟨b, off + i, none⟩ = some (.int .i64 x))
theorem IntsAt.of {w : World} {N : Nat → Prop} {v : Value} {l : List Int} (h : RdV w N (.sl (.int .i64)) v (Ints l)) : IntsAt w v l := by
  obtain ⟨vs, ⟨a, cap, rfl, h2, h3, h4⟩, rfl⟩ := h
  refine ⟨a, cap, by simp [Sh.mk, Sh.isAgg], by simpa using h2, h3, fun hne => ?_⟩
  obtain ⟨b, off, rfl, _, hlt, hr⟩ := h4 (by simpa using hne)
  refine ⟨b, off, rfl, hlt, fun i e he => ?_⟩
  obtain ⟨us, h5, h6, h7⟩ := hr i (.int e) (by simp [he])
  simp only [Rd] at h7
  subst h7
  have := h6 0 _ rfl
  simpa [Sh.size] using this
/-- How many, from the first one on, hold, at most so many. -/
def begN (l : List Int) (most : Nat) (h : Int → Bool) : Nat := ((l.take most).takeWhile h).length
theorem begN_at (l : List Int) (most : Nat) (h : Int → Bool) (k : Nat) (h1 : ∀ j, j < k → j < most ∧ ∃ x, l[j]? = some x ∧ h x = true) (h2 : ¬ (k < l.length ∧ k < most ∧ ∀ x, l[k]? = some x → h x = true)) : begN l most h = k := by
  unfold begN
  induction k generalizing l most with
  | zero =>
    cases l with
    | nil => simp
    | cons x l =>
      cases most with
      | zero => simp
      | succ m =>
        have : h x = false := by
          cases hx : h x with
          | false => rfl
          | true => exact absurd ⟨by simp, by omega, fun y hy => by simp at hy; rw [← hy]; exact hx⟩ h2
        simp [this]
  | succ k ih =>
    obtain ⟨q1, x, q2, q3⟩ := h1 0 (by omega)
    cases l with
    | nil => simp at q2
    | cons y l =>
      simp at q2
      subst q2
      cases most with
      | zero => omega
      | succ m =>
        rw [List.take_succ_cons, List.takeWhile_cons_of_pos q3, List.length_cons]
        rw [ih l m (fun j hj => by
          obtain ⟨r1, r2⟩ := h1 (j + 1) (by omega)
          exact ⟨by omega, by simpa using r2⟩) (fun hc => h2 ⟨by simp; omega, by omega, by simpa using hc.2.2⟩)]
theorem ck_beginning (w : World) (sv : Value) (l : List Int) (hsv : IntsAt w sv l) (most : Nat) (hm : most ≤ 10000) (f : FuncId) (caps : Array Value) (eg : ∀ args W, (callFunc f args).run Try.prog W = .ok (.enter f args) W) (holds : Int → Bool)
    (hcall : ∀ x, Calls Try.prog f (#[.int .i64 x] ++ caps) w fun e W' => e = .returned (.bool (holds x)) ∧ W' = w) :
    Calls Try.prog 83 #[sv, .int .i64 (most : Int), .func (.func f) #[] caps] w fun e W' => e = .returned (.int .i64 (begN l most holds : Nat)) ∧ W' = w := by
  obtain ⟨a, cap, rfl, _, _, h1⟩ := hsv
  refine (callsIn_wide (n := 3)).1 ?_
  refine callsIn_of_wp Try.func83 rfl trivial ?_ rfl
  simp only [Try.ntmps83, List.size_toArray, List.length_cons, List.length_nil, Nat.reduceAdd, Nat.reduceSub, Array.replicate_succ, Array.replicate_zero, List.push_toArray, List.append_toArray, List.nil_append, List.cons_append]
  gi_wp2
  gi_loopw [7] (fun p wr => ∃ k : Nat, p = .int .i64 (k : Int) ∧ wr = w ∧ k ≤ most ∧ ∀ j, j < k → j < most ∧ ∃ x, l[j]? = some x ∧ holds x = true)
    (fun p _ => most - (intOf p).toNat)
  case atStart =>
    exact ⟨0, rfl, rfl, Nat.zero_le _, fun j hj => by omega⟩
  case round =>
    obtain ⟨k, rfl, rfl, hk, hj⟩ := hrel
    by_cases hkl : k < l.length ∧ k < most
    · obtain ⟨b, off, rfl, hblt, hc⟩ := h1 (by intro h; rw [h] at hkl; simp at hkl)
      obtain ⟨x, hx⟩ : ∃ x, l[k]? = some x := ⟨_, List.getElem?_eq_getElem hkl.1⟩
      have d1 := hc k x hx
      have i1 : (k : Int) < l.length := by omega
      have i2 : (k : Int) < most := by omega
      gi_wp2
      refine ⟨trivial, (callsIn_wide.2 (hcall _)).mono ?_⟩
      rintro e w' ⟨rfl, rfl⟩
      have hx2 : l[k]'hkl.1 = x := by rw [List.getElem?_eq_getElem hkl.1] at hx; injection hx
      cases hh : holds x with
      | true =>
        rw [hx2, hh]
        gi_wp2
        go_roundw
        case rel =>
          refine ⟨k + 1, by simp, trivial, by omega, fun j hj2 => ?_⟩
          by_cases hjk : j = k
          · subst hjk; exact ⟨by omega, x, hx, hh⟩
          · exact hj j (by omega)
        case measure => simp [intOf]; omega
      | false =>
        rw [hx2, hh]
        gi_wp2
        go_ret
        refine ⟨?_, rfl⟩
        rw [begN_at l most holds k hj (fun hc => by have := hc.2.2 x hx; rw [hh] at this; cases this)]
        rfl
    · have hb : begN l most holds = k := begN_at l most holds k hj (fun hc => hkl ⟨hc.1, hc.2.1⟩)
      by_cases h0 : k < l.length
      · have i1 : (k : Int) < l.length := by omega
        have i2 : ¬ (k : Int) < most := by omega
        gi_wp2
        refine ⟨fun _ h => (by cases h), ?_⟩
        gi_wp2
        go_ret
        refine ⟨?_, rfl⟩
        rw [hb]
        rfl
      · have i1 : ¬ (k : Int) < l.length := by omega
        gi_wp2
        refine ⟨fun _ h => (by cases h), ?_⟩
        gi_wp2
        go_ret
        refine ⟨?_, rfl⟩
        rw [hb]
        rfl
theorem ck_next1 (w : World) (b : Nat) (sv : Value) (l : List Int) (hsv : IntsAt w sv l) (hb : Boxed w b 22 sv) (y : Int) (hy : l[0]? = some y) (x : Int) :
    Calls Try.prog 84 (#[.int .i64 x] ++ #[.pointer (some ⟨b, 0, none⟩)]) w fun e W' => e = .returned (.bool (x == y)) ∧ W' = w := by
  obtain ⟨a, cap, rfl, _, _, h1⟩ := hsv
  obtain ⟨b2, off, rfl, hblt, hc⟩ := h1 (by intro h; rw [h] at hy; simp at hy)
  have d1 := hc 0 y hy
  simp only [Nat.add_zero] at d1
  have hcell := hb.cell
  have hlen : 0 < l.length := by cases l; simp at hy; simp
  have i1 : (0 : Int) < l.length := by omega
  refine (callsIn_wide (n := 3)).1 ?_
  refine callsIn_of_wp Try.func84 rfl trivial ?_ rfl
  simp only [Try.ntmps84, List.size_toArray, List.length_cons, List.length_nil, Nat.reduceAdd, Nat.reduceSub, Array.replicate_succ, Array.replicate_zero, List.push_toArray, List.append_toArray, List.nil_append, List.cons_append]
  gi_wp2
  go_ret
  exact ⟨rfl, rfl⟩
theorem ck_next2 (w : World) (x : Int) : Calls Try.prog 85 (#[.int .i64 x] ++ #[]) w fun e W' => e = .returned (.bool (x != 2)) ∧ W' = w := by
  refine (callsIn_wide (n := 3)).1 ?_
  refine callsIn_of_wp Try.func85 rfl trivial ?_ rfl
  simp only [Try.ntmps85, List.size_toArray, List.length_cons, List.length_nil, Nat.reduceAdd, Nat.reduceSub, Array.replicate_succ, Array.replicate_zero, List.push_toArray, List.append_toArray, List.nil_append, List.cons_append]
  gi_wp2
  go_ret
  exact ⟨rfl, rfl⟩
end Go.Vc
