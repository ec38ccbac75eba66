/-
  The contract of nack.Read, which ranges over a function: walked by hand.
-/
import Derived.RangeFuncBox
import Derived.RangeFuncLeaves
import Derived.Shelf.Abstract
import Derived.WalkKit
import Derived.OwnWalkIn
import Derived.TacticsInMore
import Derived.LoopNIn
import Derived.LoopIn
import Derived.Maps.AppendAt
import Derived.Test.YtoijaooechdemaaQBase3
import Derived.Test.YtoijaooechdemaaQOc
set_option maxRecDepth 100000
namespace Go.Vc
open Go Go.Proofs Go.Plain Go.RowKit Go.Shelf
attribute [local go_sem] Oper.semAt_some
theorem nk_get (W : World) (N : Nat → Prop) (sv : Value) (b : List UInt8) (hbl : b.length ≤ 65520) (k : Nat) (hk : 4 * k + 4 ≤ b.length) (hsv : RdV W N Byt sv (B b)) :
    Calls Try.prog 16 #[sv, .int .i64 (4 * (k : Int)), .int .i64 4] W fun e w' => e = .returned (.tuple #[.int .u64 (num b (4 * k) 4 : Int), .int .i64 0]) ∧ Below W.heap.size W w' := by
  have h := (PC.to0 (by decide) (pc_octet_Get b (4 * (k : Int)) 4 (by omega))).2 W N [sv, .int .i64 (4 * (k : Int)), .int .i64 4]
    ⟨_, _, rfl, hsv, _, _, rfl, ⟨_, rfl, rfl⟩, _, _, rfl, ⟨_, rfl, rfl⟩, rfl⟩
  refine h.mono ?_
  have e0 : getE b.length (4 * (k : Int)) 4 = 0 := by rw [getE_zero]; omega
  have ek : (4 * (k : Int)).toNat = 4 * k := by omega
  have e1 : getV b (4 * (k : Int)) 4 = num b (4 * k) 4 := by rw [getV, if_pos e0]; unfold cut num; rw [ek]; rfl
  rintro e w' ⟨v, rfl, ⟨vs, ⟨v1, r1, rfl, ⟨_, h1, rfl⟩, v2, r2, rfl, ⟨_, h2, rfl⟩, rfl⟩, rfl⟩, hb⟩
  simp only [Rd] at h1 h2
  subst h1 h2
  refine ⟨?_, hb⟩
  simp only [e0, e1, v_int]
  rfl
theorem nk_words1 (l Bn n₀ : Nat) (N : Nat → Prop) (sv : Value) (b : List UInt8) (hb4 : b.length % 4 = 0) (hbl : b.length ≤ 65520) (w0 : World) (hn₀ : n₀ = w0.heap.size) (hsv : RdV w0 N Byt sv (B b))
    (J Jx : List Int → World → Prop) (n : Nat) (h1 : 1 ≤ n)
    (hJ : ∀ W : World, n₀ ≤ W.heap.size → ∀ pre W', J pre W → Below W.heap.size W W' → J pre W')
    (hY : ∀ pre x W, J pre W → pre.length < b.length / 4 → YieldAt Fence.wide (n - 1) Try.prog l #[.int .u32 x] W fun e W' =>
      (e = .returned (.bool true) ∧ J (pre ++ [x]) W' ∧ (Below n₀ W W' ∧ (Boxed W Bn 22 sv → Boxed W' Bn 22 sv))) ∨ (e = .returned (.bool false) ∧ Jx (pre ++ [x]) W'))
    (W : World) (hW : Below n₀ w0 W) (hBn : Boxed W Bn 22 sv) (h0 : J [] W) :
    CallsIn Fence.wide n Try.prog 56 #[.func (.yield l) #[] #[], .pointer (some ⟨Bn, 0, none⟩)] W fun e W' => (∃ v, e = .returned v) ∧
      ((∃ ys, ys = (List.range (b.length / 4)).map (fun i => ((num b (4 * i) 4 : Nat) : Int)) ∧ J ys W') ∨ (∃ pre, True ∧ Jx pre W')) := by
  refine callsIn_of_wp Try.func56 rfl trivial ?_ rfl
  obtain ⟨a, cap, rfl⟩ : ∃ a cap, sv = .slice a b.length cap := by
    obtain ⟨vs, ⟨a, cap, rfl, _⟩, rfl⟩ := hsv
    exact ⟨a, cap, by simp [Sh.mk, Sh.isAgg, B, ofBytes]⟩
  simp only [Try.ntmps56, List.size_toArray, List.length_cons, List.length_nil, Nat.reduceAdd, Nat.reduceSub, Array.replicate_succ, Array.replicate_zero, List.push_toArray, List.append_toArray, List.nil_append, List.cons_append]
  gi_wp2
  gi_loopw [3] (fun p wr => ∃ k : Nat, p = .int .i64 (4 * (k : Int)) ∧ 4 * k ≤ b.length ∧ J ((List.range k).map (fun i => ((num b (4 * i) 4 : Nat) : Int))) wr ∧ Below n₀ w0 wr ∧ Boxed wr Bn 22 (.slice a b.length cap))
    (fun p _ => b.length - (intOf p).toNat)
  case atStart =>
    exact ⟨0, rfl, Nat.zero_le _, h0, hW, hBn⟩
  case round =>
    obtain ⟨k, rfl, hk, hJs, hB, hX⟩ := hrel
    have hc := hX.cell
    have hw4 : IntKind.i64.wrap (4 * (k : Int) + 4) = 4 * (k : Int) + 4 := wrapi64_in (by omega)
    by_cases hkl : 4 * k + 4 ≤ b.length
    · have hg := nk_get wr N _ b hbl k hkl (hsv.mono hB.size fun c hc hlt => ⟨hB.block c (by omega), hc⟩)
      have hBs := hB.size
      have hm : (num b (4 * k) 4 : Int) % 4294967296 = (num b (4 * k) 4 : Int) := by have : num b (4 * k) 4 < 4294967296 := num_lt b _ 4; omega
      gi_wp2_with (refine ⟨trivial, ?_⟩; gi_at_call 16; refine (callsIn_wide.2 hg).mono ?_; rintro e w' ⟨rfl, hbel⟩; obtain ⟨fn, tmps, assign, body, hy, hR⟩ := hY _ (num b (4 * k) 4 : Int) w' (hJ wr (by omega) _ w' hJs hbel) (by simp; omega))
      refine hR.mono ?_
      rintro e W3 (⟨rfl, hJ3, hk3, hk4⟩ | ⟨rfl, hJx3⟩)
      · have hX3 := hk4 (hX.kept ⟨hbel.os, hbel.tape, hbel.output, hbel.size, fun k hk _ => hbel.block k hk⟩ (row := none) (by simp))
        gi_wp2
        go_roundw
        case rel =>
          refine ⟨k + 1, by simp; omega, by omega, ?_, (hB.trans (hbel.mono (by omega))).trans hk3, hX3⟩
          rw [List.range_succ, List.map_append]
          exact hJ3
        case measure =>
          simp [intOf]
          omega
      · gi_wp2
        refine bodyPost_ret (results_none rfl _ _ _) rfl ?_
        exact ⟨⟨_, rfl⟩, .inr ⟨_, trivial, hJx3⟩⟩
    · gi_wp2
      go_end0
      refine ⟨⟨_, rfl⟩, .inl ⟨_, ?_, hJs⟩⟩
      rw [show k = b.length / 4 by omega]
theorem nk_words (n : Nat) (sv : Value) (w : World) (hs : ∃ a m c, sv = .slice a m c) :
    CallsIn Fence.wide n Try.prog 50 #[sv] w fun e w' => e = .returned (.func (.func 56) #[] #[.pointer (some ⟨w.heap.size, 0, none⟩)]) ∧ w' = w.alloc (.cells #[sv] 22) := by
  obtain ⟨a, m, c, rfl⟩ := hs
  refine callsIn_of_wp Try.func50 rfl trivial ?_ rfl
  simp only [Try.ntmps50, List.size_toArray, List.length_cons, List.length_nil, Nat.reduceAdd, Nat.reduceSub, Array.replicate_succ, Array.replicate_zero, List.push_toArray, List.append_toArray, List.nil_append, List.cons_append]
  gi_wp2
  go_ret
  exact ⟨rfl, rfl⟩
theorem nk_info : (Try.prog.info? 62).map (fun i => (i.zero, i.size, i.bytes)) = some (some (.agg #[.int .u16 0, .int .u16 0]), 2, 4) := by kernel_rfl
/-- The cells of a pair. -/
def nkCells (x : Int) : List Value := [.int .u16 (x / 65536 % 65536), .int .u16 (x % 65536)]
theorem cells_two_new (w : World) (x y : Value) (t : TypeId) : ∀ j u, [x, y][j]? = some u → (w.alloc (.cells #[x, y] t)).cell? ((⟨w.heap.size, 0, none⟩ : Addr).add j) = some u := by
  intro j u hj
  have h := World.alloc_heap_new w (.cells #[x, y] t)
  match j, hj with
  | 0, hj => obtain rfl : x = u := by simpa using hj
             show (match (w.alloc (.cells #[x, y] t)).heap[w.heap.size]? with | some (.cells c _ _) => _ | _ => none) = _
             rw [h]
             rfl
  | 1, hj => obtain rfl : y = u := by simpa using hj
             show (match (w.alloc (.cells #[x, y] t)).heap[w.heap.size]? with | some (.cells c _ _) => _ | _ => none) = _
             rw [h]
             rfl
theorem nk_num (b : List UInt8) (i : Nat) (h : i + 4 ≤ b.length) : num b i 4 = 65536 * (256 * at_ b i + at_ b (i + 1)) + (256 * at_ b (i + 2) + at_ b (i + 3)) := by
  have d1 : b.drop i = b.getD i 0 :: b.getD (i + 1) 0 :: b.getD (i + 2) 0 :: b.getD (i + 3) 0 :: b.drop (i + 4) := by
    have s : ∀ k, k < b.length → b.drop k = b.getD k 0 :: b.drop (k + 1) := fun k hk => by
      rw [List.drop_eq_getElem_cons hk]
      simp [List.getD, hk]
    rw [s i (by omega), s (i + 1) (by omega), s (i + 2) (by omega), s (i + 3) (by omega)]
  unfold num
  rw [d1]
  simp only [List.take_succ_cons, List.take_zero, be, List.foldl_cons, List.foldl_nil, at_]
  omega
theorem nk_cells (b : List UInt8) : ((prOf b).flatMap fun p => [Value.int .u16 p.pid, Value.int .u16 p.mask]) = ((List.range (b.length / 4)).map fun i => ((num b (4 * i) 4 : Nat) : Int)).flatMap nkCells := by
  unfold prOf
  rw [List.flatMap_map, List.flatMap_map]
  rw [List.flatMap_def, List.flatMap_def]
  congr 1
  apply List.map_congr_left
  intro i hi
  rw [List.mem_range] at hi
  have e := nk_num b (4 * i) (by omega)
  have h1 := at_lt b (4 * i)
  have h2 := at_lt b (4 * i + 1)
  have h3 := at_lt b (4 * i + 2)
  have h4 := at_lt b (4 * i + 3)
  simp only [nkCells, Pr.at, e, List.cons.injEq, Value.int.injEq, true_and, and_true]
  constructor <;> omega
theorem nk_read (w : World) (N : Nat → Prop) (sv : Value) (b : List UInt8) (hsv : RdV w N Byt sv (B b)) (hbl : b.length ≤ 140737488355328) :
    CallsIn Fence.wide 3 Try.prog 36 #[sv] w fun e W' => ∃ v, e = .returned (.tuple #[v, .int .i64 (nkE b)]) ∧ W'.ownsRow w.heap.size 62 2 v (nkR b).length ((nkR b).flatMap fun p => [.int .u16 p.pid, .int .u16 p.mask]) ∧ Below w.heap.size w W' := by
  obtain ⟨a, cap, rfl⟩ : ∃ a cap, sv = .slice a b.length cap := by
    obtain ⟨vs, ⟨a, cap, rfl, _⟩, rfl⟩ := hsv
    exact ⟨a, cap, by simp [Sh.mk, Sh.isAgg, B, ofBytes]⟩
  obtain ⟨i0, hi, hz0, hz1, hz2⟩ := info_parts nk_info
  refine callsIn_of_wp_marks Try.func36 rfl trivial ?_ rfl
  simp only [Try.ntmps36, List.size_toArray, List.length_cons, List.length_nil, Nat.reduceAdd, Nat.reduceSub, Array.replicate_succ, Array.replicate_zero, List.push_toArray, List.append_toArray, List.nil_append, List.cons_append]
  gi_wp2_with (refine ⟨trivial, ?_⟩; gi_at_call 50; refine (nk_words 2 _ _ ⟨_, _, _, rfl⟩).mono ?_; rintro e w' ⟨rfl, rfl⟩)
  · have e : nkE b = 4 := by unfold nkE; rw [if_pos]; simp_all; omega
    refine ⟨_, results_tmp2 rfl _ _ _, .slice none 0 0, by rw [e]; rfl, ?_, Below.refl _ _⟩
    rw [nkR, if_neg (by rw [e]; decide)]
    exact World.ownsRow_nil _ _ _ _
  · have e : nkE b = 2 := by unfold nkE; rw [if_neg, if_pos] <;> simp_all <;> omega
    refine ⟨_, results_tmp2 rfl _ _ _, .slice none 0 0, by rw [e]; rfl, ?_, Below.refl _ _⟩
    rw [nkR, if_neg (by rw [e]; decide)]
    exact World.ownsRow_nil _ _ _ _
  · have e : nkE b = 0 := by
      have g1 := ‹(b.length : Int) ≤ 65520 ∧ ((b.length : Int) % 4 != 0) = false›
      have g2 := ‹((b.length : Int) == 0) = false›
      have g3 := g1.2
      simp only [bne_eq_false_iff_eq] at g3
      simp only [beq_eq_false_iff_ne, ne_eq] at g2
      rw [nkE_zero]
      omega
    obtain ⟨q1, q2, q3⟩ := nkE_zero.1 e
    have bO := Boxed.new w 47 (.slice none 0 0)
    have bN := Boxed.new (w.alloc (.cells #[.slice none 0 0] 47)) 22 (.slice a b.length cap)
    rw [World.size_alloc] at bN
    have hB0 : Below w.heap.size w ((w.alloc (.cells #[.slice none 0 0] 47)).alloc (.cells #[.slice a b.length cap] 22)) := ((Below.refl _ w).alloc (Nat.le_refl _) _).alloc (by simp) _
    refine wpIn_rangeFunc_ownG (α := Int) rfl (by decide) (gf := 56) (lb := #[.pointer (some ⟨w.heap.size + 1, 0, none⟩)]) rfl trivial (enters_of Try.func56 (by kernel_rfl) rfl)
      (encs := fun x => #[.int .u32 x]) (Kp := fun A A' => Below w.heap.size A A' ∧ (Boxed A (w.heap.size + 1) 22 (.slice a b.length cap) → Boxed A' (w.heap.size + 1) 22 (.slice a b.length cap)))
      (S := fun ys => ys = (List.range (b.length / 4)).map (fun i => ((num b (4 * i) 4 : Nat) : Int))) (Sp := fun _ => True) (N := b.length / 4)
      (fun l J Jx W hW hJ _ hY h0 => nk_words1 l (w.heap.size + 1) w.heap.size N _ b q2 q1 w rfl hsv J Jx 2 (by decide)
        (fun A hA pre A' hj hb => hJ pre A A' none hj ⟨hb.os, hb.tape, hb.output, hb.size, fun k hk _ => hb.block k hk⟩ (fun r e => by cases e)) hY W (hB0.trans (hW.mono (by simp; omega)))
        (bN.kept (W' := W) (row := none) ⟨hW.os, hW.tape, hW.output, hW.size, fun k hk _ => hW.block k hk⟩ (by simp)) h0)
      (fun h k => ⟨h.1.trans k.1, fun x => k.2 (h.2 x)⟩)
      (fun W l o o' hl ho hc _ => ⟨belowK_b (w := w) (Nat.le_refl _) W l o o' (by simp at hl; omega) ho hc (by assumption), fun hx => ?_⟩)
      (Below.refl _ _) (fun _ => rfl)
      (fun pre W => (∃ v, Boxed W w.heap.size 47 v ∧ W.ownsRow w.heap.size 62 2 v pre.length (pre.flatMap nkCells) ∧ True) ∧ Boxed W (w.heap.size + 1) 22 (.slice a b.length cap) ∧ Below w.heap.size w W)
      (fun _ _ _ => False) ?hI (fun _ _ _ _ _ hs _ _ => hs)
      ⟨⟨_, bO.alloc _, World.ownsRow_nil _ _ _ _, trivial⟩, bN, hB0⟩
      (fun x => { tmps := #[.slice a b.length cap, undef, .slice none 0 0, .int .i64 0, .pointer (some ⟨w.heap.size, 0, none⟩), .int .u32 x, .slice a b.length cap, .int .i64 b.length, .bool (decide (65520 < (b.length : Int))), .bool (decide (65520 < (b.length : Int))), .slice a b.length cap, .int .i64 b.length, .int .i64 (b.length % 4), .bool false, .bool (decide (65520 < (b.length : Int))), .slice a b.length cap, .int .i64 b.length, .bool false, .slice a b.length cap, .func (.func 56) #[] #[.pointer (some ⟨w.heap.size + 1, 0, none⟩)], .int .u32 x, undef, undef, undef, undef, undef, undef, undef, undef, undef, undef], defers := [] }) ?assign ?body ?done ?stop
    case hI =>
      refine OwnFrom.and (Own.from (holdsRow_own w.heap.size w.heap.size 47 62 2 (fun pre : List Int => pre.length) (fun pre => pre.flatMap nkCells) (fun _ _ => True)) _) (OwnFrom.and ?_ (ownFrom_below (Nat.le_refl _) (by simp; omega)))
      intro s A A' row hs hg hr
      refine hs.kept hg (fun e => ?_)
      obtain ⟨_, o, ho, hc⟩ := hr _ e.symm
      rw [show A.heap[w.heap.size + 1]? = _ from hs] at ho
      cases ho
      cases hc
    case assign =>
      intro l x W K hK
      gi_wp2
      exact hK
    case body =>
      rintro l pre x W ⟨⟨v, hv, hrow, _⟩, hX, hB⟩ hlt
      have hc := hv.cell
      gi_wp2_with (gi_at_builtin; refine wpListIn_append_own _ rfl _ _ 47 rfl w.heap.size 62 i0 (.agg #[.int .u16 0, .int .u16 0]) 2 4 Try.underlying47 hi hz0 hz1 hz2 rfl (by decide) _ _ _ rfl (hrow.alloc _) ⟨W.heap.size, 0, none⟩ 1 1 (nkCells x) rfl rfl (cells_two_new _ _ _ _) (by simp [nkCells, Value.oneCell']) (by simp only [maxLen]; omega) (by omega) (by have := hB.size; simp; omega) ?_; intro v' w1 hown' hgrow _; obtain ⟨g', cap', rfl⟩ := ownsRow_succ hown'; obtain ⟨hv1, hv2, hr2, hk2, hb2⟩ := hv.appended (by decide) hrow hB.size (Nat.le_refl _) hown' hgrow; have hc1 := hv1.cell; have hf1 := hv1.frozen)
      have hX1 := ((hX.alloc _).kept hgrow (hX.not_row (by decide) hrow)).kept (grownBy_setCell' w1 w.heap.size (.slice (some ⟨g', 0, none⟩) (pre.length + 1) cap')) (by simp)
      refine ⟨hk2.from _, ⟨hb2, fun _ => hX1⟩, ⟨_, hv2, ?_, trivial⟩, hX1, hB.trans hb2⟩
      rw [List.flatMap_append, List.length_append, List.flatMap_singleton]
      exact hr2
    case done =>
      rintro D ys W hD rfl ⟨⟨v, hv, hrow, _⟩, hX, hB⟩ hK
      have hc := hv.cell
      gi_wp2
      refine ⟨by simp, .inl ⟨_, _, rfl, run_takeDeferred hK, ?_⟩⟩
      refine ⟨_, results_tmp2 rfl _ _ _, v, by rw [e]; rfl, ?_, hB.trans (belowK_b (w := w) (Nat.le_refl _) W D _ _ (by simp at hD; omega) hK rfl rfl)⟩
      have hr := ownsRow_putObj hrow (.deferred none) hK rfl
      rw [nkR, if_pos e, nk_cells, prOf_length]
      simpa using hr
    case stop =>
      rintro D c pre W _ _ h _
      exact h.elim
    · refine hx.kept (grownBy_putObj' W l o') (fun e => ?_)
      cases e
      rw [show W.heap[w.heap.size + 1]? = _ from hx] at ho
      cases ho
      cases hc
  · have e : nkE b = 4 := by unfold nkE; rw [if_pos]; simp_all; omega
    refine ⟨_, results_tmp2 rfl _ _ _, .slice none 0 0, by rw [e]; rfl, ?_, Below.refl _ _⟩
    rw [nkR, if_neg (by rw [e]; decide)]
    exact World.ownsRow_nil _ _ _ _
end Go.Vc
