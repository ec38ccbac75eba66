/-
  The contract of fresh.Anew, which holds a map: walked by hand.
-/
import Derived.RangeFuncBox
import Derived.RangeFuncLeaves
import Derived.Shelf.Abstract
import Derived.WalkKit
import Derived.OwnWalkIn
import Derived.TacticsInMore
import Derived.LoopNIn
import Derived.LoopIn
import Derived.Maps.AppendAt
import Derived.Test.YtkkkjjonjdkngaaQBase3
import Derived.Test.YtkkkjjonjdkngaaQCm
set_option maxRecDepth 100000
namespace Go.Vc
open Go Go.Proofs Go.Plain Go.RowKit Go.Shelf
abbrev EnSh : Sh := .pair U32 (.pair U8 .unit)
abbrev EnC (e : En) : C := .ls [.int e.ssrc, .int e.seq]
abbrev Ens (l : List En) : C := .ls (l.map EnC)
def enCells (e : En) : List Value := [.int .u32 e.ssrc, .int .u8 e.seq]
/-- A slice of entries, in memory. -/
def EnsAt (w : World) (v : Value) (l : List En) : Prop :=
  ∃ a cap, v = .slice a l.length cap ∧ (l ≠ [] → ∃ b off, a = some ⟨b, off, none⟩ ∧ b < w.heap.size ∧
    ∀ i e, l[i]? = some e → w.cell? ⟨b, off + i * 2, none⟩ = some (.int .u32 e.ssrc) ∧ w.cell? ⟨b, off + i * 2 + 1, none⟩ = some (.int .u8 e.seq))
theorem EnsAt.of {w : World} {N : Nat → Prop} {v : Value} {l : List En} (h : RdV w N (.sl EnSh) v (Ens l)) : EnsAt w v l := by
  obtain ⟨vs, ⟨a, cap, rfl, _, _, h4⟩, rfl⟩ := h
  refine ⟨a, cap, by simp [Sh.mk, Sh.isAgg], fun hne => ?_⟩
  obtain ⟨b, off, rfl, _, hlt, hr⟩ := h4 (by simpa using hne)
  refine ⟨b, off, rfl, hlt, fun i e he => ?_⟩
  obtain ⟨us, h5, h6, h7⟩ := hr i (EnC e) (by simp [he])
  obtain ⟨_, va, vb, rfl, h8, _, vc, vd, rfl, h9, h10⟩ := h7
  simp only [Rd] at h8 h9 h10
  subst h8 h9 h10
  exact ⟨h6 0 _ rfl, h6 1 _ rfl⟩
theorem EnsAt.below {w w' : World} {v : Value} {l : List En} (h : EnsAt w v l) (hb : Below w.heap.size w w') : EnsAt w' v l := by
  obtain ⟨a, cap, rfl, h⟩ := h
  refine ⟨a, cap, rfl, fun hne => ?_⟩
  obtain ⟨b, off, rfl, hlt, hc⟩ := h hne
  refine ⟨b, off, rfl, Nat.lt_of_lt_of_le hlt hb.size, fun i e he => ?_⟩
  obtain ⟨h1, h2⟩ := hc i e he
  exact ⟨(hb.cell (p := ⟨b, off + i * 2, none⟩) hlt).trans h1, (hb.cell (p := ⟨b, off + i * 2 + 1, none⟩) hlt).trans h2⟩
theorem fr_info : (Try.prog.info? 41).map (fun i => (i.zero, i.size, i.bytes)) = some (some (.agg #[.int .u32 0, .int .u8 0]), 2, 8) := by kernel_rfl
theorem fr_anew (w : World) (v1 v2 : Value) (was l : List En) (h1 : EnsAt w v1 was) (h2 : EnsAt w v2 l) (hl : was.length ≤ 1000000) (hl2 : l.length ≤ 1000000) :
    Calls Try.prog 21 #[v1, v2] w fun e W' => ∃ v, e = .returned v ∧ W'.ownsRow w.heap.size 41 2 v (anew was l).length ((anew was l).flatMap enCells) ∧ Below w.heap.size w W' := by
  obtain ⟨i0, hi, hz0, hz1, hz2⟩ := info_parts fr_info
  obtain ⟨a1, cap1, rfl, h1⟩ := h1
  obtain ⟨a2, cap2, rfl, h2⟩ := h2
  refine (callsIn_wide (n := 3)).1 ?_
  refine callsIn_of_wp Try.func21 rfl trivial ?_ rfl
  simp only [Try.ntmps21, List.size_toArray, List.length_cons, List.length_nil, Nat.reduceAdd, Nat.reduceSub, Array.replicate_succ, Array.replicate_zero, List.push_toArray, List.append_toArray, List.nil_append, List.cons_append]
  have hmm := @run_makeMap Try.prog
  gi_wp2
  gi_loopw [16] (fun p wr => ∃ k : Nat, p = .int .i64 (k : Int) ∧ k ≤ was.length ∧ Below w.heap.size w wr ∧ ∃ M, MapIs wr w.heap.size .u32 M ∧ ∀ x : Nat, look M x = (lastSeq (was.take k) x).map fun q => .int .u8 (q : Int))
    (fun p _ => was.length - (intOf p).toNat)
  case atStart =>
    exact ⟨0, rfl, Nat.zero_le _, (Below.refl _ w).alloc (Nat.le_refl _) _, [], MapIs.new w _, fun x => rfl⟩
  case round =>
    obtain ⟨k, rfl, hk, hB, M, hM, hML⟩ := hrel
    by_cases hkl : k < was.length
    · obtain ⟨b, off, rfl, hblt, hc⟩ := h1 (by intro h; rw [h] at hkl; simp at hkl)
      obtain ⟨e, he⟩ : ∃ e, was[k]? = some e := ⟨_, List.getElem?_eq_getElem hkl⟩
      obtain ⟨c1, c2⟩ := hc k e he
      have d1 : wr.cell? ⟨b, off + k * 2, none⟩ = some (.int .u32 e.ssrc) := (hB.cell (p := ⟨b, off + k * 2, none⟩) hblt).trans c1
      have d2 : wr.cell? ⟨b, off + k * 2 + 1, none⟩ = some (.int .u8 e.seq) := (hB.cell (p := ⟨b, off + k * 2 + 1, none⟩) hblt).trans c2
      obtain ⟨w1, hrun, hM1, hg1⟩ := (hM.kept (World.grownBy_alloc wr (.cells #[.int .u32 e.ssrc, .int .u8 e.seq] 41) none) (by simp)).put_run (P := Try.prog) Try.underlying89 Try.underlying39 (e.ssrc : Int) (.int .u8 e.seq)
      gi_wp2
      go_roundw
      case rel =>
        refine ⟨k + 1, by simp, by omega, ?_, _, hM1, fun x => ?_⟩
        · refine (hB.alloc hB.size _).grown hg1 (by have := hB.size; simp; omega) (fun j ej => by cases ej; exact Nat.le_refl _)
        · rw [look_mput, List.take_add_one, he, Option.toList_some, lastSeq_snoc, hML]
          by_cases hx : e.ssrc = x
          · rw [if_pos hx, if_pos (by omega)]; rfl
          · rw [if_neg hx, if_neg (by omega)]
      case measure =>
        simp [intOf]
        omega
    · gi_wp2
      gi_loopw [28, 8] (fun p q wr => ∃ k : Nat, p = .int .i64 (k : Int) ∧ k ≤ l.length ∧ Below w.heap.size w wr ∧ (∃ M, MapIs wr w.heap.size .u32 M ∧ ∀ x : Nat, look M x = (lastSeq (was ++ l.take k) x).map fun q => .int .u8 (q : Int)) ∧
          wr.ownsRow w.heap.size 41 2 q (anew was (l.take k)).length ((anew was (l.take k)).flatMap enCells))
        (fun p _ _ => l.length - (intOf p).toNat)
      case atStart => 
        have : k = was.length := by omega
        subst this
        rw [List.take_length] at hML
        exact ⟨0, rfl, Nat.zero_le _, hB, ⟨M, hM, by simpa using hML⟩, by simpa [anew] using World.ownsRow_nil _ _ _ _⟩
      case round =>
        obtain ⟨k2, rfl, hk2, hB2, ⟨M2, hM2, hML2⟩, hrow⟩ := hrel
        by_cases hkl2 : k2 < l.length
        · obtain ⟨b, off, rfl, hblt, hc⟩ := h2 (by intro h; rw [h] at hkl2; simp at hkl2)
          obtain ⟨e, he⟩ : ∃ e, l[k2]? = some e := ⟨_, List.getElem?_eq_getElem hkl2⟩
          obtain ⟨c1, c2⟩ := hc k2 e he
          have d1 : wr.cell? ⟨b, off + k2 * 2, none⟩ = some (.int .u32 e.ssrc) := (hB2.cell (p := ⟨b, off + k2 * 2, none⟩) hblt).trans c1
          have d2 : wr.cell? ⟨b, off + k2 * 2 + 1, none⟩ = some (.int .u8 e.seq) := (hB2.cell (p := ⟨b, off + k2 * 2 + 1, none⟩) hblt).trans c2
          have hM3 := hM2.kept (World.grownBy_alloc wr (.cells #[.int .u32 e.ssrc, .int .u8 e.seq] 41) none) (by simp)
          have hlk := hM3.look_run (P := Try.prog) Try.underlying89 Try.underlying39 (Try.zeroValue5 _) (e.ssrc : Int) true
          rw [hML2, if_pos rfl] at hlk
          have htk : l.take (k2 + 1) = l.take k2 ++ [e] := by rw [List.take_add_one, he]; rfl
          have han := anew_snoc was (l.take k2) e
          rw [← htk] at han
          have hal := anew_length was (l.take k2)
          rw [List.length_take] at hal
          have hBs := hB2.size
          have hlast : ∀ (M : List (Int × Value)), (∀ x : Nat, look M x = (lastSeq (was ++ l.take k2) x).map fun q => .int .u8 (q : Int)) → ∀ x : Nat, look (mput M e.ssrc (.int .u8 e.seq)) x = (lastSeq (was ++ l.take (k2 + 1)) x).map fun q => .int .u8 (q : Int) := by
            intro M hM x
            rw [look_mput, htk, ← List.append_assoc, lastSeq_snoc, hM]
            by_cases hx : e.ssrc = x
            · rw [if_pos hx, if_pos (by omega)]; rfl
            · rw [if_neg hx, if_neg (by omega)]
          by_cases hnew : Plain.isNew (was ++ l.take k2) e
          · rw [if_pos hnew] at han
            have hcn : ∀ j u, (enCells e)[j]? = some u → ((wr.alloc (.cells #[.int .u32 e.ssrc, .int .u8 e.seq] 41)).alloc (.cells #[.int .u32 e.ssrc, .int .u8 e.seq] 41)).cell? ((⟨wr.heap.size + 1, 0, none⟩ : Addr).add j) = some u := by
              have := cells_two_new (wr.alloc (.cells #[.int .u32 e.ssrc, .int .u8 e.seq] 41)) (.int .u32 e.ssrc) (.int .u8 e.seq) 41
              rwa [World.size_alloc] at this
            have hafter : ∀ (v' : Value) (w1 : World) (n : Nat), w1.ownsRow w.heap.size 41 2 v' n ((anew was (l.take k2)).flatMap enCells ++ enCells e) →
                ((wr.alloc (.cells #[.int .u32 e.ssrc, .int .u8 e.seq] 41)).alloc (.cells #[.int .u32 e.ssrc, .int .u8 e.seq] 41)).grownBy w1 (Value.ownBlock u8) →
                w1.cell? ⟨wr.heap.size, 0, none⟩ = some (.int .u32 e.ssrc) ∧ w1.cell? ⟨wr.heap.size, 1, none⟩ = some (.int .u8 e.seq) ∧
                ∃ w3, (Instr.mapUpdate 89 (.map (some w.heap.size)) (.int .u32 e.ssrc) (.int .u8 e.seq)).run Try.prog w1 = .ok () w3 ∧ MapIs w3 w.heap.size .u32 (mput M2 e.ssrc (.int .u8 e.seq)) ∧ w1.grownBy w3 (some w.heap.size) ∧ Below w.heap.size w w3 ∧
                  (n = (anew was (l.take k2)).length + 1 → w3.ownsRow w.heap.size 41 2 v' (anew was (l.take (k2 + 1))).length ((anew was (l.take (k2 + 1))).flatMap enCells)) := by
              intro v' w1 n hown' hgrow
              have hA := hM3.kept (World.grownBy_alloc _ (.cells #[.int .u32 e.ssrc, .int .u8 e.seq] 41) none) (by simp)
              have hrA := (hrow.alloc (.cells #[.int .u32 e.ssrc, .int .u8 e.seq] 41)).alloc (.cells #[.int .u32 e.ssrc, .int .u8 e.seq] 41)
              obtain ⟨w3, hrun3, hM5, hg3⟩ := (hA.kept hgrow (hA.not_row hrA)).put_run (P := Try.prog) Try.underlying89 Try.underlying39 (e.ssrc : Int) (.int .u8 e.seq)
              have hb0 : w1.heap[wr.heap.size]? = some (.cells #[.int .u32 e.ssrc, .int .u8 e.seq] 41) := by
                rw [hgrow.block wr.heap.size (by simp; omega) (new_not_row hrow), Below.heap_alloc _ _ _ (by simp)]
                exact heap_alloc_new wr _
              refine ⟨by show (match w1.heap[wr.heap.size]? with | some (.cells c _ _) => _ | _ => none) = _; rw [hb0]; rfl, by show (match w1.heap[wr.heap.size]? with | some (.cells c _ _) => _ | _ => none) = _; rw [hb0]; rfl, w3, hrun3, hM5, hg3, ?_, fun hn => ?_⟩
              · refine (((hB2.alloc hBs _).alloc (by simp; omega) _).grown hgrow (by simp; omega) (fun j ej => ?_)).grown hg3 (by have := hgrow.size; simp at this; omega) (fun j ej => by cases ej; exact Nat.le_refl _)
                rcases hrow.2 with ⟨hu, _⟩ | ⟨g, cap, cur, hu, hb, _⟩
                · rw [hu] at ej; simp [Value.ownBlock] at ej
                · rw [hu] at ej
                  obtain rfl : g = j := by simpa [Value.ownBlock] using ej
                  exact hb
              · rw [han, List.length_append, List.flatMap_append, List.flatMap_singleton, List.length_singleton, ← hn]
                exact hown'.kept hg3 (.inr (fun e => (hA.kept hgrow (hA.not_row hrA)).not_row hown' e.symm))
            cases hq : lastSeq (was ++ l.take k2) e.ssrc with
            | none =>
              rw [hq] at hlk
              simp only [Option.map_none, Option.getD_none, Option.isSome_none] at hlk
              gi_wp2_with (gi_at_builtin; refine wpListIn_append_own _ rfl _ _ 22 rfl w.heap.size 41 i0 (.agg #[.int .u32 0, .int .u8 0]) 2 8 Try.underlying22 hi hz0 hz1 hz2 rfl (by decide) _ _ _ rfl ((hrow.alloc _).alloc _) ⟨wr.heap.size + 1, 0, none⟩ 1 1 (enCells e) rfl rfl hcn (by simp [enCells, Value.oneCell']) (by simp only [maxLen]; omega) (by omega) (by simp; omega) ?_; intro v' w1 hown' hgrow _; obtain ⟨g', cap', rfl⟩ := ownsRow_succ hown'; obtain ⟨f1, f2, w3, hrun3, hM5, hg3, hB3, hrow3⟩ := hafter _ _ _ hown' hgrow; have hrow3 := hrow3 rfl)
              go_roundw
              case rel => exact ⟨k2 + 1, by simp, by omega, hB3, ⟨_, hM5, hlast _ hML2⟩, hrow3⟩
              case measure => simp [intOf]; omega
            | some q =>
              rw [hq] at hlk
              simp only [Option.map_some, Option.getD_some, Option.isSome_some] at hlk
              have hne : ¬ ((q : Int) = e.seq) := by intro h; apply hnew; rw [hq]; congr 1; omega
              gi_wp2_with (gi_at_builtin; refine wpListIn_append_own _ rfl _ _ 22 rfl w.heap.size 41 i0 (.agg #[.int .u32 0, .int .u8 0]) 2 8 Try.underlying22 hi hz0 hz1 hz2 rfl (by decide) _ _ _ rfl ((hrow.alloc _).alloc _) ⟨wr.heap.size + 1, 0, none⟩ 1 1 (enCells e) rfl rfl hcn (by simp [enCells, Value.oneCell']) (by simp only [maxLen]; omega) (by omega) (by simp; omega) ?_; intro v' w1 hown' hgrow _; obtain ⟨g', cap', rfl⟩ := ownsRow_succ hown'; obtain ⟨f1, f2, w3, hrun3, hM5, hg3, hB3, hrow3⟩ := hafter _ _ _ hown' hgrow; have hrow3 := hrow3 rfl)
              go_roundw
              case rel => exact ⟨k2 + 1, by simp, by omega, hB3, ⟨_, hM5, hlast _ hML2⟩, hrow3⟩
              case measure => simp [intOf]; omega
          · rw [if_neg hnew, List.append_nil] at han
            have hq : lastSeq (was ++ l.take k2) e.ssrc = some e.seq := Decidable.not_not.1 hnew
            rw [hq] at hlk
            simp only [Option.map_some, Option.getD_some, Option.isSome_some] at hlk
            obtain ⟨w3, hrun3, hM5, hg3⟩ := hM3.put_run (P := Try.prog) Try.underlying89 Try.underlying39 (e.ssrc : Int) (.int .u8 e.seq)
            gi_wp2
            go_roundw
            case rel =>
              refine ⟨k2 + 1, by simp, by omega, (hB2.alloc hBs _).grown hg3 (by simp; omega) (fun j ej => by cases ej; exact Nat.le_refl _), ⟨_, hM5, hlast _ hML2⟩, ?_⟩
              rw [han]
              exact (hrow.alloc _).kept hg3 (.inr (fun e => hM3.not_row (hrow.alloc _) e.symm))
            case measure => simp [intOf]; omega
        · gi_wp2
          go_ret
          have : k2 = l.length := by omega
          subst this
          rw [List.take_length] at hrow
          exact ⟨_, rfl, hrow, hB2⟩
theorem en_row (w : World) (N : Nat → Prop) : ∀ l : List En, RdRow w N EnSh (l.flatMap enCells) (l.map EnC)
  | [] => rfl
  | p :: l => ⟨[.int .u32 p.ssrc, .int .u8 p.seq], _, rfl, ⟨rfl, [.int .u32 p.ssrc], [.int .u8 p.seq], rfl, rfl, rfl, [.int .u8 p.seq], [], rfl, rfl, rfl⟩, en_row w N l⟩
theorem pc_fresh_Anew (was l : List En) (hl : was.length ≤ 1000000) (hl2 : l.length ≤ 1000000) : PC Try.prog 21 [(.sl EnSh, Ens was), (.sl EnSh, Ens l)] [(.sl EnSh, Ens (anew was l))] := by
  refine PC.of0 (by decide) ⟨⟨_, Try.func21, rfl, by kernel_rfl⟩, fun w N vs hvs => ?_⟩
  obtain ⟨v1, r, rfl, hv1, v2, r2, rfl, hv2, rfl⟩ := hvs
  refine (fr_anew w v1 v2 was l (EnsAt.of hv1) (EnsAt.of hv2) hl hl2).mono ?_
  rintro e W' ⟨v, rfl, hown, hbel⟩
  refine ⟨_, rfl, ⟨[v], ⟨_, _, rfl, ⟨[v], ?_, rfl⟩, rfl⟩, rfl⟩, hbel⟩
  have hown' : W'.ownsR (fun g => w.heap.size ≤ g) 41 EnSh.size v (Ens (anew was l)).toList.length ((anew was l).flatMap enCells) := by
    rw [v_ls, List.length_map]
    exact hown
  refine rd_own (c := Ens (anew was l)) hown' (en_row _ _ _) (fun g hg => .inr ?_)
  rcases hown'.2 with ⟨rfl, _⟩ | ⟨g', cap, cur, rfl, hb, _⟩
  · cases hg
  · cases hg
    exact hb
end Go.Vc
