/-
  A plan in memory, read as data; the calls of Words and of Print, at a world.
-/
import Derived.Test.YtodhgafhllbojaaDoorQYu
import Derived.Test.YtodhgafhllbojaaDoorQYz
import Derived.Laws.ResultCell
set_option maxRecDepth 100000
namespace Go.Vc
open Go Go.Proofs Go.RowKit Go.Plain
theorem rdrow_maps {W : World} {N : Nat → Prop} : ∀ l : List Mp, RdRow W N MpSh (mpCells l) (l.map MpC)
  | [] => rfl
  | m :: l => ⟨[.int .i64 m.fr, .int .i64 m.to], mpCells l, rfl, ⟨rfl, [.int .i64 m.fr], [.int .i64 m.to], rfl, rfl, rfl, [.int .i64 m.to], [], rfl, rfl, rfl⟩, rdrow_maps l⟩
theorem rdrow_ints {W : World} {N : Nat → Prop} : ∀ l : List Int, RdRow W N I64 (l.map (Value.int .i64 ·)) (l.map .int)
  | [] => rfl
  | m :: l => ⟨[.int .i64 m], l.map (Value.int .i64 ·), rfl, rfl, rdrow_ints l⟩
theorem own_R {W : World} {lo : Nat} {e : TypeId} {size : Nat} {v : Value} {n : Nat} {xs : List Value} (h : W.ownsRow lo e size v n xs) : W.ownsR (fun g => lo ≤ g) e size v n xs := h
theorem own_blk {W : World} {lo : Nat} {e : TypeId} {size : Nat} {v : Value} {n : Nat} {xs : List Value} (h : W.ownsRow lo e size v n xs) : ∀ g, blkNo v = some g → lo ≤ g := by
  intro g hg
  rcases h.2 with ⟨h0, _⟩ | ⟨g', cap, cur, h1, h2, _⟩
  · rw [h0] at hg; cases hg
  · rw [h1] at hg
    simp only [blkNo, Option.some.injEq] at hg
    omega
theorem own_slc {W : World} {lo : Nat} {e : TypeId} {size : Nat} {v : Value} {n : Nat} {xs : List Value} (h : W.ownsRow lo e size v n xs) : ∃ a l c, v = .slice a l c := by
  rcases h.2 with ⟨h0, _⟩ | ⟨g', cap, cur, h1, h2, _⟩
  · exact ⟨_, _, _, h0⟩
  · exact ⟨_, _, _, h1⟩
theorem rd_plan {W : World} {lo pb rb : Nat} {p : Pl} (h : PlanAt W lo pb rb p) : ∃ vm vo vd va, W.heap[pb]? = some (.cells (plCells p vm vo vd va) 47 (0, 0)) ∧ Rd W (fun b => lo ≤ b) PlSh (plCells p vm vo vd va).toList (PlC p) ∧ (∃ a l c, vm = .slice a l c) ∧ (∃ a l c, vo = .slice a l c) ∧ (∃ a l c, vd = .slice a l c) ∧ (∃ a l c, va = .slice a l c) := by
  obtain ⟨vm, vo, vd, va, xo, xa, h1, h2, h3, h4, o1, o2, o3, o4, r1, r2, d, n1, n2, n3, n4⟩ := h
  refine ⟨vm, vo, vd, va, h1, ?_, own_slc o1, own_slc o2, own_slc o3, own_slc o4⟩
  have a1 : Rd W (fun b => lo ≤ b) (.sl MpSh) [vm] (Mps p.maps) := rd_own (xs := mpCells p.maps) (et := 78) (B := fun g => lo ≤ g) (by rw [show (Mps p.maps).toList.length = p.maps.length by simp [Mps]]; exact own_R o1) (rdrow_maps p.maps) (own_blk o1)
  have a2 : Rd W (fun b => lo ≤ b) (.sl ElSh) [vo] (Els p.over) := rd_own (xs := xo) (et := 76) (B := fun g => lo ≤ g) (by rw [show (Els p.over).toList.length = p.over.length by simp [Els]]; exact own_R o2) (r1.mono (Nat.le_refl _) fun b hb _ => ⟨rfl, hb.1⟩) (own_blk o2)
  have a3 : Rd W (fun b => lo ≤ b) (.sl I64) [vd] (Ints p.drops) := rd_own (xs := p.drops.map (Value.int .i64 ·)) (et := 3) (B := fun g => lo ≤ g) (by rw [show (Ints p.drops).toList.length = p.drops.length by simp [Ints]]; exact own_R o3) (rdrow_ints p.drops) (own_blk o3)
  have a4 : Rd W (fun b => lo ≤ b) (.sl ElSh) [va] (Els p.adds) := rd_own (xs := xa) (et := 76) (B := fun g => lo ≤ g) (by rw [show (Els p.adds).toList.length = p.adds.length by simp [Els]]; exact own_R o4) (r2.mono (Nat.le_refl _) fun b hb _ => ⟨rfl, hb.1⟩) (own_blk o4)
  exact ⟨rfl, [_], _, rfl, rfl, rfl, [_], _, rfl, rfl, rfl, [_], _, rfl, rfl, rfl, [_], _, rfl, rfl, rfl, [_], _, rfl, rfl, rfl, [_], _, rfl, rfl, rfl, [_], _, rfl, rfl, rfl, [_], _, rfl, rfl, rfl, [_], _, rfl, rfl, rfl, [_], _, rfl, rfl,
    rfl, [vm], _, rfl, a1, rfl, [vo], _, rfl, a2, rfl, [vd], _, rfl, a3, rfl, [va], _, rfl, a4, rfl, [_], [], rfl, rfl, rfl⟩
abbrev zeroCells : Array Value := plCells Pl.zero (.slice none 0 0) (.slice none 0 0) (.slice none 0 0) (.slice none 0 0)
theorem rd_zero (W : World) (N : Nat → Prop) : Rd W N PlSh zeroCells.toList (PlC Pl.zero) := by
  have a : ∀ s, Rd W N (.sl s) [.slice none 0 0] (.ls []) := fun s => ⟨none, 0, rfl, Nat.le_refl _, Nat.zero_le _, fun h => absurd rfl h⟩
  exact ⟨rfl, [_], _, rfl, rfl, rfl, [_], _, rfl, rfl, rfl, [_], _, rfl, rfl, rfl, [_], _, rfl, rfl, rfl, [_], _, rfl, rfl, rfl, [_], _, rfl, rfl, rfl, [_], _, rfl, rfl, rfl, [_], _, rfl, rfl, rfl, [_], _, rfl, rfl, rfl, [_], _, rfl, rfl,
    rfl, [_], _, rfl, a _, rfl, [_], _, rfl, a _, rfl, [_], _, rfl, a _, rfl, [_], _, rfl, a _, rfl, [_], [], rfl, rfl, rfl⟩
theorem zero_plan (W : World) (lo pb rb : Nat) (h1 : lo ≤ pb) (h2 : lo ≤ rb) (h3 : pb ≠ rb) (h : W.heap[pb]? = some (.cells zeroCells 47 (0, 0))) : PlanAt W lo pb rb Pl.zero :=
  ⟨.slice none 0 0, .slice none 0 0, .slice none 0 0, .slice none 0 0, [], [], h, h1, h2, h3, World.ownsRow_nil _ _ _ _, World.ownsRow_nil _ _ _ _, World.ownsRow_nil _ _ _ _, World.ownsRow_nil _ _ _ _, rfl, rfl, (fun g h => by cases h), by simp [Value.ownBlock], by simp [Value.ownBlock], by simp [Value.ownBlock], by simp [Value.ownBlock]⟩
/-- The call of Print. -/
theorem print_call {W : World} (hkw : KW Tryd.prog W) {lo pb rb : Nat} {p : Pl} (hf : plFew p) (hn : plNum p) {cs : Array Value} (h : Rd W (fun b => lo ≤ b) PlSh cs.toList (PlC p)) :
    Calls Tryd.prog 26 #[.agg cs] W fun e W' => e = .returned (.tuple #[.string ⟨(if plRight p then printL p else []).toArray⟩, .int .i64 (if plRight p then 0 else 1)]) ∧ Below W.heap.size W W' := by
  have hc := ((pc_say_Print p hf hn).to0 (by decide)).2 W (fun b => lo ≤ b) [.agg cs] hkw ⟨_, _, rfl, ⟨cs.toList, h, by simp [Sh.mk, Sh.isAgg]⟩, rfl⟩
  refine hc.mono fun e w' ⟨v, he, ⟨vs, ⟨v1, r1, hv1, ⟨us, hu, hv2⟩, v3, r3, hv3, ⟨us2, hu2, hv4⟩, hr⟩, hv⟩, hb⟩ => ⟨?_, hb⟩
  simp only [RdVs] at hr
  subst hr
  simp only [Rd] at hu hu2
  subst hu hu2
  subst hv1 hv3
  simp [Sh.mk, Sh.isAgg] at hv2 hv4
  subst hv2 hv4
  simp at hv
  rw [he, hv]
/-- The call of Words. -/
theorem words_call (s : List UInt8) (hs : s.length ≤ 1000000) (w : World) (hkw : KW Tryd.prog w) :
    Calls Tryd.prog 21 #[.string ⟨s.toArray⟩] w fun e w' => ∃ sv, e = .returned (.tuple #[sv, .int .i64 (wdE (wordsL s))]) ∧ (∀ lo rb, w'.heap.size ≤ lo → lo ≤ rb → WordsAt w' lo rb sv ((wordsL s).getD [])) ∧ Below w.heap.size w w' := by
  have h := ((pc_text_Words s hs).to0 (by decide)).2 w (fun _ => True) [.string ⟨s.toArray⟩] hkw ⟨_, _, rfl, ⟨[.string ⟨s.toArray⟩], rfl, rfl⟩, rfl⟩
  refine h.mono fun e w' ⟨v, he, ⟨vs, ⟨v1, r1, hv1, ⟨us, hu, hv2⟩, v3, r3, hv3, ⟨us2, hu2, hv4⟩, hr⟩, hv⟩, hb⟩ => ?_
  simp only [RdVs] at hr
  subst hr
  simp only [Rd] at hu2
  obtain ⟨a, cap, e1, e2, e3, e4⟩ := hu
  subst e1 hu2
  subst hv1 hv3
  simp [Sh.mk, Sh.isAgg] at hv2 hv4
  subst hv2 hv4
  simp at hv
  have el : (C.ls (wdB (wordsL s))).toList.length = ((wordsL s).getD []).length := by simp [wdB]
  have el2 : (wdB (wordsL s)).length = ((wordsL s).getD []).length := by simp [wdB]
  rw [el] at e2
  rw [el2] at hv
  refine ⟨_, by rw [he, hv], fun lo rb h1 h2 => ⟨a, cap, rfl, e2, e3, fun hne => ?_⟩, hb⟩
  obtain ⟨b, off, ea, _, hlt, hat⟩ := e4 (by simpa [wdB] using hne)
  refine ⟨b, off, ea, by omega, by omega, fun j x hx => ?_⟩
  obtain ⟨us, hl, hcs, hr⟩ := hat j (.str x) (by simp [wdB, hx])
  change us = [.string ⟨x.toArray⟩] at hr
  subst hr
  have h3 := hcs 0 (.string ⟨x.toArray⟩) rfl
  have e3 : off + j * Sh.size .str + 0 = off + j := by simp [Sh.size]
  rw [e3] at h3
  exact h3
theorem results_row_tmp {P : Program} {fn : Func} {p u : Tmp} {ty : TypeId} (h : fn.results = #[.cell p ty, .tmp u]) (tmps : Array Value) (w : World) (g : Nat) (t : TypeId) (cs : Array Value) (fr : Nat × Nat) (d : TypeDesc)
    (hp : tmps.getD p undef = .pointer (some ⟨g, 0, none⟩)) (hg : w.heap[g]? = some (.cells cs t fr))
    (hu : P.underlying ty = some d) (hd : (match d with | .struct _ | .array _ _ => true | _ => false) = true) (hi : (P.info? ty).map (·.size) = some cs.size) (v : Value) (hv : tmps.getD u undef = v) :
    (results fn tmps).run P w = .ok (.tuple #[.agg cs, v]) w := by
  have hp' : tmps[p]?.getD undef = .pointer (some ⟨g, 0, none⟩) := by simpa using hp
  have hv' : tmps[u]?.getD undef = v := by simpa using hv
  simp [results, h, hp', hv', asAddr, run_loadVar_row w g t ty cs fr d hg hu hd hi]
end Go.Vc
