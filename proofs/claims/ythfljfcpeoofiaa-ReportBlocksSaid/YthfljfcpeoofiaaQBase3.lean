/-
  My own general texts, one behind the other: a generator of conditions over the model, with its proof, and plain lemmas. No condition on the program.
-/
import Derived.Test.YthfljfcpeoofiaaQBase2
import Derived.ProofKit
import Derived.OpenShut
import Derived.ShutString
import Derived.ChangeOld
import Derived.Below

/-
  Part W: a function's contract out of its condition.
-/
namespace Go.Vc
open Go.RowKit
section
variable {P : Program} {cfg : Cfg} {hints : List Hint} {N0 : Nat → Prop} {w0 : Wb} {ρ : List C} {S : SS} {hv : Nat → Value} {a : Act} {w : World}
def Out0 (N0 : Nat → Prop) (w0 : Wb) (b : Nat) : Prop := N0 b ∨ w0.own b
theorem load_as {t : TypeId} {v u : Value} (h : (Instr.loadAt t v).run P w = .ok u w) : (do loadVar t (← asAddr v) : Sem Value).run P w = .ok u w := by
  cases v with
  | pointer p =>
    cases p with
    | some b => simpa [Instr.loadAt, Instr.sureAddr, asAddr] using h
    | none => simp [Instr.loadAt, Instr.sureAddr, stuck] at h
  | _ => simp [Instr.loadAt, Instr.sureAddr, stuck] at h
theorem nf_out (hrel : RelH N0 w0 ρ S hv a w) {f : List Nat} (hf : ∀ r ∈ f, ∃ s e p, rowIn S.blks r = some (s, e, p) ∧ presTrue ρ p) {N : Nat → Prop} (hN : ∀ b, N b → Out0 N0 w0 b) {b : Nat} (h : NF N hv f b) : Out0 N0 w0 b := by
  rcases h with h | ⟨r, hr, hg⟩
  · exact hN b h
  · obtain ⟨s, e, p, h1, h2⟩ := hf r hr
    obtain ⟨fz, h3⟩ := rowIn_row h1
    exact .inr (hrel.lt h3 rfl h2 hg).2
theorem RelH.rowsOut (hrel : RelH N0 w0 ρ S hv a w) : RowsOk w w0.own (Out0 N0 w0) ρ S.blks hv := by
  intro r s e p hr hp
  obtain ⟨et, xs, h1, h2, h3⟩ := hrel.rows r s e p hr hp
  exact ⟨et, xs, h1, h2.mono (Nat.le_refl _) fun b hb _ => ⟨rfl, hb.1⟩, h3⟩
theorem dat_out (hrel : RelH N0 w0 ρ S hv a w) {x : SX} {s : Sh} {e : E} {f : List Nat} {v : Value} (h : datOf S.rb [] x = some (s, e, f)) (hx : RdX w (Out0 N0 w0) ρ S.blks hv x v) :
    RdV w (Out0 N0 w0) s v (e.eval ρ) := by
  have h1 := RdX_dat (datOf_sound hrel.rowsOut (presTrue_nil ρ) h hx)
  exact h1.mono (Nat.le_refl _) fun b hb _ => ⟨rfl, nf_out hrel (datOf_rows (presTrue_nil ρ) h) (fun _ h => h) hb⟩
def resOf (tmps : Array Value) : ResultVar → Sem Value
  | .tmp t => pure (tmps.getD t undef)
  | .cell b t => do loadVar t (← asAddr (tmps.getD b undef))
/-- What a function hands back. -/
theorem retX_sound (hrel : RelH N0 w0 ρ S hv a w) : ∀ {l : List ResultVar} {rs : List (Sh × E)}, retX P S l = some rs →
    ∃ vs, (l.mapM (resOf a.tmps)).run P w = .ok vs w ∧ RdVs w (Out0 N0 w0) (evalArgs ρ rs) vs
  | [], rs, h => by
    simp [retX] at h
    subst h
    exact ⟨[], by simp, rfl⟩
  | .tmp t :: l, rs, h => by
    simp only [retX] at h
    split at h
    · rename_i s e f r h1 h2
      simp at h
      subst h
      obtain ⟨vs, i1, i2⟩ := retX_sound hrel h2
      obtain ⟨x, hx, hd⟩ := Option.bind_eq_some_iff.1 h1
      have h3 := ev_sound hrel (presTrue_nil ρ) hx
      have h4 := dat_out hrel hd (h3.le (Nat.le_refl _) (fun b hb _ => ⟨rfl, hb.1⟩) (BsLe.refl _ _ _))
      refine ⟨a.tmps.getD t undef :: vs, by simp only [List.mapM_cons, resOf]; simp [i1], _, _, rfl, ?_, i2⟩
      simpa [Act.eval] using h4
    · simp at h
  | .cell t ty :: l, rs, h => by
    simp only [retX] at h
    split at h
    · rename_i s e f r h1 h2
      simp at h
      subst h
      obtain ⟨vs, i1, i2⟩ := retX_sound hrel h2
      obtain ⟨o, ho, hd⟩ := Option.bind_eq_some_iff.1 h1
      obtain ⟨f1, e1, e2, _, _, u, e3, e4⟩ := loadX_sound hrel.rows hrel.boxes (presTrue_nil ρ) ho (v := a.eval (.tmp t)) fun y hy => ev_sound hrel (presTrue_nil ρ) hy
      have h4 := dat_out hrel hd (e4.le (Nat.le_refl _) (fun b hb _ => ⟨rfl, nf_out hrel e2 (fun _ h => h.1) hb⟩) (BsLe.refl _ _ _))
      have h5 := load_as e3
      refine ⟨u :: vs, ?_, _, _, rfl, h4, i2⟩
      have h6 : a.eval (.tmp t) = a.tmps.getD t undef := by simp [Act.eval]
      rw [h6] at h5
      have h7 : (resOf a.tmps (.cell t ty)).run P w = .ok u w := h5
      rw [List.mapM_cons]
      simp [h7, i1]
    · simp at h
theorem results_run {fn : Func} {tmps : Array Value} {vs : List Value} (h : (fn.results.toList.mapM (resOf tmps)).run P w = .ok vs w) :
    (results fn tmps).run P w = .ok (if h : vs.length = 1 then vs[0] else .tuple vs.toArray) w := by
  have e : results fn tmps = (do let vs ← fn.results.mapM (resOf tmps); pure (if h : vs.size = 1 then vs[0] else .tuple vs) : Sem Value) := by
    unfold results
    congr 1
  rw [e, Array.mapM_eq_mapM_toList]
  simp [h]
theorem start_vars : ∀ (l : List Sh) (k i : Nat) (s : Sh) (e : E), (retVars k l)[i]? = some (s, e) → l[i]? = some s ∧ e = .var (k + i)
  | [], _, _, _, _, h => by simp [retVars] at h
  | x :: l, k, 0, s, e, h => by simp [retVars] at h; obtain ⟨rfl, rfl⟩ := h; simp
  | x :: l, k, i + 1, s, e, h => by
    simp only [retVars, List.getElem?_cons_succ] at h
    obtain ⟨h1, h2⟩ := start_vars l (k + 1) i s e h
    exact ⟨by simpa using h1, by rw [h2]; congr 1; omega⟩
theorem retVars_length : ∀ (l : List Sh) (k : Nat), (retVars k l).length = l.length
  | [], _ => rfl
  | _ :: l, k => by simp [retVars, retVars_length l]
theorem RdVs_get {N : Nat → Prop} : ∀ {l : List (Sh × C)} {vs : List Value} {i : Nat} {s : Sh} {c : C}, RdVs w N l vs → l[i]? = some (s, c) → ∃ v, vs[i]? = some v ∧ RdV w N s v c
  | [], _, _, _, _, _, h => by simp at h
  | (s, c) :: l, _, 0, _, _, ⟨v, r, h1, h2, h3⟩, h => by simp at h; obtain ⟨rfl, rfl⟩ := h; exact ⟨v, by simp [h1], h2⟩
  | (s, c) :: l, _, i + 1, _, _, ⟨v, r, h1, h2, h3⟩, h => by
    obtain ⟨u, h4, h5⟩ := RdVs_get h3 (by simpa using h)
    exact ⟨u, by simp [h1, h4], h5⟩
/-- At a call's start. -/
theorem start_sound {args : List (Sh × C)} {vs : List Value} (h : RdVs w N0 args vs) (n : Nat) :
    RelH N0 ⟨w, fun _ => False⟩ (args.map (·.2)) (startSS (args.map (·.1)) n) (fun _ => undef) { tmps := vs.toArray ++ Array.replicate (n - vs.toArray.size) undef, defers := [] } w := by
  have hlen := RdVs_length h
  have hnone : ∀ (r : Nat) (k : Blk), (startSS (args.map (·.1)) n).blks[r]? = some k → k.lb = .none := by
    intro r k hk
    simp only [startSS, List.getElem?_replicate] at hk
    split at hk
    · injection hk with hk; subst hk; rfl
    · cases hk
  have hlive : ∀ (r : Nat) (k : Blk), (startSS (args.map (·.1)) n).blks[r]? = some k → liveB k = true → False := by
    intro r k hk hl
    unfold liveB at hl
    rw [hnone r k hk] at hl
    cases hl
  have htm : ∀ (t : Nat) (ts : TS), (startSS (args.map (·.1)) n).tmps[t]? = some ts → ts.pres = [] ∧ (ts.sx = .none ∨ ∃ s c, args[t]? = some (s, c) ∧ ts.sx = .dat s (.var t)) := by
    intro t ts ht
    simp only [startSS] at ht
    rw [List.getElem?_append] at ht
    split at ht
    · rw [List.getElem?_map] at ht
      cases hr : (retVars 0 (args.map (·.1)))[t]? with
      | none => simp [hr] at ht
      | some x =>
        obtain ⟨s, e⟩ := x
        simp [hr] at ht
        subst ht
        obtain ⟨h1, h2⟩ := start_vars _ 0 t s e hr
        rw [List.getElem?_map] at h1
        cases ha : args[t]? with
        | none => simp [ha] at h1
        | some y =>
          obtain ⟨s', c⟩ := y
          simp [ha] at h1
          subst h1
          rw [Nat.zero_add] at h2
          subst h2
          exact ⟨rfl, .inr ⟨s', c, rfl, rfl⟩⟩
    · rw [List.getElem?_replicate] at ht
      split at ht
      · injection ht with ht; subst ht; exact ⟨rfl, .inl rfl⟩
      · cases ht
  refine ⟨rfl, ?_, ⟨rfl, rfl, rfl, Nat.le_refl _, fun _ _ _ => rfl⟩, fun t ts ht hp => ?_, fun t ts ht hp => ?_, fun r k hr hp => ?_, fun r r' k k' g hr hr' hne hl => ?_⟩
  · simp [startSS, retVars_length, hlen]
  · rcases (htm t ts ht).2 with h1 | ⟨s, c, h1, h2⟩
    · rw [h1]; trivial
    · rw [h2]
      obtain ⟨v, h3, h4⟩ := RdVs_get h h1
      have hlt : t < vs.length := (List.getElem?_eq_some_iff.1 h3).1
      have hv : (vs.toArray ++ Array.replicate (n - vs.toArray.size) undef).getD t undef = v := by
        have : (vs.toArray ++ Array.replicate (n - vs.toArray.size) undef)[t]? = some v := by
          rw [Array.getElem?_append_left (by simpa using hlt)]
          simpa using h3
        rw [Array.getD_eq_getD_getElem?, this]
        rfl
      simp only [hv]
      refine RdX_of ?_ (Exact_leaf (by simp) (by simp))
      have he : (E.var t).eval (args.map (·.2)) = c := by simp [E.eval, List.getD, h1]
      rw [he]
      exact h4.mono (Nat.le_refl _) fun b hb _ => ⟨rfl, .inl hb, fun r k hr hl => (hlive r k hr hl).elim⟩
  · exact absurd (by rw [(htm t ts ht).1]; exact presTrue_nil _) hp
  · rw [hnone r k hr]; trivial
  · exact (hlive r k hr hl).elim
/-- THE CONTRACT OUT OF THE CONDITION. -/
theorem PC.of_vc {f : FuncId} {fn : Func} (hlt : f < 1000000) (hf : P.funcs[f]? = some fn) (hname : (fn.name == "runtime.NumGoroutine") = false) {shs : List Sh} {vc : VC} (hvc : fnVC P cfg hints fn shs = vc)
    {args rets : List (Sh × C)} (hs : args.map (·.1) = shs) (h : vc.holds P (fun r => r = rets) [] (args.map (·.2))) : PC P f args rets := by
  apply PC.of0 hlt
  subst hvc hs
  unfold fnVC at h
  cases hb : fn.body with
  | none => simp only [hb] at h; exact h.elim
  | some c =>
    simp only [hb] at h
    refine ⟨⟨fn, hf, by simp [hb], hname⟩, fun w N vs hrd => calls_of_wp hf hb ?_⟩
    have hst := start_sound hrd fn.ntmps
    refine sx_sound c hst (by simp [startSS]) rfl h fun e S' l' ρ' Bs' hv' a' w' g1 g2 g3 g4 g5 g6 => ?_
    have key : (∃ rs, retX P S' fn.results.toList = some rs ∧ evalArgs ρ' rs = rets) →
        a'.defers = [] ∧ ∃ v, (results fn a'.tmps).run P w' = .ok v w' ∧ ∃ v', Ending.returned v = .returned v' ∧ RdRes w' (fun b => N b ∨ w.heap.size ≤ b) rets v' ∧ Below w.heap.size w w' := by
      rintro ⟨rs, h1, h2⟩
      obtain ⟨us, i1, i2⟩ := retX_sound g5 h1
      rw [h2] at i2
      refine ⟨g5.defers, _, results_run i1, _, rfl, ⟨us, i2.mono (Nat.le_refl _) fun b hb _ => ⟨rfl, ?_⟩, rfl⟩, g5.below.os, g5.below.tape, g5.below.output, g5.below.size, fun k hk => g5.below.block k hk (fun h => h)⟩
      rcases hb with hb | hb | hb
      · exact .inl hb
      · exact .inr hb
      · exact hb.elim
    cases e with
    | exit id => exact g6.elim
    | normal =>
      refine key ?_
      simp only at g6
      split at g6
      · rename_i rs h1; exact ⟨rs, h1, g6⟩
      · exact g6.elim
    | ret =>
      refine key ?_
      simp only at g6
      split at g6
      · rename_i rs h1; exact ⟨rs, h1, g6⟩
      · exact g6.elim
/-! A row of the caller's own comes in, or a new one goes out. -/
theorem retF_sound (hrel : RelH N0 w0 ρ S hv a w) : ∀ {l : List ResultVar} {rs : List (Sh × E)} {fz : List Nat}, retF P S l = some (rs, fz) →
    (∀ q ∈ fz, ∃ s e p, rowIn S.blks q = some (s, e, p) ∧ presTrue ρ p) ∧
    ∃ vs, (l.mapM (resOf a.tmps)).run P w = .ok vs w ∧ RdVs w (NF (NN N0 w0.own ρ S.blks hv) hv fz) (evalArgs ρ rs) vs
  | [], rs, fz, h => by
    simp [retF] at h
    obtain ⟨rfl, rfl⟩ := h
    exact ⟨fun q hq => by simp at hq, [], by simp, rfl⟩
  | .tmp t :: l, rs, fz, h => by
    simp only [retF] at h
    split at h
    · rename_i s e f r g h1 h2
      simp at h
      obtain ⟨rfl, rfl⟩ := h
      obtain ⟨i0, vs, i1, i2⟩ := retF_sound hrel h2
      obtain ⟨x, hx, hd⟩ := Option.bind_eq_some_iff.1 h1
      have h3 := ev_sound hrel (presTrue_nil ρ) hx
      have h4 := RdX_dat (datOf_sound hrel.rows (presTrue_nil ρ) hd h3)
      have h5 := datOf_rows (presTrue_nil ρ) hd
      refine ⟨fun q hq => ?_, a.tmps.getD t undef :: vs, by simp only [List.mapM_cons, resOf]; simp [i1], _, _, rfl, ?_, ?_⟩
      · rcases List.mem_append.1 hq with hq | hq
        · exact h5 q hq
        · exact i0 q hq
      · have e6 : a.eval (.tmp t) = a.tmps.getD t undef := by simp [Act.eval]
        rw [e6] at h4
        refine h4.mono (Nat.le_refl _) fun b hb _ => ⟨rfl, ?_⟩
        rcases hb with hb | ⟨q, hq, hg⟩
        · exact .inl hb
        · exact .inr ⟨q, List.mem_append.2 (.inl hq), hg⟩
      · refine i2.mono (Nat.le_refl _) fun b hb _ => ⟨rfl, ?_⟩
        rcases hb with hb | ⟨q, hq, hg⟩
        · exact .inl hb
        · exact .inr ⟨q, List.mem_append.2 (.inr hq), hg⟩
    · simp at h
  | .cell _ _ :: _, rs, fz, h => by simp [retF] at h
/-- What is handed back with a row of the call's own ahead. -/
theorem retO_sound {N : Nat → Prop} {G : Nat → Prop} {wi : World} (hrel : RelH N ⟨wi, G⟩ ρ S hv a w) {v0 : Value} (hG : ∀ g, G g ↔ blkNo v0 = some g) {l : List ResultVar} {rs : List (Sh × E)} (h : retO P S l = some rs) :
    ∃ s e rs' v1 vr et xs, rs = (.sl s, e) :: rs' ∧ (l.mapM (resOf a.tmps)).run P w = .ok (v1 :: vr) w ∧ w.ownsR (fun g => wi.heap.size ≤ g ∨ blkNo v0 = some g) et s.size v1 (e.eval ρ).toList.length xs ∧
      RdRow w (Behind N wi v0 v1) s xs (e.eval ρ).toList ∧ RdVs w (Behind N wi v0 v1) (evalArgs ρ rs') vr := by
  have own_of : ∀ {b}, (Wb.own ⟨wi, G⟩ b) → wi.heap.size ≤ b ∨ blkNo v0 = some b := fun hb => hb.imp id (hG _).1
  unfold retO at h
  split at h
  · rename_i t l
    have e6 : a.eval (.tmp t) = a.tmps.getD t undef := by simp [Act.eval]
    split at h
    · rename_i r n hx
      split at h
      · rename_i s e rs1 fz hor hrf
        split at h
        · rename_i hnr
          have hnr : r ∉ fz := by simpa using hnr
          simp at h
          subst h
          obtain ⟨hfz, vs, i1, i2⟩ := retF_sound hrel hrf
          have hr := ownRow_blk hor
          have hin0 : rowIn S.blks r = some (s, e, []) := by simp [rowIn, hr]
          obtain ⟨hv0, _⟩ := (ev_sound hrel (presTrue_nil ρ) hx).2 s e [] hin0 (presTrue_nil ρ)
          obtain ⟨et, xs, hown, hrd, _⟩ := hrel.rows r s e [] hin0 (presTrue_nil ρ)
          have hNN : ∀ b, NN N (Wb.own ⟨wi, G⟩) ρ S.blks hv b → Behind N wi v0 (hv r) b := by
            intro b hb
            refine ⟨hb.1.imp id own_of, hb.2 r _ hr rfl rfl (presTrue_nil ρ)⟩
          refine ⟨s, e, rs1, hv r, vs, et, xs, rfl, ?_, ownsR_mono hown fun g _ hg => own_of hg, hrd.mono (Nat.le_refl _) fun b hb _ => ⟨rfl, hNN b hb⟩, i2.mono (Nat.le_refl _) fun b hb _ => ⟨rfl, ?_⟩⟩
          · rw [e6] at hv0
            simp only [List.mapM_cons, resOf]
            simp [i1, hv0]
          · rcases hb with hb | ⟨q, hq, hg⟩
            · exact hNN b hb
            · obtain ⟨s2, e2, p2, e3, e4⟩ := hfz q hq
              obtain ⟨f2, e5⟩ := rowIn_blk e3
              exact ⟨.inr (own_of (hrel.lt e5 rfl e4 hg).2), fun hc => hrel.dist r q _ _ b hr e5 (fun e => hnr (e ▸ hq)) rfl rfl (presTrue_nil ρ) e4 hc hg⟩
        · simp at h
      · simp at h
    · rename_i s hx
      split at h
      · rename_i rs1 fz hrf
        simp at h
        subst h
        obtain ⟨hfz, vs, i1, i2⟩ := retF_sound hrel hrf
        obtain ⟨us, e1, e2, e3⟩ := ev_sound hrel (presTrue_nil ρ) hx
        simp only [Exact] at e3
        subst e3
        have hv0 : a.tmps.getD t undef = .slice none 0 0 := by rw [← e6, e2]; simp [Sh.mk, Sh.isAgg]
        refine ⟨s, .nilS, rs1, .slice none 0 0, vs, 0, [], rfl, ?_, ⟨by simp [E.eval], .inl ⟨rfl, by simp [E.eval]⟩⟩, by simp [E.eval, RdRow], i2.mono (Nat.le_refl _) fun b hb _ => ⟨rfl, ?_, by simp [blkNo]⟩⟩
        · simp only [List.mapM_cons, resOf]
          simp [i1, hv0]
        · rcases hb with hb | ⟨q, hq, hg⟩
          · exact hb.1.imp id own_of
          · obtain ⟨s2, e2, p2, e3, e4⟩ := hfz q hq
            obtain ⟨f2, e5⟩ := rowIn_blk e3
            exact .inr (own_of (hrel.lt e5 rfl e4 hg).2)
      · simp at h
    · simp at h
  · simp at h
/-- At the start of a call that is handed a row. -/
theorem startG_sound {s : Sh} {c0 : C} {args : List (Sh × C)} {et : TypeId} {xs : List Value} {v0 : Value} {vs : List Value} (hs0 : 0 < s.size) (hown : w.ownsR (fun _ => True) et s.size v0 c0.toList.length xs)
    (hrow : RdRow w N0 s xs c0.toList) (hne : ∀ g, blkNo v0 = some g → ¬ N0 g) (h : RdVs w N0 args vs) (n : Nat) :
    RelH N0 ⟨w, fun g => blkNo v0 = some g⟩ (c0 :: args.map (·.2)) (startG s (args.map (·.1)) n) (fun _ => v0) { tmps := (v0 :: vs).toArray ++ Array.replicate (n - (v0 :: vs).toArray.size) undef, defers := [] } w := by
  have hlen := RdVs_length h
  have hblk : ∀ (r : Nat) (k : Blk), (startG s (args.map (·.1)) n).blks[r]? = some k → k.lb = .none ∨ (r = n + 16 ∧ k = ⟨.row s (.var 0), false, []⟩) := by
    intro r k hk
    simp only [startG] at hk
    rw [List.getElem?_append] at hk
    split at hk
    · rw [List.getElem?_replicate] at hk
      split at hk
      · injection hk with hk; subst hk; exact .inl rfl
      · cases hk
    · rename_i hge
      have hlt := (List.getElem?_eq_some_iff.1 hk).1
      simp only [List.length_replicate, List.length_singleton] at hlt hge
      have hr : r = n + 16 := by omega
      subst hr
      simp at hk
      exact .inr ⟨rfl, hk.symm⟩
  have hq : (startG s (args.map (·.1)) n).blks[n + 16]? = some ⟨.row s (.var 0), false, []⟩ := by
    simp [startG]
  have hNN : ∀ b, N0 b → NN N0 (Wb.own ⟨w, fun g => blkNo v0 = some g⟩) (c0 :: args.map (·.2)) (startG s (args.map (·.1)) n).blks (fun _ => v0) b :=
    fun b hb => ⟨.inl hb, fun r k _ _ _ _ hc => hne b hc hb⟩
  have htm : ∀ (t : Nat) (ts : TS), (startG s (args.map (·.1)) n).tmps[t]? = some ts → ts.pres = [] ∧ (ts.sx = .none ∨ (t = 0 ∧ ts.sx = .full (n + 16) (.len (.var 0))) ∨ ∃ j s c, t = j + 1 ∧ args[j]? = some (s, c) ∧ ts.sx = .dat s (.var t)) := by
    intro t ts ht
    simp only [startG] at ht
    rw [List.getElem?_append] at ht
    split at ht
    · cases t with
      | zero =>
        simp at ht
        subst ht
        exact ⟨rfl, .inr (.inl ⟨rfl, rfl⟩)⟩
      | succ j =>
        rw [List.getElem?_cons_succ, List.getElem?_map] at ht
        cases hr : (retVars 1 (args.map (·.1)))[j]? with
        | none => simp [hr] at ht
        | some x =>
          obtain ⟨s', e⟩ := x
          simp [hr] at ht
          subst ht
          obtain ⟨h1, h2⟩ := start_vars _ 1 j s' e hr
          rw [List.getElem?_map] at h1
          cases ha : args[j]? with
          | none => simp [ha] at h1
          | some y =>
            obtain ⟨s2, c⟩ := y
            simp [ha] at h1
            subst h1
            rw [Nat.add_comm] at h2
            subst h2
            exact ⟨rfl, .inr (.inr ⟨j, s2, c, rfl, ha, rfl⟩)⟩
    · rw [List.getElem?_replicate] at ht
      split at ht
      · injection ht with ht; subst ht; exact ⟨rfl, .inl rfl⟩
      · cases ht
  refine ⟨rfl, ?_, ⟨rfl, rfl, rfl, Nat.le_refl _, fun _ _ _ => rfl⟩, fun t ts ht hp => ?_, fun t ts ht hp => ?_, fun r k hr hp => ?_, fun r r' k k' g hr hr' hne' hl hl' _ _ _ => ?_⟩
  · simp [startG, retVars_length, hlen]; omega
  · rcases (htm t ts ht).2 with h1 | ⟨rfl, h1⟩ | ⟨j, s', c, rfl, h1, h2⟩
    · rw [h1]; trivial
    · rw [h1]
      refine ⟨⟨_, hq, by simp⟩, fun s' e p hr _ => ?_⟩
      simp [rowIn, hq] at hr
      obtain ⟨rfl, rfl, rfl⟩ := hr
      refine ⟨?_, rfl⟩
      have : ((v0 :: vs).toArray ++ Array.replicate (n - (v0 :: vs).toArray.size) undef)[0]? = some v0 := by
        rw [Array.getElem?_append_left (by simp)]
        simp
      rw [Array.getD_eq_getD_getElem?, this]
      rfl
    · rw [h2]
      obtain ⟨v, h3, h4⟩ := RdVs_get h h1
      have hlt : j < vs.length := (List.getElem?_eq_some_iff.1 h3).1
      have hv : ((v0 :: vs).toArray ++ Array.replicate (n - (v0 :: vs).toArray.size) undef).getD (j + 1) undef = v := by
        have : ((v0 :: vs).toArray ++ Array.replicate (n - (v0 :: vs).toArray.size) undef)[j + 1]? = some v := by
          rw [Array.getElem?_append_left (by simpa using hlt)]
          simpa using h3
        rw [Array.getD_eq_getD_getElem?, this]
        rfl
      simp only [hv]
      refine RdX_of ?_ (Exact_leaf (by simp) (by simp))
      have he : (E.var (j + 1)).eval (c0 :: args.map (·.2)) = c := by simp [E.eval, List.getD, h1]
      rw [he]
      exact h4.mono (Nat.le_refl _) fun b hb _ => ⟨rfl, hNN b hb⟩
  · exact absurd (by rw [(htm t ts ht).1]; exact presTrue_nil _) hp
  · rcases hblk r k hr with h1 | ⟨rfl, rfl⟩
    · rw [h1]; trivial
    · exact ⟨et, xs, ownsR_mono hown fun g hg _ => .inr hg, hrow.mono (Nat.le_refl _) fun b hb _ => ⟨rfl, hNN b hb⟩, hs0⟩
  · rcases hblk r k hr with h1 | ⟨rfl, rfl⟩
    · simp [liveB, h1] at hl
    · rcases hblk r' k' hr' with h1 | ⟨rfl, rfl⟩
      · simp [liveB, h1] at hl'
      · exact absurd rfl hne'
theorem GC.of_vc {f : FuncId} {fn : Func} (hf : P.funcs[f]? = some fn) (hname : (fn.name == "runtime.NumGoroutine") = false) {s : Sh} {shs : List Sh} {vc : VC} (hvc : fnVCG P cfg hints fn s shs = vc)
    {c0 c1 : C} {args rets : List (Sh × C)} (hs : args.map (·.1) = shs) (h : vc.holds P (fun r => r = (.sl s, c1) :: rets) [] (c0 :: args.map (·.2))) : GC P f ((.sl s, c0) :: args) ((.sl s, c1) :: rets) := by
  subst hvc hs
  unfold fnVCG at h
  split at h
  · rename_i hs0
    have hs0 : 0 < s.size := by simp at hs0; omega
    cases hb : fn.body with
    | none => simp only [hb] at h; exact h.elim
    | some c =>
      simp only [hb] at h
      refine ⟨s, c0, args, c1, rets, rfl, rfl, ⟨fn, hf, by simp [hb], hname⟩, fun w N et xs v0 vs h1 h2 h3 h4 => calls_of_wp hf hb ?_⟩
      have hst := startG_sound hs0 h1 h2 h3 h4 fn.ntmps
      refine sx_sound c hst (by simp [startG]) rfl h fun e S' l' ρ' Bs' hv' a' w' g1 g2 g3 g4 g5 g6 => ?_
      have key : (∃ rs, retO P S' fn.results.toList = some rs ∧ evalArgs ρ' rs = (.sl s, c1) :: rets) →
          a'.defers = [] ∧ ∃ v, (results fn a'.tmps).run P w' = .ok v w' ∧ ∃ v1 vr et' xs', Ending.returned v = .returned (pack (v1 :: vr)) ∧ w.grownBy w' (blkNo v0) ∧
            w'.ownsR (fun g => w.heap.size ≤ g ∨ blkNo v0 = some g) et' s.size v1 c1.toList.length xs' ∧ RdRow w' (Behind N w v0 v1) s xs' c1.toList ∧ RdVs w' (Behind N w v0 v1) rets vr := by
        rintro ⟨rs, i1, i2⟩
        obtain ⟨s', e', rs', v1, vr, et', xs', rfl, j1, j2, j3, j4⟩ := retO_sound g5 (fun g => Iff.rfl) i1
        simp only [evalArgs, List.map_cons, List.cons.injEq, Prod.mk.injEq, Sh.sl.injEq] at i2
        obtain ⟨⟨rfl, rfl⟩, rfl⟩ := i2
        exact ⟨g5.defers, _, results_run j1, v1, vr, et', xs', rfl, ⟨g5.below.os, g5.below.tape, g5.below.output, g5.below.size, fun k hk hn => g5.below.block k hk fun hc => hn hc.symm⟩, j2, j3, j4⟩
      cases e with
      | exit id => exact g6.elim
      | normal =>
        refine key ?_
        simp only at g6
        split at g6
        · rename_i rs h1; exact ⟨rs, h1, g6⟩
        · exact g6.elim
      | ret =>
        refine key ?_
        simp only at g6
        split at g6
        · rename_i rs h1; exact ⟨rs, h1, g6⟩
        · exact g6.elim
  · exact h.elim
theorem FC.of_vc {f : FuncId} {fn : Func} (hf : P.funcs[f]? = some fn) (hname : (fn.name == "runtime.NumGoroutine") = false) {s : Sh} {shs : List Sh} {vc : VC} (hvc : fnVCF P cfg hints fn shs = vc)
    {c1 : C} {args rets : List (Sh × C)} (hs : args.map (·.1) = shs) (h : vc.holds P (fun r => r = (.sl s, c1) :: rets) [] (args.map (·.2))) : FC P f args ((.sl s, c1) :: rets) := by
  subst hvc hs
  unfold fnVCF at h
  cases hb : fn.body with
  | none => simp only [hb] at h; exact h.elim
  | some c =>
    simp only [hb] at h
    refine ⟨s, c1, rets, rfl, ⟨fn, hf, by simp [hb], hname⟩, fun w N vs hrd => calls_of_wp hf hb ?_⟩
    have hst := start_sound hrd fn.ntmps
    refine sx_sound c hst (by simp [startSS]) rfl h fun e S' l' ρ' Bs' hv' a' w' g1 g2 g3 g4 g5 g6 => ?_
    have key : (∃ rs, retO P S' fn.results.toList = some rs ∧ evalArgs ρ' rs = (.sl s, c1) :: rets) →
        a'.defers = [] ∧ ∃ v, (results fn a'.tmps).run P w' = .ok v w' ∧ ∃ v1 vr et' xs', Ending.returned v = .returned (pack (v1 :: vr)) ∧ Below w.heap.size w w' ∧
          w'.ownsR (fun g => w.heap.size ≤ g) et' s.size v1 c1.toList.length xs' ∧ RdRow w' (Behind N w (.slice none 0 0) v1) s xs' c1.toList ∧ RdVs w' (Behind N w (.slice none 0 0) v1) rets vr := by
      rintro ⟨rs, i1, i2⟩
      obtain ⟨s', e', rs', v1, vr, et', xs', rfl, j1, j2, j3, j4⟩ := retO_sound g5 (v0 := .slice none 0 0) (fun g => ⟨False.elim, fun h => by cases h⟩) i1
      simp only [evalArgs, List.map_cons, List.cons.injEq, Prod.mk.injEq, Sh.sl.injEq] at i2
      obtain ⟨⟨rfl, rfl⟩, rfl⟩ := i2
      exact ⟨g5.defers, _, results_run j1, v1, vr, et', xs', rfl, ⟨g5.below.os, g5.below.tape, g5.below.output, g5.below.size, fun k hk => g5.below.block k hk id⟩, ownsR_mono j2 fun g _ hg => hg.elim id (fun h => by cases h), j3, j4⟩
    cases e with
    | exit id => exact g6.elim
    | normal =>
      refine key ?_
      simp only at g6
      split at g6
      · rename_i rs h1; exact ⟨rs, h1, g6⟩
      · exact g6.elim
    | ret =>
      refine key ?_
      simp only at g6
      split at g6
      · rename_i rs h1; exact ⟨rs, h1, g6⟩
      · exact g6.elim
end
end Go.Vc

/-
  Part X: for use: the condition of a function by its own types.
-/
namespace Go.Vc
def fnShs (P : Program) (fn : Func) : Option (List Sh) := fn.params.toList.mapM (shp P)
/-- grow, fresh: the functions that are called with a row of the caller's own, that hand back a new one. -/
def autoVC (P : Program) (raw : Bool) (grow fresh : List Nat) (hints : List Hint) (fn : Func) : List Sh × VC :=
  match fnShs P fn, fn.body with
  | some shs, some c => (shs, fnVC P ⟨raw, rowLits c, grow, fresh⟩ hints fn shs)
  | _, _ => ([], .fail 9000000)
def autoVCG (P : Program) (raw : Bool) (grow fresh : List Nat) (hints : List Hint) (fn : Func) : List Sh × VC :=
  match fnShs P fn, fn.body with
  | some (.sl s :: shs), some c => (.sl s :: shs, fnVCG P ⟨raw, rowLits c, grow, fresh⟩ hints fn s shs)
  | _, _ => ([], .fail 9000000)
def autoVCF (P : Program) (raw : Bool) (grow fresh : List Nat) (hints : List Hint) (fn : Func) : List Sh × VC :=
  match fnShs P fn, fn.body with
  | some shs, some c => (shs, fnVCF P ⟨raw, rowLits c, grow, fresh⟩ hints fn shs)
  | _, _ => ([], .fail 9000000)
theorem PC.auto {P : Program} {raw : Bool} {grow fresh : List Nat} {hints : List Hint} {f : FuncId} {fn : Func} (hlt : f < 1000000) (hf : P.funcs[f]? = some fn) (hname : (fn.name == "runtime.NumGoroutine") = false) {shs : List Sh} {vc : VC}
    (hvc : autoVC P raw grow fresh hints fn = (shs, vc)) {args rets : List (Sh × C)} (hs : args.map (·.1) = shs) (h : vc.holds P (fun r => r = rets) [] (args.map (·.2))) : PC P f args rets := by
  unfold autoVC at hvc
  split at hvc
  · simp only [Prod.mk.injEq] at hvc
    exact PC.of_vc hlt hf hname hvc.2 (hs.trans hvc.1.symm) h
  · simp only [Prod.mk.injEq] at hvc
    rw [← hvc.2] at h
    exact h.elim
theorem PC.autoG {P : Program} {raw : Bool} {grow fresh : List Nat} {hints : List Hint} {f : FuncId} {fn : Func} (hlt : f < 1000000) (hf : P.funcs[f]? = some fn) (hname : (fn.name == "runtime.NumGoroutine") = false) {s : Sh} {shs : List Sh} {vc : VC}
    (hvc : autoVCG P raw grow fresh hints fn = (.sl s :: shs, vc)) {c0 c1 : C} {args rets : List (Sh × C)} (hs : args.map (·.1) = shs) (h : vc.holds P (fun r => r = (.sl s, c1) :: rets) [] (c0 :: args.map (·.2))) :
    PC P (1000000 + f) ((.sl s, c0) :: args) ((.sl s, c1) :: rets) := by
  unfold autoVCG at hvc
  split at hvc
  · simp only [Prod.mk.injEq, List.cons.injEq, Sh.sl.injEq] at hvc
    obtain ⟨⟨rfl, h1⟩, h2⟩ := hvc
    exact PC.ofG hlt (GC.of_vc hf hname h2 (hs.trans h1.symm) h)
  · simp only [Prod.mk.injEq] at hvc
    rw [← hvc.2] at h
    exact h.elim
theorem PC.autoF {P : Program} {raw : Bool} {grow fresh : List Nat} {hints : List Hint} {f : FuncId} {fn : Func} (hf : P.funcs[f]? = some fn) (hname : (fn.name == "runtime.NumGoroutine") = false) {s : Sh} {shs : List Sh} {vc : VC}
    (hvc : autoVCF P raw grow fresh hints fn = (shs, vc)) {c1 : C} {args rets : List (Sh × C)} (hs : args.map (·.1) = shs) (h : vc.holds P (fun r => r = (.sl s, c1) :: rets) [] (args.map (·.2))) :
    PC P (2000000 + f) args ((.sl s, c1) :: rets) := by
  unfold autoVCF at hvc
  split at hvc
  · simp only [Prod.mk.injEq] at hvc
    exact PC.ofF (FC.of_vc hf hname hvc.2 (hs.trans hvc.1.symm) h)
  · simp only [Prod.mk.injEq] at hvc
    rw [← hvc.2] at h
    exact h.elim
end Go.Vc

/-
  Part Y: for use: conditions step by step; how expressions are simplified; bytes; arithmetic without wrapping.
-/
namespace Go.Vc
section
variable {P : Program} {Post : List (Sh × C) → Prop} {B : List (List C → Prop)} {ρ : List C} {p : Pres} {e : E} {k a b : VC}
theorem VC.H_fail {n : Nat} : (VC.fail n).holds P Post B ρ = False := id rfl
theorem VC.H_asrt : (VC.asrt p e k).holds P Post B ρ = ((presTrue ρ p → (e.eval ρ).toBool = true) ∧ k.holds P Post B ρ) := id rfl
theorem VC.H_cond : (VC.cond e a b).holds P Post B ρ = (((e.eval ρ).toBool = true → a.holds P Post B ρ) ∧ ((e.eval ρ).toBool = false → b.holds P Post B ρ)) := id rfl
theorem VC.H_ret {rs : List (Sh × E)} : (VC.ret rs).holds P Post B ρ = Post (evalArgs ρ rs) := id rfl
theorem VC.H_back {lvl : Nat} {es : List E} : (VC.back lvl es).holds P Post B ρ = (B.getD lvl fun _ => False) (es.map (·.eval ρ)) := id rfl
theorem VC.H_call {f : Nat} {args : List (Sh × E)} {rets : List Sh} : (VC.call p f args rets k).holds P Post B ρ =
    ∃ res : List C, res.length = rets.length ∧ (presTrue ρ p → PC P f (evalArgs ρ args) (rets.zip res)) ∧ k.holds P Post B (ρ ++ res) := id rfl
theorem VC.H_call1 {f : Nat} {args : List (Sh × E)} {r : Sh} : (VC.call p f args [r] k).holds P Post B ρ =
    ∃ x : C, (presTrue ρ p → PC P f (evalArgs ρ args) [(r, x)]) ∧ k.holds P Post B (ρ ++ [x]) := by
  apply propext
  rw [VC.H_call]
  constructor
  · rintro ⟨res, h, h1, h2⟩
    match res, h with
    | [x], _ => exact ⟨x, h1, h2⟩
  · rintro ⟨x, h1, h2⟩
    exact ⟨[x], rfl, h1, h2⟩
theorem VC.H_call2 {f : Nat} {args : List (Sh × E)} {r r' : Sh} : (VC.call p f args [r, r'] k).holds P Post B ρ =
    ∃ x y : C, (presTrue ρ p → PC P f (evalArgs ρ args) [(r, x), (r', y)]) ∧ k.holds P Post B (ρ ++ [x, y]) := by
  apply propext
  rw [VC.H_call]
  constructor
  · rintro ⟨res, h, h1, h2⟩
    match res, h with
    | [x, y], _ => exact ⟨x, y, h1, h2⟩
  · rintro ⟨x, y, h1, h2⟩
    exact ⟨[x, y], rfl, h1, h2⟩
theorem VC.H_call3 {f : Nat} {args : List (Sh × E)} {r r' r'' : Sh} : (VC.call p f args [r, r', r''] k).holds P Post B ρ =
    ∃ x y z : C, (presTrue ρ p → PC P f (evalArgs ρ args) [(r, x), (r', y), (r'', z)]) ∧ k.holds P Post B (ρ ++ [x, y, z]) := by
  apply propext
  rw [VC.H_call]
  constructor
  · rintro ⟨res, h, h1, h2⟩
    match res, h with
    | [x, y, z], _ => exact ⟨x, y, z, h1, h2⟩
  · rintro ⟨x, y, z, h1, h2⟩
    exact ⟨[x, y, z], rfl, h1, h2⟩
end
/-- What holds at the heads of the loops around may be told more weakly. -/
def BLe (B B' : List (List C → Prop)) : Prop := B.length = B'.length ∧ ∀ (i : Nat) (f g : List C → Prop) (vs : List C), B[i]? = some f → B'[i]? = some g → f vs → g vs
theorem BLe.snoc {B B' : List (List C → Prop)} (h : BLe B B') (f : List C → Prop) : BLe (B ++ [f]) (B' ++ [f]) := by
  refine ⟨by simp [h.1], fun i g g' vs h1 h2 h3 => ?_⟩
  by_cases hi : i < B.length
  · rw [List.getElem?_append_left hi] at h1
    rw [List.getElem?_append_left (by rw [← h.1]; exact hi)] at h2
    exact h.2 i g g' vs h1 h2 h3
  · have hi' : i = B.length := by
      have := (List.getElem?_eq_some_iff.1 h1).1
      simp at this
      omega
    subst hi'
    rw [List.getElem?_append_right (Nat.le_refl _)] at h1
    rw [List.getElem?_append_right (by rw [h.1]; exact Nat.le_refl _)] at h2
    rw [h.1] at h2
    simp at h1 h2
    subst h1 h2
    exact h3
theorem VC.holds_mono {P : Program} {Post : List (Sh × C) → Prop} : ∀ {B B' : List (List C → Prop)} {ρ : List C} (_ : BLe B B') (k : VC), k.holds P Post B ρ → k.holds P Post B' ρ
  | _, _, _, _, .fail _, h => h
  | _, _, _, hb, .asrt _ _ k, h => ⟨h.1, VC.holds_mono hb k h.2⟩
  | _, _, _, hb, .call _ _ _ _ k, h => let ⟨res, h1, h2, h3⟩ := h; ⟨res, h1, h2, VC.holds_mono hb k h3⟩
  | _, _, _, hb, .cond _ a b, h => ⟨fun hc => VC.holds_mono hb a (h.1 hc), fun hc => VC.holds_mono hb b (h.2 hc)⟩
  | _, _, _, _, .ret _, h => h
  | _, _, _, hb, .loop _ k, h => let ⟨I, μ, h1, h2⟩ := h; ⟨I, μ, h1, fun vs hl hi => VC.holds_mono (hb.snoc _) k (h2 vs hl hi)⟩
  | B, B', ρ, hb, .back lvl es, h => by
    simp only [VC.H_back, List.getD_eq_getElem?_getD] at h ⊢
    cases h1 : B[lvl]? with
    | none => rw [h1] at h; exact h.elim
    | some f =>
      rw [h1] at h
      have hlt : lvl < B'.length := by
        have := (List.getElem?_eq_some_iff.1 h1).1
        have := hb.1
        omega
      rw [List.getElem?_eq_getElem hlt]
      exact hb.2 lvl f _ _ h1 (List.getElem?_eq_getElem hlt) h
section
variable {P : Program} {Post : List (Sh × C) → Prop} {B : List (List C → Prop)} {ρ : List C} {p : Pres} {e : E} {k a b : VC}
/-- A call whose contract is known. -/
theorem VC.go_call {f : Nat} {args : List (Sh × E)} {rets : List Sh} {args' rets' : List (Sh × C)} (h : PC P f args' rets') (ha : evalArgs ρ args = args') (hr : rets'.map (·.1) = rets)
    (hk : k.holds P Post B (ρ ++ rets'.map (·.2))) : (VC.call p f args rets k).holds P Post B ρ := by
  subst ha hr
  refine ⟨rets'.map (·.2), by simp, fun _ => ?_, hk⟩
  have : ∀ l : List (Sh × C), (l.map (·.1)).zip (l.map (·.2)) = l := by
    intro l
    induction l with
    | nil => rfl
    | cons x l ih => simp [ih]
  rw [this]
  exact h
theorem VC.go_asrt (h : presTrue ρ p → (e.eval ρ).toBool = true) (hk : k.holds P Post B ρ) : (VC.asrt p e k).holds P Post B ρ := ⟨h, hk⟩
theorem VC.go_cond (h1 : (e.eval ρ).toBool = true → a.holds P Post B ρ) (h2 : (e.eval ρ).toBool = false → b.holds P Post B ρ) : (VC.cond e a b).holds P Post B ρ := ⟨h1, h2⟩
theorem VC.go_yes (h : (e.eval ρ).toBool = true) (h1 : a.holds P Post B ρ) : (VC.cond e a b).holds P Post B ρ := ⟨fun _ => h1, fun h' => absurd (h.symm.trans h') (by decide)⟩
theorem VC.go_no (h : (e.eval ρ).toBool = false) (h1 : b.holds P Post B ρ) : (VC.cond e a b).holds P Post B ρ := ⟨fun h' => absurd (h.symm.trans h') (by decide), fun _ => h1⟩
/-- A loop: its states, what holds at its head, and what becomes less. -/
theorem VC.go_loop {init : List E} {St : Type} (enc : St → List C) (I : St → Prop) (μ : St → Nat) (s0 : St) (h0 : init.map (·.eval ρ) = enc s0) (hI : I s0)
    (h : ∀ s, I s → k.holds P Post (B ++ [fun vs => ∃ s', vs = enc s' ∧ I s' ∧ μ s' < μ s]) (ρ ++ enc s)) : (VC.loop init k).holds P Post B ρ := by
  classical
  let Q : List C → Nat → Prop := fun vs m => ∃ s, vs = enc s ∧ I s ∧ μ s = m
  have least : ∀ vs m, Q vs m → ∃ m0, Q vs m0 ∧ ∀ m', Q vs m' → m0 ≤ m' := by
    intro vs m
    induction m using Nat.strongRecOn with
    | ind m ih =>
      intro hm
      by_cases hx : ∃ m', m' < m ∧ Q vs m'
      · obtain ⟨m', h1, h2⟩ := hx
        exact ih m' h1 h2
      · exact ⟨m, hm, fun m' hm' => Nat.le_of_not_lt fun hlt => hx ⟨m', hlt, hm'⟩⟩
  let ν : List C → Nat := fun vs => if hx : ∃ m, Q vs m ∧ ∀ m', Q vs m' → m ≤ m' then Classical.choose hx else 0
  have hν : ∀ vs, (∃ s, vs = enc s ∧ I s) → Q vs (ν vs) ∧ ∀ m', Q vs m' → ν vs ≤ m' := by
    rintro vs ⟨s, h1, h2⟩
    have hx : ∃ m, Q vs m ∧ ∀ m', Q vs m' → m ≤ m' := least vs (μ s) ⟨s, h1, h2, rfl⟩
    have he : ν vs = Classical.choose hx := dif_pos hx
    rw [he]
    exact Classical.choose_spec hx
  refine ⟨fun vs => ∃ s, vs = enc s ∧ I s, ν, ⟨s0, h0, hI⟩, fun vs _ hvs => ?_⟩
  obtain ⟨⟨s, h1, h2, h3⟩, _⟩ := hν vs hvs
  have hs := h s h2
  rw [← h1] at hs
  refine VC.holds_mono ?_ k hs
  refine ⟨by simp, fun i f g vs' hf hg hfv => ?_⟩
  by_cases hi : i < B.length
  · rw [List.getElem?_append_left hi] at hf hg
    rw [hf] at hg
    cases hg
    exact hfv
  · have hi' : i = B.length := by
      have := (List.getElem?_eq_some_iff.1 hf).1
      simp at this
      omega
    subst hi'
    simp at hf hg
    subst hf hg
    obtain ⟨s', g1, g2, g3⟩ := hfv
    refine ⟨⟨s', g1, g2⟩, ?_⟩
    have := (hν vs' ⟨s', g1, g2⟩).2 (μ s') ⟨s', g1, g2, rfl⟩
    omega
end
theorem pres_nil (ρ : List C) : presTrue ρ [] = True := by simp [presTrue]
theorem pres_cons (ρ : List C) (e : E) (b : Bool) (l : Pres) : presTrue ρ ((e, b) :: l) = ((e.eval ρ).toBool = b ∧ presTrue ρ l) := by simp [presTrue]
section
variable {c : Prop} [Decidable c] {x y : C} {b : Bool}
theorem toBool_ite : (if c then x else y).toBool = if c then x.toBool else y.toBool := by split <;> rfl
theorem toInt_ite : (if c then x else y).toInt = if c then x.toInt else y.toInt := by split <;> rfl
theorem toList_ite : (if c then x else y).toList = if c then x.toList else y.toList := by split <;> rfl
theorem toStr_ite : (if c then x else y).toStr = if c then x.toStr else y.toStr := by split <;> rfl
theorem int_ite {a b : Int} : (if c then C.int a else C.int b) = C.int (if c then a else b) := by split <;> rfl
theorem bool_ite {a b : Bool} : (if c then C.bool a else C.bool b) = C.bool (if c then a else b) := by split <;> rfl
theorem ls_ite {a b : List C} : (if c then C.ls a else C.ls b) = C.ls (if c then a else b) := by split <;> rfl
theorem str_ite {a b : List UInt8} : (if c then C.str a else C.str b) = C.str (if c then a else b) := by split <;> rfl
theorem orT : ((if c then true else b) = true) = (c ∨ b = true) := by by_cases h : c <;> simp [h]
theorem orF : ((if c then true else b) = false) = (¬c ∧ b = false) := by by_cases h : c <;> simp [h]
theorem andT : ((if c then b else false) = true) = (c ∧ b = true) := by by_cases h : c <;> simp [h]
theorem andF : ((if c then b else false) = false) = (¬c ∨ b = false) := by by_cases h : c <;> simp [h]
theorem notT : ((!b) = true) = (b = false) := by cases b <;> simp
theorem notF : ((!b) = false) = (b = true) := by cases b <;> simp
theorem nnE {α : Type} {a b : α} : (¬ a ≠ b) = (a = b) := by simp
theorem eqF {a b : Int} : ((a == b) = false) = (a ≠ b) := by simp
theorem neF {a b : Int} : ((a != b) = false) = (a = b) := by simp
theorem neT {a b : Int} : ((a != b) = true) = (a ≠ b) := by simp
theorem eqT {a b : Int} : ((a == b) = true) = (a = b) := by simp
end
/-! Expressions: for simp; steps of their own in the proof (the kernel is quicker so than by computing). -/
section
variable (ρ : List C) (x y z : E) (n : Int)
theorem ev_var (i : Nat) : (E.var i).eval ρ = ρ.getD i default := id rfl
theorem ev_int : (E.int n).eval ρ = .int n := id rfl
theorem ev_bool (b : Bool) : (E.bool b).eval ρ = .bool b := id rfl
theorem ev_str (s : List UInt8) : (E.str s).eval ρ = .str s := id rfl
theorem ev_nil : E.nil.eval ρ = .ls [] := id rfl
theorem ev_nilS : E.nilS.eval ρ = .ls [] := id rfl
theorem ev_cons : (E.cons x y).eval ρ = .ls (x.eval ρ :: (y.eval ρ).toList) := id rfl
theorem ev_hd : (E.hd x).eval ρ = (x.eval ρ).hd := id rfl
theorem ev_tl : (E.tl x).eval ρ = (x.eval ρ).tl := id rfl
theorem ev_fset (j : Nat) : (E.fset j x y).eval ρ = (x.eval ρ).fset j (y.eval ρ) := id rfl
theorem ev_bin (o : BinOp) (k : IntKind) : (E.bin o k x y).eval ρ = .int (arith o k (x.eval ρ).toInt (y.eval ρ).toInt) := id rfl
theorem ev_add : (E.raw .add x y).eval ρ = .int ((x.eval ρ).toInt + (y.eval ρ).toInt) := id rfl
theorem ev_sub' : (E.raw .sub x y).eval ρ = .int ((x.eval ρ).toInt - (y.eval ρ).toInt) := id rfl
theorem ev_mul : (E.raw .mul x y).eval ρ = .int ((x.eval ρ).toInt * (y.eval ρ).toInt) := id rfl
theorem ev_eql : (E.cmp .eql x y).eval ρ = .bool (decide ((x.eval ρ).toInt = (y.eval ρ).toInt)) := by simp [E.eval, cmpI, BEq.beq]
theorem ev_neq : (E.cmp .neq x y).eval ρ = .bool (decide ((x.eval ρ).toInt ≠ (y.eval ρ).toInt)) := by simp [E.eval, cmpI, bne, BEq.beq]
theorem ev_lss : (E.cmp .lss x y).eval ρ = .bool (decide ((x.eval ρ).toInt < (y.eval ρ).toInt)) := id rfl
theorem ev_leq : (E.cmp .leq x y).eval ρ = .bool (decide ((x.eval ρ).toInt ≤ (y.eval ρ).toInt)) := id rfl
theorem ev_gtr : (E.cmp .gtr x y).eval ρ = .bool (decide ((y.eval ρ).toInt < (x.eval ρ).toInt)) := id rfl
theorem ev_geq : (E.cmp .geq x y).eval ρ = .bool (decide ((y.eval ρ).toInt ≤ (x.eval ρ).toInt)) := id rfl
theorem ev_seql : (E.scmp .eql x y).eval ρ = .bool (decide ((x.eval ρ).toStr = (y.eval ρ).toStr)) := by
  simp only [E.eval, cmpS]; congr 1; by_cases h : (x.eval ρ).toStr = (y.eval ρ).toStr <;> simp [h]
theorem ev_sneq : (E.scmp .neq x y).eval ρ = .bool (decide ((x.eval ρ).toStr ≠ (y.eval ρ).toStr)) := by
  simp only [E.eval, cmpS]; congr 1; by_cases h : (x.eval ρ).toStr = (y.eval ρ).toStr <;> simp [h]
theorem ev_beq : (E.beq x y).eval ρ = .bool (decide ((x.eval ρ).toBool = (y.eval ρ).toBool)) := by
  simp only [E.eval]; congr 1
theorem ev_not : (E.not x).eval ρ = .bool !(x.eval ρ).toBool := id rfl
theorem ev_ite : (E.ite x y z).eval ρ = if (x.eval ρ).toBool = true then y.eval ρ else z.eval ρ := id rfl
theorem ev_conv (k : IntKind) : (E.conv k x).eval ρ = .int (k.wrap (x.eval ρ).toInt) := id rfl
theorem ev_xorK (k : IntKind) : (E.xorK k x).eval ρ = .int (k.wrap (BitVec.ofInt k.bits (if k.signed then -1 else k.max) ^^^ BitVec.ofInt k.bits (x.eval ρ).toInt).toNat) := id rfl
theorem ev_len : (E.len x).eval ρ = .int (x.eval ρ).toList.length := id rfl
theorem ev_slen : (E.slen x).eval ρ = .int (x.eval ρ).toStr.length := id rfl
theorem ev_idx : (E.idx x y).eval ρ = (x.eval ρ).toList.getD (y.eval ρ).toInt.toNat default := id rfl
theorem ev_sidx : (E.sidx x y).eval ρ = .int ((x.eval ρ).toStr.getD (y.eval ρ).toInt.toNat 0).toNat := id rfl
theorem ev_sub : (E.sub x y z).eval ρ = .ls (((x.eval ρ).toList.take (z.eval ρ).toInt.toNat).drop (y.eval ρ).toInt.toNat) := id rfl
theorem ev_ssub : (E.ssub x y z).eval ρ = .str (((x.eval ρ).toStr.take (z.eval ρ).toInt.toNat).drop (y.eval ρ).toInt.toNat) := id rfl
theorem ev_app : (E.app x y).eval ρ = .ls ((x.eval ρ).toList ++ (y.eval ρ).toList) := id rfl
theorem ev_set : (E.set x y z).eval ρ = .ls ((x.eval ρ).toList.set (y.eval ρ).toInt.toNat (z.eval ρ)) := id rfl
theorem ev_rep : (E.rep x y).eval ρ = .ls (List.replicate (x.eval ρ).toInt.toNat (y.eval ρ)) := id rfl
theorem ev_splice : (E.splice x y z).eval ρ = .ls (Vc.splice (x.eval ρ).toList (y.eval ρ).toInt.toNat (z.eval ρ).toList) := id rfl
theorem ev_toStr : (E.toStr x).eval ρ = .str (bytesOf (x.eval ρ).toList) := id rfl
theorem ev_ofStr : (E.ofStr x).eval ρ = .ls (ofBytes (x.eval ρ).toStr) := id rfl
theorem ev_cat : (E.cat x y).eval ρ = .str ((x.eval ρ).toStr ++ (y.eval ρ).toStr) := id rfl
theorem ev_minI : (E.minI x y).eval ρ = .int (min (x.eval ρ).toInt (y.eval ρ).toInt) := id rfl
theorem ev_maxI : (E.maxI x y).eval ρ = .int (max (x.eval ρ).toInt (y.eval ρ).toInt) := id rfl
theorem ev_deq (s : Sh) : (E.deq s x y).eval ρ = .bool (dataEq s (x.eval ρ) (y.eval ρ)) := id rfl
theorem ev_fits64 : (E.fits .i64 x).eval ρ = .bool (decide (-9223372036854775808 ≤ (x.eval ρ).toInt ∧ (x.eval ρ).toInt ≤ 9223372036854775807)) := id rfl
theorem ea_nil : evalArgs ρ [] = [] := id rfl
theorem ea_cons (s : Sh) (l : List (Sh × E)) : evalArgs ρ ((s, x) :: l) = (s, x.eval ρ) :: evalArgs ρ l := id rfl
theorem v_int : (C.int n).toInt = n := id rfl
theorem v_bool (b : Bool) : (C.bool b).toBool = b := id rfl
theorem v_str (s : List UInt8) : (C.str s).toStr = s := id rfl
theorem v_ls (l : List C) : (C.ls l).toList = l := id rfl
theorem v_hd (c : C) (l : List C) : (C.ls (c :: l)).hd = c := id rfl
theorem v_tl (c : C) (l : List C) : (C.ls (c :: l)).tl = .ls l := id rfl
theorem env_zero {α : Type} (a d : α) (l : List α) : (a :: l).getD 0 d = a := id rfl
theorem env_succ {α : Type} (a d : α) (l : List α) (n : Nat) : (a :: l).getD (n + 1) d = l.getD n d := id rfl
theorem env_cons {α : Type} (a : α) (l m : List α) : (a :: l) ++ m = a :: (l ++ m) := id rfl
theorem env_nil {α : Type} (l : List α) : [] ++ l = l := id rfl
end
@[simp] theorem wrapu8 (n : Int) : IntKind.u8.wrap n = n % 256 := by simp [IntKind.wrap, IntKind.bits, IntKind.signed]
@[simp] theorem wrapu16 (n : Int) : IntKind.u16.wrap n = n % 65536 := by simp [IntKind.wrap, IntKind.bits, IntKind.signed]
@[simp] theorem wrapu32 (n : Int) : IntKind.u32.wrap n = n % 4294967296 := by simp [IntKind.wrap, IntKind.bits, IntKind.signed]
@[simp] theorem wrapu64 (n : Int) : IntKind.u64.wrap n = n % 18446744073709551616 := by simp [IntKind.wrap, IntKind.bits, IntKind.signed]
theorem wrapi64 (n : Int) : IntKind.i64.wrap n = (n + 9223372036854775808) % 18446744073709551616 - 9223372036854775808 := by
  simp [IntKind.wrap, IntKind.bits, IntKind.signed]; split <;> omega
theorem wrapi32 (n : Int) : IntKind.i32.wrap n = (n + 2147483648) % 4294967296 - 2147483648 := by
  simp [IntKind.wrap, IntKind.bits, IntKind.signed]; split <;> omega
theorem wrapi64_in {n : Int} (h : -9223372036854775808 ≤ n ∧ n < 9223372036854775808) : IntKind.i64.wrap n = n := by rw [wrapi64]; omega
theorem wrapi32_in {n : Int} (h : -2147483648 ≤ n ∧ n < 2147483648) : IntKind.i32.wrap n = n := by rw [wrapi32]; omega
theorem arith_in (a : Int) (m : Int) (h : 0 ≤ a) (h2 : a < m) : a % m = a := Int.emod_eq_of_lt h h2
@[simp] theorem mini64 : IntKind.i64.min = -9223372036854775808 := rfl
@[simp] theorem maxi64 : IntKind.i64.max = 9223372036854775807 := rfl
@[simp] theorem arith_add (k : IntKind) (x y : Int) : arith .add k x y = k.wrap (x + y) := rfl
@[simp] theorem arith_sub (k : IntKind) (x y : Int) : arith .sub k x y = k.wrap (x - y) := rfl
@[simp] theorem arith_mul (k : IntKind) (x y : Int) : arith .mul k x y = k.wrap (x * y) := rfl
theorem arith_quo (k : IntKind) (x y : Int) (h : 0 ≤ x) : arith .quo k x y = k.wrap (x / y) := by simp only [arith]; rw [Int.tdiv_eq_ediv_of_nonneg h]
theorem arith_rem (k : IntKind) (x y : Int) (h : 0 ≤ x) : arith .rem k x y = x % y := by simp only [arith]; rw [Int.tmod_eq_emod_of_nonneg h]
theorem arith_shl (k : IntKind) (x y : Int) : arith .shl k x y = k.wrap (x * 2 ^ (min y.toNat k.bits)) := rfl
theorem arith_shr (k : IntKind) (x y : Int) : arith .shr k x y = x / 2 ^ (min y.toNat k.bits) := by
  simp only [arith]; exact Int.fdiv_eq_ediv_of_nonneg _ (Int.pow_nonneg (by decide))
theorem ofInt_nat (w a : Nat) : BitVec.ofInt w (a : Int) = BitVec.ofNat w a := BitVec.ofInt_natCast w a
theorem wrap_nat {k : IntKind} {n : Nat} (h : n < 2 ^ (k.bits - 1)) : k.wrap (n : Int) = n := by
  cases k <;> simp [IntKind.wrap, IntKind.bits, IntKind.signed] at h ⊢ <;> omega
theorem wrapU_nat {k : IntKind} (hs : k.signed = false) {n : Nat} (h : n < 2 ^ k.bits) : k.wrap (n : Int) = n := by
  cases k <;> simp [IntKind.wrap, IntKind.bits, IntKind.signed] at h hs ⊢ <;> omega
section
variable {k : IntKind} {a b : Nat}
theorem and_nat (ha : a < 2 ^ k.bits) (hb : b < 2 ^ k.bits) : (BitVec.ofInt k.bits (a : Int) &&& BitVec.ofInt k.bits (b : Int)).toNat = a &&& b := by
  rw [ofInt_nat, ofInt_nat, BitVec.toNat_and, BitVec.toNat_ofNat, BitVec.toNat_ofNat, Nat.mod_eq_of_lt ha, Nat.mod_eq_of_lt hb]
theorem or_nat (ha : a < 2 ^ k.bits) (hb : b < 2 ^ k.bits) : (BitVec.ofInt k.bits (a : Int) ||| BitVec.ofInt k.bits (b : Int)).toNat = a ||| b := by
  rw [ofInt_nat, ofInt_nat, BitVec.toNat_or, BitVec.toNat_ofNat, BitVec.toNat_ofNat, Nat.mod_eq_of_lt ha, Nat.mod_eq_of_lt hb]
theorem xor_nat (ha : a < 2 ^ k.bits) (hb : b < 2 ^ k.bits) : (BitVec.ofInt k.bits (a : Int) ^^^ BitVec.ofInt k.bits (b : Int)).toNat = a ^^^ b := by
  rw [ofInt_nat, ofInt_nat, BitVec.toNat_xor, BitVec.toNat_ofNat, BitVec.toNat_ofNat, Nat.mod_eq_of_lt ha, Nat.mod_eq_of_lt hb]
/-- Unsigned. -/
theorem arith_andU (hs : k.signed = false) (ha : a < 2 ^ k.bits) (hb : b < 2 ^ k.bits) : arith .and k a b = ((a &&& b : Nat) : Int) := by
  simp only [arith, and_nat ha hb]; exact wrapU_nat hs (Nat.and_lt_two_pow _ hb)
theorem arith_orU (hs : k.signed = false) (ha : a < 2 ^ k.bits) (hb : b < 2 ^ k.bits) : arith .or k a b = ((a ||| b : Nat) : Int) := by
  simp only [arith, or_nat ha hb]; exact wrapU_nat hs (Nat.or_lt_two_pow ha hb)
theorem arith_xorU (hs : k.signed = false) (ha : a < 2 ^ k.bits) (hb : b < 2 ^ k.bits) : arith .xor k a b = ((a ^^^ b : Nat) : Int) := by
  simp only [arith, xor_nat ha hb]; exact wrapU_nat hs (Nat.xor_lt_two_pow ha hb)
theorem half_lt (h : a < 2 ^ (k.bits - 1)) : a < 2 ^ k.bits := Nat.lt_of_lt_of_le h (Nat.pow_le_pow_right (by decide) (Nat.sub_le _ _))
/-- Below the half of what fits: any kind. -/
theorem arith_andH (ha : a < 2 ^ (k.bits - 1)) (hb : b < 2 ^ (k.bits - 1)) : arith .and k a b = ((a &&& b : Nat) : Int) := by
  simp only [arith, and_nat (half_lt ha) (half_lt hb)]; exact wrap_nat (Nat.and_lt_two_pow _ hb)
theorem arith_orH (ha : a < 2 ^ (k.bits - 1)) (hb : b < 2 ^ (k.bits - 1)) : arith .or k a b = ((a ||| b : Nat) : Int) := by
  simp only [arith, or_nat (half_lt ha) (half_lt hb)]; exact wrap_nat (Nat.or_lt_two_pow ha hb)
theorem arith_xorH (ha : a < 2 ^ (k.bits - 1)) (hb : b < 2 ^ (k.bits - 1)) : arith .xor k a b = ((a ^^^ b : Nat) : Int) := by
  simp only [arith, xor_nat (half_lt ha) (half_lt hb)]; exact wrap_nat (Nat.xor_lt_two_pow ha hb)
end

/-! Bytes. -/
abbrev B (b : List UInt8) : C := .ls (ofBytes b)
def u8 (x : Int) : UInt8 := UInt8.ofNat (x % 256).toNat
theorem u8_toNat (x : Int) : (((u8 x).toNat : Nat) : Int) = x % 256 := by
  simp only [u8, UInt8.toNat_ofNat']; omega
theorem u8_of (x : UInt8) : u8 x.toNat = x := by
  apply UInt8.toNat_inj.1
  have h1 := u8_toNat x.toNat
  have h2 := x.toNat_lt
  omega
theorem u8_int (x : Int) : C.int (x % 256) = C.int (u8 x).toNat := by rw [u8_toNat]
@[simp] theorem ofBytes_nil : ofBytes [] = [] := rfl
@[simp] theorem ofBytes_length (b : List UInt8) : (ofBytes b).length = b.length := by simp [ofBytes]
theorem ofBytes_take (b : List UInt8) (n : Nat) : (ofBytes b).take n = ofBytes (b.take n) := by simp [ofBytes]
theorem ofBytes_drop (b : List UInt8) (n : Nat) : (ofBytes b).drop n = ofBytes (b.drop n) := by simp [ofBytes]
theorem ofBytes_append (a b : List UInt8) : ofBytes a ++ ofBytes b = ofBytes (a ++ b) := by simp [ofBytes]
theorem ofBytes_cons (x : UInt8) (b : List UInt8) : C.int x.toNat :: ofBytes b = ofBytes (x :: b) := by simp [ofBytes]
theorem ofBytes_rep (n : Nat) : List.replicate n (C.int 0) = ofBytes (List.replicate n 0) := by simp [ofBytes]
theorem ofBytes_set (b : List UInt8) (i : Nat) (x : Int) : (ofBytes b).set i (.int (x % 256)) = ofBytes (b.set i (u8 x)) := by
  rw [u8_int]; simp [ofBytes, List.map_set]
theorem ofBytes_set' (b : List UInt8) (i : Nat) (x : UInt8) : (ofBytes b).set i (.int x.toNat) = ofBytes (b.set i x) := by
  simp [ofBytes, List.map_set]
theorem ofBytes_getD (b : List UInt8) (i : Nat) : (ofBytes b).getD i default = .int (b.getD i 0).toNat := by
  simp only [ofBytes, List.getD, List.getElem?_map]
  cases b[i]? <;> rfl
theorem ofBytes_splice (b m : List UInt8) (i : Nat) : splice (ofBytes b) i (ofBytes m) = ofBytes (splice b i m) := by simp [splice, ofBytes]
@[simp] theorem bytesOf_ofBytes (b : List UInt8) : bytesOf (ofBytes b) = b := by
  simp only [bytesOf, ofBytes, List.map_map]
  conv => rhs; rw [← List.map_id b]
  apply List.map_congr_left
  intro x _
  simp
@[simp] theorem bytesOf_nil : bytesOf [] = [] := rfl
theorem ofBytes_inj {a b : List UInt8} (h : ofBytes a = ofBytes b) : a = b := by rw [← bytesOf_ofBytes a, h, bytesOf_ofBytes]
theorem getD_toNat_lt (b : List UInt8) (i : Nat) : (b.getD i 0).toNat < 256 := UInt8.toNat_lt _
@[simp] theorem cmpS_eql (a b : List UInt8) : cmpS .eql a b = decide (a = b) := by
  by_cases h : a = b
  · simp [cmpS, h]
  · simp [cmpS, h]
@[simp] theorem cmpS_neq (a b : List UInt8) : cmpS .neq a b = decide (a ≠ b) := by
  by_cases h : a = b
  · simp [cmpS, h]
  · simp [cmpS, h]
theorem ofBytes_all (b : List C) (h : ∀ c ∈ b, ∃ n : Nat, c = .int n ∧ n < 256) : ∃ l : List UInt8, b = ofBytes l := by
  refine ⟨b.map fun c => u8 c.toInt, ?_⟩
  simp only [ofBytes, List.map_map]
  conv => lhs; rw [← List.map_id b]
  apply List.map_congr_left
  intro c hc
  obtain ⟨n, rfl, hn⟩ := h c hc
  simp only [Function.comp, id, C.toInt_int, u8_toNat]
  congr 1
  omega
/-! Numbers that are not negative. -/
abbrev ofNats (l : List Nat) : List C := l.map fun n : Nat => .int (n : Int)
abbrev Ns (l : List Nat) : C := .ls (ofNats l)
theorem ofNats_getD (l : List Nat) (i : Nat) (h : i < l.length) : (ofNats l).getD i default = .int (l.getD i 0 : Nat) := by
  simp [List.getD, h]
theorem ofNats_snoc (l : List Nat) (n : Nat) : ofNats l ++ [.int (n : Int)] = ofNats (l ++ [n]) := by simp
theorem ofNats_inj {a b : List Nat} (h : ofNats a = ofNats b) : a = b := by
  have := congrArg (List.map fun c => c.toInt.toNat) h
  simpa [List.map_map, Function.comp_def] using this
theorem byte_nat (v : Nat) : IntKind.u8.wrap (v : Int) = ((UInt8.ofNat v).toNat : Int) := by
  simp only [wrapu8, UInt8.toNat_ofNat']
  omega
theorem byte_lit (l : List Nat) : l.map (fun v : Nat => C.int (IntKind.u8.wrap (v : Int))) = ofBytes (l.map UInt8.ofNat) := by
  simp only [ofBytes, List.map_map]
  apply List.map_congr_left
  intro v _
  simp only [Function.comp, byte_nat]
theorem ty_list {α : Type} {e : α → C} {P : α → Prop} : ∀ {l : List C}, (∀ x ∈ l, ∃ a, x = e a ∧ P a) → ∃ as : List α, l = as.map e ∧ ∀ a ∈ as, P a
  | [], _ => ⟨[], rfl, by simp⟩
  | x :: l, h => by
    obtain ⟨a, h1, h2⟩ := h x (by simp)
    obtain ⟨as, h3, h4⟩ := ty_list (l := l) fun y hy => h y (by simp [hy])
    exact ⟨a :: as, by simp [h1, h3], by simpa using ⟨h2, h4⟩⟩
end Go.Vc


/-
  Plain: numbers in bytes, the highest first.
-/
namespace Go.Plain
/-- The number that the bytes are. -/
def be (l : List UInt8) : Nat := l.foldl (fun v x => v * 256 + x.toNat) 0
/-- The n lowest bytes of a number. -/
def toBE : Nat → Nat → List UInt8
  | 0, _ => []
  | n + 1, v => toBE n (v / 256) ++ [UInt8.ofNat v]
theorem snocInd {α : Type} {P : List α → Prop} (nil : P []) (snoc : ∀ l x, P l → P (l ++ [x])) (l : List α) : P l := by
  have h : ∀ (n : Nat) (l : List α), l.length = n → P l := by
    intro n
    induction n with
    | zero => intro l hl; rw [List.length_eq_zero_iff.1 hl]; exact nil
    | succ n ih =>
      intro l hl
      rcases List.eq_nil_or_concat l with rfl | ⟨m, x, rfl⟩
      · simp at hl
      · rw [List.concat_eq_append] at hl ⊢
        exact snoc m x (ih m (by simpa using hl))
  exact h _ l rfl
@[simp] theorem be_nil : be [] = 0 := rfl
@[simp] theorem be_snoc (l : List UInt8) (x : UInt8) : be (l ++ [x]) = be l * 256 + x.toNat := by simp [be]
theorem be_lt (l : List UInt8) : be l < 256 ^ l.length := by
  induction l using snocInd with
  | nil => simp
  | snoc l x ih =>
    have := x.toNat_lt
    simp only [be_snoc, List.length_append, List.length_singleton, Nat.pow_succ]
    omega
theorem be_append (l m : List UInt8) : be (l ++ m) = be l * 256 ^ m.length + be m := by
  induction m using snocInd with
  | nil => simp
  | snoc m x ih =>
    rw [← List.append_assoc, be_snoc, be_snoc, ih]
    simp only [List.length_append, List.length_singleton, Nat.pow_succ]
    rw [Nat.add_mul, Nat.mul_assoc]
    omega
@[simp] theorem toBE_length : ∀ (n v : Nat), (toBE n v).length = n
  | 0, _ => rfl
  | n + 1, v => by simp [toBE, toBE_length n]
theorem be_toBE : ∀ (n v : Nat), be (toBE n v) = v % 256 ^ n
  | 0, v => by simp [toBE, Nat.mod_one]
  | n + 1, v => by
    simp only [toBE, be_snoc, be_toBE n, UInt8.toNat_ofNat']
    have h : 256 ^ (n + 1) = 256 * 256 ^ n := by rw [Nat.pow_succ, Nat.mul_comm]
    rw [h, Nat.mod_mul]
    omega
theorem toBE_be : ∀ (n : Nat) (l : List UInt8), l.length = n → toBE n (be l) = l
  | 0, l, h => by rw [List.length_eq_zero_iff.1 h]; rfl
  | n + 1, l, h => by
    rcases List.eq_nil_or_concat l with rfl | ⟨m, x, rfl⟩
    · simp at h
    · simp only [List.concat_eq_append] at h ⊢
      have hx := x.toNat_lt
      have h1 : (be m * 256 + x.toNat) / 256 = be m := by omega
      simp only [toBE, be_snoc, h1]
      rw [toBE_be n m (by simpa using h)]
      congr 2
      apply UInt8.toNat_inj.1
      simp only [UInt8.toNat_ofNat']
      omega
theorem toBE_mod (n v : Nat) : toBE n (v % 256 ^ n) = toBE n v := by
  have h := toBE_be n (toBE n v) (toBE_length n v)
  rwa [be_toBE] at h
theorem toBE_inj {n v w : Nat} (hv : v < 256 ^ n) (hw : w < 256 ^ n) (h : toBE n v = toBE n w) : v = w := by
  have h1 := be_toBE n v
  have h2 := be_toBE n w
  rw [h] at h1
  rw [Nat.mod_eq_of_lt hv] at h1
  rw [Nat.mod_eq_of_lt hw] at h2
  omega
theorem be_inj {l m : List UInt8} (hl : l.length = m.length) (h : be l = be m) : l = m := by
  rw [← toBE_be l.length l rfl, h, hl, toBE_be m.length m rfl]
theorem toBE_cons : ∀ (n v : Nat), toBE (n + 1) v = UInt8.ofNat (v / 256 ^ n) :: toBE n v
  | 0, v => by simp [toBE]
  | n + 1, v => by
    rw [toBE, toBE_cons n, toBE]
    simp only [List.cons_append, Nat.pow_succ, Nat.div_div_eq_div_mul]
    rw [Nat.mul_comm]
theorem or_add (a k b : Nat) (h : b < 2 ^ k) : a * 2 ^ k ||| b = a * 2 ^ k + b := by
  rw [← Nat.shiftLeft_eq, Nat.shiftLeft_add_eq_or_of_lt h]
theorem be_take_succ (l : List UInt8) (i : Nat) (h : i < l.length) : be (l.take (i + 1)) = be (l.take i) * 256 + (l.getD i 0).toNat := by
  rw [List.take_succ_eq_append_getElem h, be_snoc]
  simp [List.getD, h]
theorem be_take_lt (l : List UInt8) (i : Nat) : be (l.take i) < 256 ^ i := by
  refine Nat.lt_of_lt_of_le (be_lt _) (Nat.pow_le_pow_right (by decide) ?_)
  simp
  omega
theorem be_lt8 {l : List UInt8} (h : l.length ≤ 8) : be l < 18446744073709551616 := Nat.lt_of_lt_of_le (be_lt l) (Nat.le_trans (Nat.pow_le_pow_right (by decide) h) (by decide))
theorem take_drop (l : List UInt8) (a n : Nat) : (l.take (a + n)).drop a = (l.drop a).take n := by
  rw [List.drop_take, Nat.add_sub_cancel_left]
/-- As a signed number of n bytes. -/
def sgn (n : Nat) (v : Nat) : Int := if v < 2 ^ (8 * n - 1) then v else (v : Int) - 2 ^ (8 * n)
end Go.Plain

/-
  Plain: the fixed header of a packet.
-/
namespace Go.Plain
structure Hd where
  pad : Bool
  ext : Bool
  mark : Bool
  typ : Int
  seq : Nat
  time : Nat
  ssrc : Nat
  csrc : List Nat
  deriving DecidableEq
def Hd.zero : Hd := ⟨false, false, false, 0, 0, 0, 0, []⟩
def Hd.ok (h : Hd) : Prop := h.seq < 65536 ∧ h.time < 4294967296 ∧ h.ssrc < 4294967296 ∧ ∀ c ∈ h.csrc, c < 4294967296
def Hd.right (h : Hd) : Prop := 0 ≤ h.typ ∧ h.typ < 128 ∧ h.csrc.length < 16
instance (h : Hd) : Decidable h.right := by unfold Hd.right; exact inferInstance
def Hd.first (h : Hd) : Nat := 128 + 32 * h.pad.toNat + 16 * h.ext.toNat + h.csrc.length
def Hd.second (h : Hd) : Nat := 128 * h.mark.toNat + h.typ.toNat
def words (l : List Nat) : List UInt8 := (l.map (toBE 4)).flatten
def Hd.bytes (h : Hd) : List UInt8 := UInt8.ofNat h.first :: UInt8.ofNat h.second :: (toBE 2 h.seq ++ (toBE 4 h.time ++ (toBE 4 h.ssrc ++ words h.csrc)))
def at_ (b : List UInt8) (i : Nat) : Nat := (b.getD i 0).toNat
def num (b : List UInt8) (i n : Nat) : Nat := be ((b.drop i).take n)
def Hd.of (b : List UInt8) : Hd :=
  { pad := decide (at_ b 0 / 32 % 2 = 1), ext := decide (at_ b 0 / 16 % 2 = 1), mark := decide (128 ≤ at_ b 1), typ := ((at_ b 1 % 128 : Nat) : Int), seq := num b 2 2, time := num b 4 4, ssrc := num b 8 4,
    csrc := (List.range (at_ b 0 % 16)).map fun i => num b (12 + 4 * i) 4 }
def hdE (b : List UInt8) : Int := if b.length < 12 then 2 else if at_ b 0 / 64 ≠ 2 then 3 else if b.length < 12 + 4 * (at_ b 0 % 16) then 2 else 0
def hdN (b : List UInt8) : Nat := if hdE b = 0 then 12 + 4 * (at_ b 0 % 16) else 0
def hdH (b : List UInt8) : Hd := if hdE b = 0 then Hd.of b else Hd.zero
theorem hdE_zero {b : List UInt8} : hdE b = 0 ↔ 12 ≤ b.length ∧ at_ b 0 / 64 = 2 ∧ 12 + 4 * (at_ b 0 % 16) ≤ b.length := by
  unfold hdE
  split
  · simp; omega
  · split
    · simp; omega
    · split <;> simp <;> omega
theorem words_length (l : List Nat) : (words l).length = 4 * l.length := by
  induction l with
  | nil => rfl
  | cons x l ih => simp only [words, List.map_cons, List.flatten_cons, List.length_append, toBE_length, List.length_cons] at ih ⊢; omega
theorem Hd.bytes_length (h : Hd) : h.bytes.length = 12 + 4 * h.csrc.length := by
  simp [Hd.bytes, words_length]; omega
theorem at_lt (b : List UInt8) (i : Nat) : at_ b i < 256 := UInt8.toNat_lt _
theorem num_lt (b : List UInt8) (i n : Nat) : num b i n < 256 ^ n := be_take_lt _ _
theorem num_app {a b c : List UInt8} {n : Nat} (h : b.length = n) : num (a ++ (b ++ c)) a.length n = be b := by
  simp only [num]
  rw [List.drop_append, List.drop_of_length_le (Nat.le_refl _)]
  simp [← h]
theorem num_drop (a b : List UInt8) (i n : Nat) : num (a ++ b) (a.length + i) n = num b i n := by
  simp only [num]
  rw [← List.drop_drop, List.drop_left]
theorem words_num : ∀ (l : List Nat) (r : List UInt8), (∀ c ∈ l, c < 4294967296) → ((List.range l.length).map fun i => num (words l ++ r) (4 * i) 4) = l
  | [], _, _ => rfl
  | x :: l, r, h => by
    have h1 := h x (by simp)
    rw [List.length_cons, List.range_succ_eq_map, List.map_cons, List.map_map]
    have e1 : num (words (x :: l) ++ r) (4 * 0) 4 = x := by
      have := num_app (a := []) (b := toBE 4 x) (c := words l ++ r) (n := 4) (toBE_length _ _)
      simp only [words, List.map_cons, List.flatten_cons, List.append_assoc] at this ⊢
      simp only [List.nil_append, List.length_nil] at this
      rw [Nat.mul_zero, this, be_toBE]
      omega
    have e2 : ((fun i => num (words (x :: l) ++ r) (4 * i) 4) ∘ Nat.succ) = fun i => num (words l ++ r) (4 * i) 4 := by
      funext i
      have := num_drop (toBE 4 x) (words l ++ r) (4 * i) 4
      rw [toBE_length] at this
      simp only [Function.comp, words, List.map_cons, List.flatten_cons, List.append_assoc] at this ⊢
      rw [← this]
      congr 1
      omega
    rw [e1, e2, words_num l r (fun c hc => h c (by simp [hc]))]
theorem num_at {b : List UInt8} {i n : Nat} (h : i + n ≤ b.length) : toBE n (num b i n) = (b.drop i).take n := by
  apply toBE_be
  simp; omega
/-- A header is read from its bytes as it was. -/
theorem Hd.back (h : Hd) (hr : h.right) (ho : h.ok) (r : List UInt8) : hdE (h.bytes ++ r) = 0 ∧ Hd.of (h.bytes ++ r) = h ∧ at_ (h.bytes ++ r) 0 % 16 = h.csrc.length := by
  obtain ⟨r1, r2, r3⟩ := hr
  obtain ⟨o1, o2, o3, o4⟩ := ho
  have a0 : at_ (h.bytes ++ r) 0 = h.first := by
    simp only [at_, Hd.bytes, List.cons_append, List.getD_cons_zero, UInt8.toNat_ofNat']
    apply Nat.mod_eq_of_lt
    simp only [Hd.first]
    cases h.pad <;> cases h.ext <;> simp <;> omega
  have a1 : at_ (h.bytes ++ r) 1 = h.second := by
    simp only [at_, Hd.bytes, List.cons_append, List.getD_cons_succ, List.getD_cons_zero, UInt8.toNat_ofNat']
    apply Nat.mod_eq_of_lt
    simp only [Hd.second]
    cases h.mark <;> simp <;> omega
  have hn : at_ (h.bytes ++ r) 0 % 16 = h.csrc.length := by
    rw [a0]
    simp only [Hd.first]
    cases h.pad <;> cases h.ext <;> simp <;> omega
  refine ⟨?_, ?_, hn⟩
  · rw [hdE_zero, hn, List.length_append, Hd.bytes_length, a0]
    refine ⟨by omega, ?_, by omega⟩
    simp only [Hd.first]
    cases h.pad <;> cases h.ext <;> simp <;> omega
  · have s1 : num (h.bytes ++ r) 2 2 = h.seq := by
      have := num_app (a := [UInt8.ofNat h.first, UInt8.ofNat h.second]) (b := toBE 2 h.seq) (c := toBE 4 h.time ++ (toBE 4 h.ssrc ++ (words h.csrc ++ r))) (n := 2) (toBE_length _ _)
      rw [be_toBE, Nat.mod_eq_of_lt (by omega)] at this
      rw [← this]
      simp [Hd.bytes]
    have s2 : num (h.bytes ++ r) 4 4 = h.time := by
      have := num_app (a := [UInt8.ofNat h.first, UInt8.ofNat h.second] ++ toBE 2 h.seq) (b := toBE 4 h.time) (c := toBE 4 h.ssrc ++ (words h.csrc ++ r)) (n := 4) (toBE_length _ _)
      rw [be_toBE, Nat.mod_eq_of_lt (by omega)] at this
      rw [← this]
      simp [Hd.bytes]
    have s3 : num (h.bytes ++ r) 8 4 = h.ssrc := by
      have := num_app (a := [UInt8.ofNat h.first, UInt8.ofNat h.second] ++ (toBE 2 h.seq ++ toBE 4 h.time)) (b := toBE 4 h.ssrc) (c := words h.csrc ++ r) (n := 4) (toBE_length _ _)
      rw [be_toBE, Nat.mod_eq_of_lt (by omega)] at this
      rw [← this]
      simp [Hd.bytes]
    have s4 : ((List.range (at_ (h.bytes ++ r) 0 % 16)).map fun i => num (h.bytes ++ r) (12 + 4 * i) 4) = h.csrc := by
      rw [hn]
      have e : (fun i => num (h.bytes ++ r) (12 + 4 * i) 4) = fun i => num (words h.csrc ++ r) (4 * i) 4 := by
        funext i
        have := num_drop ([UInt8.ofNat h.first, UInt8.ofNat h.second] ++ (toBE 2 h.seq ++ (toBE 4 h.time ++ toBE 4 h.ssrc))) (words h.csrc ++ r) (4 * i) 4
        rw [← this]
        simp [Hd.bytes]
      rw [e]
      exact words_num _ _ o4
    have p1 : (h.first / 32 % 2 = 1) = (h.pad = true) := by
      simp only [Hd.first]
      cases h.pad <;> cases h.ext <;> simp <;> omega
    have p2 : (h.first / 16 % 2 = 1) = (h.ext = true) := by
      simp only [Hd.first]
      cases h.pad <;> cases h.ext <;> simp <;> omega
    have p3 : (128 ≤ h.second) = (h.mark = true) := by
      simp only [Hd.second]
      cases h.mark <;> simp <;> omega
    have p4 : ((h.second % 128 : Nat) : Int) = h.typ := by
      simp only [Hd.second]
      cases h.mark <;> simp <;> omega
    rw [hn] at s4
    simp only [Hd.of, hn, s1, s2, s3, s4]
    rw [a0, a1]
    simp only [p1, p2, p3, p4, Bool.decide_eq_true]
theorem take_cons2 (b : List UInt8) (h : 12 ≤ b.length) : b = UInt8.ofNat (at_ b 0) :: UInt8.ofNat (at_ b 1) :: b.drop 2 := by
  match b, h with
  | x :: y :: l, _ =>
    simp [at_]
theorem words_take (b : List UInt8) : ∀ n : Nat, 4 * n ≤ b.length → words ((List.range n).map fun i => num b (4 * i) 4) = b.take (4 * n)
  | 0, _ => by simp [words]
  | n + 1, h => by
    rw [List.range_succ, List.map_append]
    have e : words (((List.range n).map fun i => num b (4 * i) 4) ++ [num b (4 * n) 4]) = words ((List.range n).map fun i => num b (4 * i) 4) ++ toBE 4 (num b (4 * n) 4) := by
      simp [words]
    simp only [List.map_cons, List.map_nil]
    rw [e, words_take b n (by omega), num_at (by omega), Nat.mul_succ, List.take_add]
/-- What is read has just the bytes that it was read from. -/
theorem Hd.same (b : List UInt8) (h : hdE b = 0) : (Hd.of b).right ∧ (Hd.of b).ok ∧ (Hd.of b).csrc.length = at_ b 0 % 16 ∧ (Hd.of b).bytes = b.take (12 + 4 * (at_ b 0 % 16)) := by
  have hz := hdE_zero.1 h
  have h0 := at_lt b 0
  have h1 := at_lt b 1
  have hl : (Hd.of b).csrc.length = at_ b 0 % 16 := by simp [Hd.of]
  refine ⟨?_, ?_, hl, ?_⟩
  · have e : (Hd.of b).typ = ((at_ b 1 % 128 : Nat) : Int) := rfl
    refine ⟨by omega, by omega, by rw [hl]; omega⟩
  · refine ⟨num_lt _ _ 2, num_lt _ _ 4, num_lt _ _ 4, ?_⟩
    intro c hc
    simp only [Hd.of, List.mem_map] at hc
    obtain ⟨i, _, rfl⟩ := hc
    exact num_lt _ _ 4
  · have f1 : (Hd.of b).first = at_ b 0 := by
      simp only [Hd.first, hl]
      have e1 : (Hd.of b).pad = decide (at_ b 0 / 32 % 2 = 1) := rfl
      have e2 : (Hd.of b).ext = decide (at_ b 0 / 16 % 2 = 1) := rfl
      rw [e1, e2]
      by_cases q1 : at_ b 0 / 32 % 2 = 1 <;> by_cases q2 : at_ b 0 / 16 % 2 = 1 <;> simp [q1, q2] <;> omega
    have f2 : (Hd.of b).second = at_ b 1 := by
      simp only [Hd.second]
      have e1 : (Hd.of b).mark = decide (128 ≤ at_ b 1) := rfl
      have e2 : (Hd.of b).typ = ((at_ b 1 % 128 : Nat) : Int) := rfl
      rw [e1, e2]
      by_cases q1 : 128 ≤ at_ b 1 <;> simp [q1] <;> omega
    have g1 : toBE 2 (Hd.of b).seq = (b.drop 2).take 2 := num_at (by omega)
    have g2 : toBE 4 (Hd.of b).time = (b.drop 4).take 4 := num_at (by omega)
    have g3 : toBE 4 (Hd.of b).ssrc = (b.drop 8).take 4 := num_at (by omega)
    have g4 : words (Hd.of b).csrc = (b.drop 12).take (4 * (at_ b 0 % 16)) := by
      rw [← words_take (b.drop 12) (at_ b 0 % 16) (by simp; omega)]
      congr 1
      simp only [Hd.of]
      apply List.map_congr_left
      intro i _
      simp [num, List.drop_drop]
    rw [Hd.bytes, f1, f2, g1, g2, g3, g4]
    have cut4 : ∀ (n m : Nat) (l : List UInt8), (l.drop n).take m ++ (l.drop (n + m)) = l.drop n := by
      intro n m l
      rw [← List.drop_drop, List.take_append_drop]
    have e5 : (12 + 4 * (at_ b 0 % 16)) = 2 + (2 + (4 + (4 + 4 * (at_ b 0 % 16)))) := by omega
    generalize hm : 4 * (at_ b 0 % 16) = m at *
    have hb := take_cons2 b hz.1
    have e6 : b.take (2 + (2 + (4 + (4 + m)))) = UInt8.ofNat (at_ b 0) :: UInt8.ofNat (at_ b 1) :: (b.drop 2).take (2 + (4 + (4 + m))) := by
      conv => lhs; rw [hb]
      rw [show 2 + (2 + (4 + (4 + m))) = (2 + (4 + (4 + m))) + 1 + 1 by omega, List.take_succ_cons, List.take_succ_cons]
    rw [e5, e6]
    have tk : ∀ (n m k : Nat), ((b.drop k).take (n + m)) = (b.drop k).take n ++ (b.drop (k + n)).take m := by
      intro n m k
      rw [List.take_add, List.drop_drop]
    rw [tk 2 _ 2, tk 4 _ 4, tk 4 _ 8]
/-- Cut anywhere, it is too short. -/
theorem Hd.cut (h : Hd) (hr : h.right) (ho : h.ok) (k : Nat) (hk : k < h.bytes.length) : hdE (h.bytes.take k) = 2 := by
  have hb := Hd.back h hr ho []
  rw [List.append_nil] at hb
  have hz := hdE_zero.1 hb.1
  have hl := h.bytes_length
  unfold hdE
  rw [List.length_take, Nat.min_eq_left (Nat.le_of_lt hk)]
  split
  · rfl
  · rename_i h12
    have a0 : at_ (h.bytes.take k) 0 = at_ h.bytes 0 := by
      simp only [at_, List.getD_eq_getElem?_getD]
      rw [List.getElem?_take, if_pos (by omega)]
    rw [a0, if_neg (by omega), if_pos (by omega)]
theorem Hd.inj {h k : Hd} (hr : h.right) (ho : h.ok) (kr : k.right) (ko : k.ok) (e : h.bytes = k.bytes) : h = k := by
  have h1 := (Hd.back h hr ho []).2.1
  have h2 := (Hd.back k kr ko []).2.1
  rw [← h1, ← h2, e]
end Go.Plain

/-
  Plain: reports of senders and receivers.
-/
namespace Go.Plain
structure Bk where
  ssrc : Nat
  frac : Nat
  lost : Int
  high : Nat
  jit : Nat
  last : Nat
  delay : Nat
  deriving DecidableEq
structure Snd where
  ntp : Nat
  time : Nat
  pk : Nat
  oct : Nat
  deriving DecidableEq
structure Rp where
  ssrc : Nat
  sends : Bool
  snd : Snd
  blocks : List Bk
  more : List UInt8
  deriving DecidableEq
def Snd.zero : Snd := ⟨0, 0, 0, 0⟩
def Rp.zero : Rp := ⟨0, false, Snd.zero, [], []⟩
def Bk.ok (b : Bk) : Prop := b.ssrc < 4294967296 ∧ b.frac < 256 ∧ (-2147483648 ≤ b.lost ∧ b.lost ≤ 2147483647) ∧ b.high < 4294967296 ∧ b.jit < 4294967296 ∧ b.last < 4294967296 ∧ b.delay < 4294967296
def Snd.ok (s : Snd) : Prop := s.ntp < 18446744073709551616 ∧ s.time < 4294967296 ∧ s.pk < 4294967296 ∧ s.oct < 4294967296
def Rp.ok (r : Rp) : Prop := r.ssrc < 4294967296 ∧ r.snd.ok ∧ ∀ b ∈ r.blocks, b.ok
def Bk.fits (b : Bk) : Prop := -8388608 ≤ b.lost ∧ b.lost ≤ 8388607
instance (b : Bk) : Decidable b.fits := by unfold Bk.fits; exact inferInstance
def rpSize (sends : Bool) (n : Nat) : Nat := 4 + 24 * n + if sends then 20 else 0
def Rp.right (r : Rp) : Prop := r.blocks.length ≤ 31 ∧ r.more.length % 4 = 0 ∧ (∀ b ∈ r.blocks, b.fits) ∧ (r.sends = true ∨ r.snd = Snd.zero) ∧ rpSize r.sends r.blocks.length + r.more.length ≤ 65528
instance (r : Rp) : Decidable r.right := by unfold Rp.right; exact inferInstance
def Bk.bytes (b : Bk) : List UInt8 := toBE 4 b.ssrc ++ (UInt8.ofNat b.frac :: (toBE 3 (b.lost % 18446744073709551616).toNat ++ (toBE 4 b.high ++ (toBE 4 b.jit ++ (toBE 4 b.last ++ toBE 4 b.delay)))))
def Snd.bytes (s : Snd) : List UInt8 := toBE 8 s.ntp ++ (toBE 4 s.time ++ (toBE 4 s.pk ++ toBE 4 s.oct))
def blocksB (l : List Bk) : List UInt8 := (l.map Bk.bytes).flatten
def Rp.bytes (r : Rp) : List UInt8 := toBE 4 r.ssrc ++ ((if r.sends then r.snd.bytes else []) ++ (blocksB r.blocks ++ r.more))
def Bk.of (b : List UInt8) (i : Nat) : Bk :=
  { ssrc := num b i 4, frac := at_ b (i + 4), lost := sgn 3 (num b (i + 5) 3), high := num b (i + 8) 4, jit := num b (i + 12) 4, last := num b (i + 16) 4, delay := num b (i + 20) 4 }
def Snd.of (b : List UInt8) (i : Nat) : Snd := { ntp := num b i 8, time := num b (i + 8) 4, pk := num b (i + 12) 4, oct := num b (i + 16) 4 }
def rpHead (sends : Bool) : Nat := if sends then 24 else 4
def Rp.of (sends : Bool) (n : Nat) (b : List UInt8) : Rp :=
  { ssrc := num b 0 4, sends := sends, snd := if sends then Snd.of b 4 else Snd.zero, blocks := (List.range n).map fun i => Bk.of b (rpHead sends + 24 * i), more := b.drop (rpHead sends + 24 * n) }
def rpE (sends : Bool) (count : Int) (b : List UInt8) : Int :=
  if count < 0 ∨ 31 < count then 1 else if 65528 < b.length ∨ b.length % 4 ≠ 0 then 4 else if b.length < rpSize sends count.toNat then 2 else 0
def rpR (sends : Bool) (count : Int) (b : List UInt8) : Rp := if rpE sends count b = 0 then Rp.of sends count.toNat b else Rp.zero
theorem rpE_zero {sends : Bool} {count : Int} {b : List UInt8} : rpE sends count b = 0 ↔ (0 ≤ count ∧ count ≤ 31) ∧ (b.length ≤ 65528 ∧ b.length % 4 = 0) ∧ rpSize sends count.toNat ≤ b.length := by
  unfold rpE
  split
  · simp; omega
  · split
    · simp; omega
    · split <;> simp <;> omega
theorem Bk.bytes_length (b : Bk) : b.bytes.length = 24 := by simp [Bk.bytes]
theorem Snd.bytes_length (s : Snd) : s.bytes.length = 20 := by simp [Snd.bytes]
theorem blocksB_length (l : List Bk) : (blocksB l).length = 24 * l.length := by
  induction l with
  | nil => rfl
  | cons x l ih => simp only [blocksB, List.map_cons, List.flatten_cons, List.length_append, Bk.bytes_length, List.length_cons] at ih ⊢; omega
theorem Rp.bytes_length (r : Rp) : r.bytes.length = rpSize r.sends r.blocks.length + r.more.length := by
  simp only [Rp.bytes, List.length_append, toBE_length, blocksB_length, rpSize]
  cases r.sends <;> simp [Snd.bytes_length] <;> omega
theorem rpHead_size (sends : Bool) (n : Nat) : rpHead sends + 24 * n = rpSize sends n := by
  cases sends <;> simp [rpHead, rpSize] <;> omega
theorem sgn3 (x : Int) (h : -8388608 ≤ x ∧ x ≤ 8388607) : sgn 3 (be (toBE 3 (x % 18446744073709551616).toNat)) = x := by
  rw [be_toBE]
  unfold sgn
  simp
  split <;> omega
theorem be_one (n : Nat) (h : n < 256) : (UInt8.ofNat n).toNat = n := by
  simp
  omega
/-- A block is read from its bytes as it was. -/
theorem Bk.back (k : Bk) (hk : k.ok) (hf : k.fits) (a r : List UInt8) : Bk.of (a ++ (k.bytes ++ r)) a.length = k := by
  obtain ⟨k1, k2, k3, k4, k5, k6, k7⟩ := hk
  have e : ∀ i n, num (a ++ (k.bytes ++ r)) (a.length + i) n = num (k.bytes ++ r) i n := fun i n => num_drop a _ i n
  have p4 : ∀ (pre X post : List UInt8) (v : Nat), v < 4294967296 → X = toBE 4 v → num (pre ++ (X ++ post)) pre.length 4 = v := by
    intro pre X post v hv hX
    rw [num_app (by rw [hX]; simp), hX, be_toBE]
    omega
  have s1 : num (a ++ (k.bytes ++ r)) a.length 4 = k.ssrc := by
    have := e 0 4
    rw [Nat.add_zero] at this
    rw [this]
    have := p4 [] (toBE 4 k.ssrc) ((UInt8.ofNat k.frac :: (toBE 3 (k.lost % 18446744073709551616).toNat ++ (toBE 4 k.high ++ (toBE 4 k.jit ++ (toBE 4 k.last ++ toBE 4 k.delay))))) ++ r) k.ssrc k1 rfl
    simpa [Bk.bytes] using this
  have s2 : at_ (a ++ (k.bytes ++ r)) (a.length + 4) = k.frac := by
    simp only [at_, List.getD_eq_getElem?_getD]
    rw [List.getElem?_append_right (by omega), Nat.add_sub_cancel_left]
    simp only [Bk.bytes, List.append_assoc]
    rw [List.getElem?_append_right (by simp), toBE_length]
    simp
    omega
  have s3 : num (a ++ (k.bytes ++ r)) (a.length + 5) 3 = be (toBE 3 (k.lost % 18446744073709551616).toNat) := by
    rw [e]
    have := num_app (a := toBE 4 k.ssrc ++ [UInt8.ofNat k.frac]) (b := toBE 3 (k.lost % 18446744073709551616).toNat) (c := toBE 4 k.high ++ (toBE 4 k.jit ++ (toBE 4 k.last ++ (toBE 4 k.delay ++ r)))) (n := 3) (toBE_length _ _)
    rw [← this]
    simp [Bk.bytes]
  have s4 : num (a ++ (k.bytes ++ r)) (a.length + 8) 4 = k.high := by
    rw [e]
    have := p4 (toBE 4 k.ssrc ++ (UInt8.ofNat k.frac :: toBE 3 (k.lost % 18446744073709551616).toNat)) (toBE 4 k.high) (toBE 4 k.jit ++ (toBE 4 k.last ++ (toBE 4 k.delay ++ r))) k.high k4 rfl
    rw [← this]
    simp [Bk.bytes]
  have s5 : num (a ++ (k.bytes ++ r)) (a.length + 12) 4 = k.jit := by
    rw [e]
    have := p4 (toBE 4 k.ssrc ++ (UInt8.ofNat k.frac :: (toBE 3 (k.lost % 18446744073709551616).toNat ++ toBE 4 k.high))) (toBE 4 k.jit) (toBE 4 k.last ++ (toBE 4 k.delay ++ r)) k.jit k5 rfl
    rw [← this]
    simp [Bk.bytes]
  have s6 : num (a ++ (k.bytes ++ r)) (a.length + 16) 4 = k.last := by
    rw [e]
    have := p4 (toBE 4 k.ssrc ++ (UInt8.ofNat k.frac :: (toBE 3 (k.lost % 18446744073709551616).toNat ++ (toBE 4 k.high ++ toBE 4 k.jit)))) (toBE 4 k.last) (toBE 4 k.delay ++ r) k.last k6 rfl
    rw [← this]
    simp [Bk.bytes]
  have s7 : num (a ++ (k.bytes ++ r)) (a.length + 20) 4 = k.delay := by
    rw [e]
    have := p4 (toBE 4 k.ssrc ++ (UInt8.ofNat k.frac :: (toBE 3 (k.lost % 18446744073709551616).toNat ++ (toBE 4 k.high ++ (toBE 4 k.jit ++ toBE 4 k.last))))) (toBE 4 k.delay) r k.delay k7 rfl
    rw [← this]
    simp [Bk.bytes]
  simp only [Bk.of, s1, s2, s3, s4, s5, s6, s7, sgn3 k.lost hf]
theorem blocks_back : ∀ (l : List Bk) (a r : List UInt8), (∀ k ∈ l, k.ok ∧ k.fits) → ((List.range l.length).map fun i => Bk.of (a ++ (blocksB l ++ r)) (a.length + 24 * i)) = l
  | [], _, _, _ => rfl
  | x :: l, a, r, h => by
    have h1 := h x (by simp)
    rw [List.length_cons, List.range_succ_eq_map, List.map_cons, List.map_map]
    have e0 : a ++ (blocksB (x :: l) ++ r) = a ++ (x.bytes ++ (blocksB l ++ r)) := by simp [blocksB]
    have e1 : Bk.of (a ++ (blocksB (x :: l) ++ r)) (a.length + 24 * 0) = x := by
      rw [e0, Nat.mul_zero, Nat.add_zero]
      exact Bk.back x h1.1 h1.2 a _
    have e2 : ((fun i => Bk.of (a ++ (blocksB (x :: l) ++ r)) (a.length + 24 * i)) ∘ Nat.succ) = fun i => Bk.of ((a ++ x.bytes) ++ (blocksB l ++ r)) ((a ++ x.bytes).length + 24 * i) := by
      funext i
      simp only [Function.comp]
      rw [e0, List.length_append, Bk.bytes_length, List.append_assoc]
      congr 1
      omega
    rw [e1, e2, blocks_back l (a ++ x.bytes) r (fun k hk => h k (by simp [hk]))]
def Rp.front (r : Rp) : List UInt8 := toBE 4 r.ssrc ++ if r.sends then r.snd.bytes else []
theorem Rp.front_length (r : Rp) : r.front.length = rpHead r.sends := by
  simp only [Rp.front, rpHead, List.length_append, toBE_length]
  cases r.sends <;> simp [Snd.bytes_length]
theorem Rp.bytes_eq (r : Rp) : r.bytes = r.front ++ (blocksB r.blocks ++ r.more) := by
  simp [Rp.bytes, Rp.front]
theorem snd_back (s : Snd) (hs : s.ok) (a r : List UInt8) (ha : a.length = 4) : Snd.of (a ++ (s.bytes ++ r)) 4 = s := by
  obtain ⟨h1, h2, h3, h4⟩ := hs
  have s1 : num (a ++ (s.bytes ++ r)) 4 8 = s.ntp := by
    have := num_app (a := a) (b := toBE 8 s.ntp) (c := toBE 4 s.time ++ (toBE 4 s.pk ++ (toBE 4 s.oct ++ r))) (n := 8) (toBE_length _ _)
    rw [be_toBE, Nat.mod_eq_of_lt (by omega), ha] at this
    rw [← this]
    simp [Snd.bytes]
  have s2 : num (a ++ (s.bytes ++ r)) (4 + 8) 4 = s.time := by
    have := num_app (a := a ++ toBE 8 s.ntp) (b := toBE 4 s.time) (c := toBE 4 s.pk ++ (toBE 4 s.oct ++ r)) (n := 4) (toBE_length _ _)
    rw [be_toBE, Nat.mod_eq_of_lt (by omega), List.length_append, ha, toBE_length] at this
    rw [← this]
    simp [Snd.bytes]
  have s3 : num (a ++ (s.bytes ++ r)) (4 + 12) 4 = s.pk := by
    have := num_app (a := a ++ (toBE 8 s.ntp ++ toBE 4 s.time)) (b := toBE 4 s.pk) (c := toBE 4 s.oct ++ r) (n := 4) (toBE_length _ _)
    rw [be_toBE, Nat.mod_eq_of_lt (by omega), List.length_append, List.length_append, ha, toBE_length, toBE_length] at this
    rw [← this]
    simp [Snd.bytes]
  have s4 : num (a ++ (s.bytes ++ r)) (4 + 16) 4 = s.oct := by
    have := num_app (a := a ++ (toBE 8 s.ntp ++ (toBE 4 s.time ++ toBE 4 s.pk))) (b := toBE 4 s.oct) (c := r) (n := 4) (toBE_length _ _)
    rw [be_toBE, Nat.mod_eq_of_lt (by omega), List.length_append, List.length_append, List.length_append, ha, toBE_length, toBE_length, toBE_length] at this
    rw [← this]
    simp [Snd.bytes]
  simp only [Snd.of, s1, s2, s3, s4]
/-- A report is read from its body as it was. -/
theorem Rp.back (r : Rp) (hr : r.right) (ho : r.ok) : rpE r.sends r.blocks.length r.bytes = 0 ∧ Rp.of r.sends r.blocks.length r.bytes = r := by
  obtain ⟨r1, r2, r3, r4, r5⟩ := hr
  obtain ⟨o1, o2, o3⟩ := ho
  have hl := r.bytes_length
  have hsz : rpSize r.sends r.blocks.length % 4 = 0 := by
    unfold rpSize
    cases r.sends <;> simp <;> omega
  refine ⟨?_, ?_⟩
  · rw [rpE_zero, hl, Int.toNat_natCast]
    omega
  · have e1 : num r.bytes 0 4 = r.ssrc := by
      have := num_app (a := []) (b := toBE 4 r.ssrc) (c := ((if r.sends then r.snd.bytes else []) ++ (blocksB r.blocks ++ r.more))) (n := 4) (toBE_length _ _)
      rw [be_toBE, Nat.mod_eq_of_lt (by omega)] at this
      exact this
    have e2 : (if r.sends then Snd.of r.bytes 4 else Snd.zero) = r.snd := by
      cases hs : r.sends with
      | true =>
        simp only [if_true]
        have := snd_back r.snd o2 (toBE 4 r.ssrc) (blocksB r.blocks ++ r.more) (toBE_length _ _)
        rw [← this]
        simp [Rp.bytes, hs]
      | false =>
        rcases r4 with h | h
        · rw [hs] at h; cases h
        · simp [h]
    have e3 : ((List.range r.blocks.length).map fun i => Bk.of r.bytes (rpHead r.sends + 24 * i)) = r.blocks := by
      have := blocks_back r.blocks r.front r.more (fun k hk => ⟨o3 k hk, r3 k hk⟩)
      rw [r.front_length, ← r.bytes_eq] at this
      exact this
    have e4 : r.bytes.drop (rpHead r.sends + 24 * r.blocks.length) = r.more := by
      rw [r.bytes_eq, ← List.append_assoc]
      have : (r.front ++ blocksB r.blocks).length = rpHead r.sends + 24 * r.blocks.length := by rw [List.length_append, r.front_length, blocksB_length]
      rw [← this, List.drop_left]
    simp only [Rp.of, e1, e2, e3, e4]
theorem sgn3_back (v : Nat) (h : v < 16777216) : toBE 3 (sgn 3 v % 18446744073709551616).toNat = toBE 3 v ∧ -8388608 ≤ sgn 3 v ∧ sgn 3 v ≤ 8388607 := by
  have e : (sgn 3 v % 18446744073709551616).toNat % 256 ^ 3 = v := by
    unfold sgn
    simp
    split <;> omega
  refine ⟨?_, ?_⟩
  · rw [← toBE_mod, e]
  · unfold sgn
    simp
    split <;> omega
theorem drop_cons (b : List UInt8) (i : Nat) (h : i < b.length) : b.drop i = UInt8.ofNat (at_ b i) :: b.drop (i + 1) := by
  rw [List.drop_eq_getElem_cons h]
  congr 1
  simp [at_, List.getD, h]
theorem Bk.same (b : List UInt8) (i : Nat) (h : i + 24 ≤ b.length) : (Bk.of b i).bytes = (b.drop i).take 24 ∧ (Bk.of b i).ok ∧ (Bk.of b i).fits := by
  have n3 := num_lt b (i + 5) 3
  have g3 := sgn3_back (num b (i + 5) 3) (by simpa using n3)
  have ha := at_lt b (i + 4)
  refine ⟨?_, ⟨num_lt _ _ 4, ha, by simp only [Bk.of]; omega, num_lt _ _ 4, num_lt _ _ 4, num_lt _ _ 4, num_lt _ _ 4⟩, by simp only [Bk.of, Bk.fits]; omega⟩
  simp only [Bk.bytes, Bk.of, g3.1]
  rw [num_at (show i + 4 ≤ b.length by omega), num_at (show i + 5 + 3 ≤ b.length by omega), num_at (show i + 8 + 4 ≤ b.length by omega), num_at (show i + 12 + 4 ≤ b.length by omega), num_at (show i + 16 + 4 ≤ b.length by omega), num_at (show i + 20 + 4 ≤ b.length by omega)]
  have tk : ∀ (n m k : Nat), ((b.drop k).take (n + m)) = (b.drop k).take n ++ (b.drop (k + n)).take m := by
    intro n m k
    rw [List.take_add, List.drop_drop]
  have one : (b.drop (i + 4)).take (1 + 19) = UInt8.ofNat (at_ b (i + 4)) :: (b.drop (i + 5)).take 19 := by
    rw [drop_cons b (i + 4) (by omega), Nat.add_comm 1 19, List.take_succ_cons]
  rw [show (24 : Nat) = 4 + (1 + 19) by rfl, tk 4 (1 + 19) i, one, show (19 : Nat) = 3 + (4 + (4 + (4 + 4))) by rfl, tk 3 _ (i + 5), tk 4 _ (i + 5 + 3), tk 4 _ (i + 5 + 3 + 4), tk 4 _ (i + 5 + 3 + 4 + 4)]
theorem blocks_same (b : List UInt8) (a : Nat) : ∀ n : Nat, a + 24 * n ≤ b.length → blocksB ((List.range n).map fun i => Bk.of b (a + 24 * i)) = (b.drop a).take (24 * n)
  | 0, _ => by simp [blocksB]
  | n + 1, h => by
    rw [List.range_succ, List.map_append]
    have e : blocksB (((List.range n).map fun i => Bk.of b (a + 24 * i)) ++ [Bk.of b (a + 24 * n)]) = blocksB ((List.range n).map fun i => Bk.of b (a + 24 * i)) ++ (Bk.of b (a + 24 * n)).bytes := by
      simp [blocksB]
    simp only [List.map_cons, List.map_nil]
    rw [e, blocks_same b a n (by omega), (Bk.same b (a + 24 * n) (by omega)).1, Nat.mul_succ, List.take_add, List.drop_drop]
/-- What is read is right, and has just this body. -/
theorem Rp.same (sends : Bool) (count : Int) (b : List UInt8) (h : rpE sends count b = 0) :
    (Rp.of sends count.toNat b).right ∧ (Rp.of sends count.toNat b).ok ∧ (Rp.of sends count.toNat b).bytes = b ∧ (Rp.of sends count.toNat b).blocks.length = count.toNat := by
  have hz := rpE_zero.1 h
  have hbl : (Rp.of sends count.toNat b).blocks.length = count.toNat := by simp [Rp.of]
  have hh := rpHead_size sends count.toNat
  have hsz : rpSize sends count.toNat % 4 = 0 := by
    unfold rpSize
    cases sends <;> simp <;> omega
  have each : ∀ k ∈ (Rp.of sends count.toNat b).blocks, k.ok ∧ k.fits := by
    intro k hk
    simp only [Rp.of, List.mem_map, List.mem_range] at hk
    obtain ⟨i, hi, rfl⟩ := hk
    exact (Bk.same b (rpHead sends + 24 * i) (by omega)).2
  have hm : (Rp.of sends count.toNat b).more.length = b.length - rpSize sends count.toNat := by
    simp only [Rp.of, List.length_drop]
    omega
  refine ⟨⟨by rw [hbl]; omega, by rw [hm]; omega, fun k hk => (each k hk).2, ?_, ?_⟩, ⟨num_lt _ _ 4, ?_, fun k hk => (each k hk).1⟩, ?_, hbl⟩
  · cases sends
    · right; rfl
    · left; rfl
  · rw [hbl, hm]
    show rpSize sends count.toNat + _ ≤ _
    omega
  · cases sends
    · show Snd.zero.ok
      exact ⟨by decide, by decide, by decide, by decide⟩
    · exact ⟨num_lt _ _ 8, num_lt _ _ 4, num_lt _ _ 4, num_lt _ _ 4⟩
  · have tk : ∀ (n k : Nat), (b.drop k).take n ++ b.drop (k + n) = b.drop k := by
      intro n k
      rw [← List.drop_drop, List.take_append_drop]
    have e1 : toBE 4 (num b 0 4) = (b.drop 0).take 4 := num_at (by unfold rpSize at hz; omega)
    have e2 : blocksB ((List.range count.toNat).map fun i => Bk.of b (rpHead sends + 24 * i)) = (b.drop (rpHead sends)).take (24 * count.toNat) := blocks_same b _ _ (by omega)
    cases sends with
    | false =>
      have e3 : rpHead false = 4 := rfl
      rw [e3] at e2
      have : (Rp.of false count.toNat b).bytes = (b.drop 0).take 4 ++ ((b.drop 4).take (24 * count.toNat) ++ b.drop (4 + 24 * count.toNat)) := by
        simp only [Rp.bytes, Rp.of, e1, e3, e2]
        simp
      rw [this, tk, tk 4 0]
      rfl
    | true =>
      have e3 : rpHead true = 24 := rfl
      rw [e3] at e2
      have hs : 24 ≤ b.length := by
        have : rpSize true count.toNat = 4 + 24 * count.toNat + 20 := rfl
        omega
      have e4 : (Snd.of b 4).bytes = (b.drop 4).take 20 := by
        simp only [Snd.bytes, Snd.of]
        rw [num_at (show 4 + 8 ≤ b.length by omega), num_at (show 4 + 8 + 4 ≤ b.length by omega), num_at (show 4 + 12 + 4 ≤ b.length by omega), num_at (show 4 + 16 + 4 ≤ b.length by omega)]
        have tk2 : ∀ (n m k : Nat), ((b.drop k).take (n + m)) = (b.drop k).take n ++ (b.drop (k + n)).take m := by
          intro n m k
          rw [List.take_add, List.drop_drop]
        rw [show (20 : Nat) = 8 + (4 + (4 + 4)) by rfl, tk2 8, tk2 4, tk2 4]
      have : (Rp.of true count.toNat b).bytes = (b.drop 0).take 4 ++ ((b.drop 4).take 20 ++ ((b.drop 24).take (24 * count.toNat) ++ b.drop (24 + 24 * count.toNat))) := by
        simp only [Rp.bytes, Rp.of, e1, e3, e2, e4, if_true]
      rw [this, tk, tk 20 4, tk 4 0]
      rfl
theorem Rp.inj {r s : Rp} (hr : r.right) (ho : r.ok) (sr : s.right) (so : s.ok) (hs : r.sends = s.sends) (hn : r.blocks.length = s.blocks.length) (e : r.bytes = s.bytes) : r = s := by
  have h1 := (Rp.back r hr ho).2
  have h2 := (Rp.back s sr so).2
  rw [← h1, ← h2, e, hs, hn]
/-- Cut by a word: another report, or too short. -/
theorem Rp.cut (r : Rp) (hr : r.right) (ho : r.ok) : (0 < r.more.length → rpE r.sends r.blocks.length (r.bytes.take (r.bytes.length - 4)) = 0 ∧ rpR r.sends r.blocks.length (r.bytes.take (r.bytes.length - 4)) ≠ r) ∧
    (r.more.length = 0 → rpE r.sends r.blocks.length (r.bytes.take (r.bytes.length - 4)) = 2) := by
  have hl := r.bytes_length
  have hb := rpE_zero.1 (Rp.back r hr ho).1
  have h4 : 4 ≤ rpSize r.sends r.blocks.length := by unfold rpSize; omega
  have hm := hr.2.1
  have hlen : (r.bytes.take (r.bytes.length - 4)).length = r.bytes.length - 4 := by rw [List.length_take]; omega
  rw [Int.toNat_natCast] at hb
  refine ⟨fun h => ?_, fun h => ?_⟩
  · have e : rpE r.sends r.blocks.length (r.bytes.take (r.bytes.length - 4)) = 0 := by
      rw [rpE_zero, hlen, Int.toNat_natCast]
      omega
    refine ⟨e, fun he => ?_⟩
    have hs := (Rp.same _ _ _ e).2.2.1
    rw [rpR, if_pos e] at he
    rw [he] at hs
    have := congrArg List.length hs
    rw [hlen] at this
    omega
  · unfold rpE
    rw [if_neg (by omega), if_neg (by rw [hlen]; omega), if_pos (by rw [hlen, Int.toNat_natCast]; omega)]
theorem rpE_vals (s : Bool) (n : Int) (b : List UInt8) : rpE s n b = 0 ∨ rpE s n b = 1 ∨ rpE s n b = 2 ∨ rpE s n b = 4 := by
  unfold rpE
  split
  · simp
  · split
    · simp
    · split <;> simp
/-- One block less. -/
theorem Rp.less (s : Bool) (n : Nat) (b : List UInt8) (hn : n < 31) :
    (rpE s ((n : Int) + 1) b ≠ 0 → rpE s n b = rpE s ((n : Int) + 1) b ∨ rpE s ((n : Int) + 1) b = 2) ∧
    (rpE s ((n : Int) + 1) b = 0 → rpE s n b = 0 ∧ (rpR s n b).more.length = (rpR s ((n : Int) + 1) b).more.length + 24 ∧ (rpR s n b).more.drop 24 = (rpR s ((n : Int) + 1) b).more ∧
      (rpR s n b).blocks.length = n ∧ (rpR s ((n : Int) + 1) b).blocks.length = n + 1 ∧
      rpR s ((n : Int) + 1) b = { rpR s n b with blocks := (rpR s n b).blocks ++ [(rpR s ((n : Int) + 1) b).blocks.getD n ⟨0, 0, 0, 0, 0, 0, 0⟩], more := (rpR s ((n : Int) + 1) b).more }) := by
  have hs := rpHead_size s n
  have hs1 := rpHead_size s (n + 1)
  have e1 : ((n : Int) + 1).toNat = n + 1 := by omega
  refine ⟨fun h => ?_, fun h => ?_⟩
  · unfold rpE at h ⊢
    have a1 : ¬ ((n : Int) < 0 ∨ 31 < (n : Int)) := by omega
    have a2 : ¬ ((n : Int) + 1 < 0 ∨ 31 < (n : Int) + 1) := by omega
    rw [if_neg a2] at h
    simp only [if_neg a1, if_neg a2]
    by_cases h2 : 65528 < b.length ∨ b.length % 4 ≠ 0
    · simp only [if_pos h2, true_or]
    · simp only [if_neg h2] at h ⊢
      by_cases h3 : b.length < rpSize s ((n : Int) + 1).toNat
      · simp only [if_pos h3, or_true]
      · simp only [if_neg h3] at h
        exact absurd rfl h
  · have hz := rpE_zero.1 h
    rw [e1] at hz
    have h0 : rpE s n b = 0 := by
      rw [rpE_zero, Int.toNat_natCast]
      omega
    have ea : rpR s ((n : Int) + 1) b = Rp.of s (n + 1) b := by rw [rpR, if_pos h, e1]
    have eb : rpR s n b = Rp.of s n b := by rw [rpR, if_pos h0, Int.toNat_natCast]
    rw [ea, eb]
    refine ⟨h0, ?_, ?_, ?_, ?_, ?_⟩
    · simp only [Rp.of, List.length_drop]
      omega
    · simp only [Rp.of, List.drop_drop]
      congr 1
    · simp [Rp.of]
    · simp [Rp.of]
    · simp only [Rp.of]
      congr 1
      rw [List.range_succ, List.map_append]
      congr 1
      simp [List.getD]
end Go.Plain

/-
  Part Z: what a row's arguments read as is data of the parameters' shapes; a law's row out of the contract of its function.
-/
namespace Go.Vc
open Go.ChangeShapes Go.WideShapes Go.ChangeAt Go.RowKit

/-- Data of a shape: integers fit, lengths are lengths. -/
def Ty : Sh → C → Prop
  | .int k, c => ∃ n, c = .int n ∧ (Lit.int k n).wf = true
  | .bool, c => ∃ b, c = .bool b
  | .str, c => ∃ s, c = .str s ∧ s.length ≤ maxLen
  | .sl e, c => ∃ l, c = .ls l ∧ l.length ≤ maxLen ∧ ∀ x ∈ l, Ty e x
  | .unit, c => c = .ls []
  | .pair a b, c => ∃ x l, c = .ls (x :: l) ∧ Ty a x ∧ Ty b (.ls l)
theorem lit_wf {k : IntKind} {n : Int} : (Lit.int k n).wf = true ↔ k.min ≤ n ∧ n ≤ k.max := by
  simp [Lit.wf]
def TyAll : List Sh → List C → Prop
  | [], cs => cs = []
  | s :: l, cs => ∃ c r, cs = c :: r ∧ Ty s c ∧ TyAll l r
theorem ty_int {k : IntKind} {c : C} (h : Ty (.int k) c) : ∃ n : Int, c = .int n ∧ k.min ≤ n ∧ n ≤ k.max := by
  obtain ⟨n, h1, h2⟩ := h
  exact ⟨n, h1, lit_wf.1 h2⟩
theorem ty_nat {k : IntKind} (hs : k.signed = false) {c : C} (h : Ty (.int k) c) : ∃ n : Nat, c = .int n ∧ n < 2 ^ k.bits := by
  obtain ⟨n, rfl, h1, h2⟩ := ty_int h
  refine ⟨n.toNat, ?_, ?_⟩
  · cases k <;> simp [IntKind.signed] at hs <;> simp [IntKind.min, IntKind.signed] at h1 <;> congr 1 <;> omega
  · cases k <;> simp [IntKind.signed] at hs <;> simp [IntKind.min, IntKind.max, IntKind.signed, IntKind.bits] at h1 h2 ⊢ <;> omega
theorem ty_bytes {c : C} (h : Ty (.sl (.int .u8)) c) : ∃ b : List UInt8, c = .ls (ofBytes b) := by
  obtain ⟨l, rfl, _, hl⟩ := h
  refine ⟨l.map fun c => UInt8.ofNat c.toInt.toNat, ?_⟩
  congr 1
  simp only [ofBytes, List.map_map]
  conv => lhs; rw [← List.map_id l]
  apply List.map_congr_left
  intro c hc
  obtain ⟨n, rfl, hn⟩ := ty_nat rfl (hl c hc)
  simp only [Function.comp, id, C.toInt_int, Int.toNat_natCast, UInt8.toNat_ofNat']
  simp [IntKind.bits] at hn
  congr 1
  omega
def goodFs (P : Program) (R : TypeId → Sh → Bool) : List Field → Sh → Nat → Bool
  | [], .unit, _ => true
  | f :: fs, .pair a b, off => f.offset == off && (P.cellsOf f.type == a.size && (R f.type a && (b.isAgg && goodFs P R fs b (off + a.size))))
  | _, _, _ => false
/-- The type's values read as data of the shape. -/
def goodT (P : Program) : Nat → TypeId → Sh → Bool
  | 0, _, _ => false
  | n + 1, t, s => match P.underlying t, s with
    | some .bool, .bool => true
    | some (.int k), .int k' => decide (k = k')
    | some .string, .str => true
    | some (.slice e), .sl s => P.cellsOf e == s.size && (s.size != 0 && goodT P n e s)
    | some (.struct fs), s => s.isAgg && (P.cellsOf t == s.size && goodFs P (goodT P n) fs.toList s 0)
    | _, _ => false
theorem Ty.agg {s : Sh} {c : C} (hs : s.isAgg = true) (h : Ty s c) : ∃ l, c = .ls l := by
  cases s with
  | unit => exact ⟨[], h⟩
  | pair a b => obtain ⟨x, l, h, _⟩ := h; exact ⟨_, h⟩
  | _ => cases hs
theorem pick {Q : Nat → C → Prop} : ∀ n : Nat, (∀ i, i < n → ∃ c, Q i c) → ∃ l : List C, l.length = n ∧ ∀ i c, l[i]? = some c → Q i c
  | 0, _ => ⟨[], rfl, fun i c h => by simp at h⟩
  | n + 1, h => by
    obtain ⟨l, h1, h2⟩ := pick n fun i hi => h i (by omega)
    obtain ⟨c, hc⟩ := h n (by omega)
    refine ⟨l ++ [c], by simp [h1], fun i c' hi => ?_⟩
    by_cases hl : i < n
    · rw [List.getElem?_append_left (by omega)] at hi
      exact h2 i c' hi
    · have : i = n := by
        have := (List.getElem?_eq_some_iff.1 hi).1
        simp at this
        omega
      subst this
      rw [List.getElem?_append_right (by omega), h1] at hi
      simp at hi
      exact hi ▸ hc
section
variable {H : Type} {enc : TypeId × Value → H} {P : Program} {w : World} {base : Nat} {sp : Nat → Bool} {held : Bool}
theorem fields_rd {n m : Nat} (ih : ∀ t s cs fuel x, goodT P n t s = true → DataW.trod enc P w base sp held fuel t cs = some x → ∃ c, Rd w (fun _ => True) s cs c ∧ Ty s c)
    {cs : List Value} : ∀ (fs : List Field) (s : Sh) (off : Nat) (xs : List (DataW H × List MemPlace)), xs.length = fs.length →
      (∀ (i : Nat) (f : Field), fs[i]? = some f → DataW.trod enc P w base sp held m f.type ((cs.drop f.offset).take (P.cellsOf f.type)) = xs[i]?) →
      goodFs P (goodT P n) fs s off = true → cs.length = off + s.size → ∃ c, Rd w (fun _ => True) s (cs.drop off) c ∧ Ty s c := by
  intro fs
  induction fs with
  | nil =>
    intro s off xs _ _ hg hl
    cases s <;> simp [goodFs] at hg
    exact ⟨.ls [], by simp only [Rd]; apply List.drop_eq_nil_of_le; simp [Sh.size] at hl; omega, rfl⟩
  | cons f fs ihf =>
    intro s off xs hxl hx hg hl
    cases s <;> simp [goodFs] at hg
    rename_i a b
    obtain ⟨h1, h2, h3, h4, h5⟩ := hg
    cases xs with
    | nil => simp at hxl
    | cons x xs =>
      have h0 := hx 0 f rfl
      simp only [List.getElem?_cons_zero] at h0
      rw [h1, h2] at h0
      obtain ⟨ca, r1, r2⟩ := ih _ _ _ _ _ h3 h0
      obtain ⟨cb, r3, r4⟩ := ihf b (off + a.size) xs (by simpa using hxl) (fun i g hg => by simpa using hx (i + 1) g (by simpa using hg)) h5 (by simp [Sh.size] at hl; omega)
      obtain ⟨l, rfl⟩ := r4.agg h4
      refine ⟨.ls (ca :: l), ⟨h4, (cs.drop off).take a.size, cs.drop (off + a.size), ?_, r1, r3⟩, ca, l, rfl, r2, r4⟩
      rw [← List.drop_drop, List.take_append_drop]
theorem trod_rd : ∀ (n : Nat) (t : TypeId) (s : Sh) (cs : List Value) (fuel : Nat) (x : DataW H × List MemPlace),
    goodT P n t s = true → DataW.trod enc P w base sp held fuel t cs = some x → ∃ c, Rd w (fun _ => True) s cs c ∧ Ty s c := by
  intro n
  induction n with
  | zero => intro t s cs fuel x h; simp [goodT] at h
  | succ n ih =>
    intro t s cs fuel x hg ht
    unfold goodT at hg
    split at hg
    · rename_i hu
      obtain ⟨b, rfl, _⟩ := DataW.trod_bool hu ht
      exact ⟨.bool b, rfl, b, rfl⟩
    · rename_i k k' hu
      obtain ⟨m, rfl, _, hw⟩ := DataW.trod_int hu ht
      have := of_decide_eq_true hg
      subst this
      exact ⟨.int m, rfl, m, rfl, hw⟩
    · rename_i hu
      obtain ⟨str, rfl, _, hl⟩ := DataW.trod_string hu ht
      exact ⟨.str str.data.toList, by simp [Rd], _, rfl, by simpa using hl⟩
    · rename_i e s hu
      simp at hg
      obtain ⟨h1, h2, h3⟩ := hg
      rcases DataW.trod_slice hu ht with ⟨rfl, _⟩ | ⟨a, len, cap, elems, rest, m, _, rfl, _, _, hl, hm, hlen, hel, _, _⟩
      · exact ⟨.ls [], ⟨none, 0, rfl, by simp, by simp [maxLen], by simp⟩, [], rfl, by simp, by simp⟩
      · by_cases hz : len = 0
        · subst hz
          exact ⟨.ls [], ⟨some a, cap, rfl, by simp, hm, by simp⟩, [], rfl, by simp, by simp⟩
        obtain ⟨b, off, spot⟩ := a
        have cellsOk : ∀ i, i < len → ∃ us c, w.cells? base (Addr.add ⟨b, off, spot⟩ (i * s.size)) s.size = some us ∧ Rd w (fun _ => True) s us c ∧ Ty s c := by
          intro i hi
          have h4 := hel i hi
          rw [List.getElem?_eq_getElem (by omega), Option.bind_eq_some_iff] at h4
          obtain ⟨us, h5, h6⟩ := h4
          obtain ⟨c, r1, r2⟩ := ih _ _ _ _ _ h3 h6
          exact ⟨us, c, by rw [← h1]; exact h5, r1, r2⟩
        have hsp : spot = none ∧ b < w.heap.size := by
          obtain ⟨us, c, h5, _⟩ := cellsOk 0 (by omega)
          obtain ⟨_, h7, h8⟩ := World.cells?_some h5
          have h9 := h8 0 (by omega)
          rw [List.getElem?_eq_getElem (by omega)] at h9
          simp [Addr.add] at h9
          refine ⟨by simpa using World.cell?_spot h9, ?_⟩
          have hnn : w.heap[b]? ≠ none := by
            intro hn
            simp [World.cell?, hn] at h9
          exact Nat.lt_of_not_le fun hle => hnn (by simpa using hle)
        obtain ⟨rfl, hlt⟩ := hsp
        have each : ∀ i, i < len → ∃ c, ((∃ us, us.length = s.size ∧ CellsAt w b (off + i * s.size) us ∧ Rd w (fun _ => True) s us c) ∧ Ty s c) := by
          intro i hi
          obtain ⟨us, c, h5, r1, r2⟩ := cellsOk i hi
          obtain ⟨_, h7, h8⟩ := World.cells?_some h5
          refine ⟨c, ⟨us, h7, fun j u hj => ?_, r1⟩, r2⟩
          have hj' : j < s.size := by
            have := (List.getElem?_eq_some_iff.1 hj).1
            omega
          have h9 := h8 j hj'
          rw [hj] at h9
          have ea : ∀ (o k : Nat), Addr.add ⟨b, o, none⟩ k = ⟨b, o + k, none⟩ := by
            intro o k
            simp only [Addr.add]
            split <;> simp_all
          rw [ea, ea] at h9
          exact h9
        obtain ⟨l, l1, l2⟩ := pick len each
        refine ⟨.ls l, ⟨some ⟨b, off, none⟩, cap, by simp only [C.toList_ls, l1], by simp only [C.toList_ls, l1]; exact hl, hm, fun _ => ⟨b, off, rfl, trivial, hlt, fun i c hi => (l2 i c hi).1⟩⟩, l, rfl, by omega, fun c hc => ?_⟩
        obtain ⟨i, hi⟩ := List.getElem?_of_mem hc
        exact (l2 i c hi).2
    · rename_i fs hu
      simp at hg
      obtain ⟨h0, h1, h2⟩ := hg
      obtain ⟨xs, m, _, _, h3, h4, h5⟩ := DataW.trod_struct hu ht
      have := fields_rd ih fs.toList _ 0 xs (by simpa using h4) (fun i f hf => h5 i f (by simpa using hf)) h2 (by omega)
      simpa using this
    · cases hg
theorem rdv_of {r : Reach} {b0 n : Nat} {t : TypeId} {s : Sh} {v : Value} {d : DataW H} {ps : List MemPlace} (hg : goodT P n t s = true) (hv : Value.okWide P w r b0 t v)
    (hd : DataW.Trod enc P w base sp held t v d ps) : ∃ c, RdV w (fun _ => True) s v c ∧ Ty s c := by
  obtain ⟨fuel, hf⟩ := hd
  obtain ⟨c, r1, r2⟩ := trod_rd n t s _ _ _ hg hf
  refine ⟨c, ⟨_, r1, ?_⟩, r2⟩
  cases n with
  | zero => simp [goodT] at hg
  | succ n =>
    unfold goodT at hg
    split at hg
    · rename_i hu; obtain ⟨_, rfl⟩ := okWide_bool hu hv; rfl
    · rename_i hu; obtain ⟨_, rfl⟩ := okWide_int hu hv; rfl
    · rename_i hu; obtain ⟨_, rfl⟩ := okWide_string hu hv; rfl
    · rename_i hu; obtain ⟨_, _, _, rfl⟩ := okWide_slice hu hv; rfl
    · rename_i hu
      obtain ⟨cs, rfl, _⟩ := okWide_struct hu hv
      simp at hg
      simp [Sh.mk, hg.1, Value.cells]
    · cases hg
def goodTs (P : Program) (n : Nat) : List TypeId → List Sh → Bool
  | [], [] => true
  | t :: ts, s :: l => goodT P n t s && goodTs P n ts l
  | _, _ => false
theorem rdvs_of {r : Reach} {b0 n : Nat} : ∀ {ts : List TypeId} {shs : List Sh} {vs : List Value} {ds : List (DataW H)} {ps : List MemPlace},
    goodTs P n ts shs = true → (∀ (j : Nat) t v, ts[j]? = some t → vs[j]? = some v → Value.okWide P w r b0 t v) → DataW.TrodAll enc P w base sp held ts vs ds ps →
    ∃ cs, RdVs w (fun _ => True) (shs.zip cs) vs ∧ TyAll shs cs
  | [], [], vs, ds, ps, _, _, h => by
    cases vs with
    | nil => exact ⟨[], rfl, rfl⟩
    | cons _ _ => simp [DataW.TrodAll] at h
  | t :: ts, s :: l, vs, ds, ps, hg, hv, h => by
    cases vs with
    | nil => simp [DataW.TrodAll] at h
    | cons v vs =>
      cases ds with
      | nil => simp [DataW.TrodAll] at h
      | cons d ds =>
        obtain ⟨p, q, h1, h2, _⟩ := h
        simp [goodTs] at hg
        obtain ⟨c, r1, r2⟩ := rdv_of hg.1 (hv 0 t v rfl rfl) h1
        obtain ⟨cs, r3, r4⟩ := rdvs_of hg.2 (fun j t' v' ht' hv' => hv (j + 1) t' v' (by simpa using ht') (by simpa using hv')) h2
        exact ⟨c :: cs, ⟨v, vs, rfl, r1, r3⟩, c, cs, rfl, r2, r4⟩
  | [], _ :: _, _, _, _, h, _, _ | _ :: _, [], _, _, _, h, _, _ => by simp [goodTs] at h
theorem args_stay (hl : laidOutB P = true) {W W' : World} (hb : Below W.heap.size W W') : ∀ {ts : List TypeId} {vs : List Value} {ds : List (DataW H)} {ps : List MemPlace},
    (ts.all fun t => P.readableRec t && decide (t < P.types.size)) = true → DataW.TrodAll enc P W 0 (fun _ => true) true ts vs ds ps →
    DataW.TrodAll enc P W' 0 (fun b => decide (b < W.heap.size)) true ts vs ds ps
  | [], [], [], _, _, h => h
  | t :: ts, v :: vs, d :: ds, ps, hr, ⟨p, q, h1, h2, h3⟩ => by
    simp at hr
    have lt : ∀ x ∈ p, x.block < W.heap.size := by
      obtain ⟨m, hm⟩ := h1
      exact DataW.trod_lt m _ _ _ hm
    exact ⟨p, q, Below.trod hl hr.1.1 hr.1.2 h1 hb lt, args_stay hl hb (by simpa using hr.2) h2, h3⟩
  | [], [], _ :: _, _, _, h | [], _ :: _, _, _, _, h | _ :: _, [], _, _, _, h | _ :: _, _ :: _, [], _, _, h => by simp [DataW.TrodAll] at h
end
theorem trodAll_len {H : Type} {enc : TypeId × Value → H} {P : Program} {w : World} {base : Nat} {sp : Nat → Bool} {held : Bool} : ∀ {ts : List TypeId} {vs : List Value} {ds : List (DataW H)} {ps : List MemPlace},
    DataW.TrodAll enc P w base sp held ts vs ds ps → ds.length = ts.length
  | [], [], [], _, _ => rfl
  | _ :: _, _ :: _, _ :: _, _, ⟨_, _, _, h, _⟩ => by simp [trodAll_len h]
  | [], [], _ :: _, _, h | [], _ :: _, _, _, h | _ :: _, [], _, _, h | _ :: _, _ :: _, [], _, h => by simp [DataW.TrodAll] at h
/-- A LAW's ROW, its step: for every data of its shapes the contract says 'true'. -/
theorem lifted {H : Type} {enc : TypeId × Value → H} {C : Checked} {os : Os} {f : FuncId} {fn : Func} {s : ChangeSpec} {conds : List PathCond} (hlt : f < 1000000) (own : ownKnob C.prog.godebug = none) (laidOut : laidOutB C.prog = true)
    (started : os.Started) (noInit : C.prog.inits.idxOf? f = none) (hfn : C.prog.funcs[f]? = some fn)
    (witness : ∃ (w : World) (tape : Tape) (i : Input), w.os = os ∧ (w.forCall tape i).Shaped C.prog ∧ i.vars = [] ∧ Input.okWide C.prog (w.forCall tape i) .any w.heap.size f i ∧
      s.pre6 enc C.prog fn conds false (w.forCall tape i).memory i.args ∧ ({} : Assume).holds C.prog (lone (Frame.enter C.prog f i.args .normal) [] (w.forCall tape i)))
    {shs : List Sh} (hgood : goodTs C.prog 6 fn.params.toList shs = true) (hread : (fn.params.toList.all fun t => C.prog.readableRec t && decide (t < C.prog.types.size)) = true)
    {tb : TypeId} (hres : fn.resultTypes = #[tb]) (hbool : C.prog.underlying tb = some .bool) (hvars : s.vars = [])
    (hspec : ∀ (ds : List (DataW H)), ds.length = fn.params.size → s.fn H ds = { results := [.lit (.bool true)], args := ds })
    (hpc : ∀ cs, TyAll shs cs → PC C.prog f (shs.zip cs) [(.bool, .bool true)]) :
    ReturnsInHanded {} C os f .any (s.pre6 enc C.prog fn conds false) (s.post enc C.prog fn false true false false) := by
  refine returnsInHanded_of_change own started noInit hfn witness ?_
  intro W base args ds gs before hval hW hcnd _
  have hW' := hW
  obtain ⟨p, q, hA, hV, rfl, hfz, hnd⟩ := hW
  rw [hvars] at hV
  obtain ⟨rfl, rfl⟩ := trodVars_none hV
  obtain ⟨cs, r1, r2⟩ := rdvs_of hgood (fun j t v ht hv => hval j t v (by simpa using ht) (by simpa using hv)) hA
  have hlen := trodAll_len hA
  have hcall := ((hpc cs r2).to0 hlt).2 W _ args.toList r1
  simp only [Array.toArray_toList] at hcall
  refine hcall.mono fun e W' ⟨v, he, hv, bel⟩ => ?_
  subst he
  obtain ⟨vs, hvs, hv⟩ := hv
  obtain ⟨u, r, rfl, ⟨us, hu, rfl⟩, hr⟩ := hvs
  simp only [RdVs] at hr
  subst hr
  simp only [Rd] at hu
  subst hu
  simp [Sh.mk, Sh.isAgg] at hv
  subst hv
  have hsp := hspec (ds ++ []) (by simpa using hlen)
  refine ⟨_, rfl, ds, [], _, [], p, [], hW', ?_, ?_, ?_, bel.frame _, fun h => by cases h⟩
  · rw [hsp, hres]
    exact trodAll_mk1 (shut_bool hbool _)
  · rw [hsp]
    simp only [List.append_nil]
    exact args_stay laidOut bel hread hA
  · rw [hsp, hvars]
    rfl
end Go.Vc
