/-
  My own general texts, one behind the other: a generator of conditions over the model, with its proof, and plain lemmas. No condition on the program.
-/
import Derived.Test.YtodhgafhllbojaaDoorQBase3
import Derived.ProofKit
import Derived.OpenShut
import Derived.ShutString
import Derived.ChangeOld
import Derived.Below
import Derived.LaidLaws
import Derived.Lay
import Derived.Lib.LaidU8
import Derived.Stop.Joined

/-
  Part Z: what a row's arguments read as is data of the parameters' shapes; a law's row out of the contract of its function.
-/
namespace Go.Vc
open Go.ChangeShapes Go.WideShapes Go.ChangeAt Go.RowKit

/-- Data of a shape: integers fit, lengths are lengths. -/
def Ty : Sh → C → Prop
  | .int k, c => ∃ n, c = .int n ∧ (Lit.int k n).wf = true
  | .bool, c => ∃ b, c = .bool b
  | .str, c => ∃ s, c = .str s ∧ s.length ≤ maxLen
  | .sl e, c => ∃ l, c = .ls l ∧ l.length ≤ maxLen ∧ ∀ x ∈ l, Ty e x
  | .unit, c => c = .ls []
  | .pair a b, c => ∃ x l, c = .ls (x :: l) ∧ Ty a x ∧ Ty b (.ls l)
  | _, _ => False
theorem lit_wf {k : IntKind} {n : Int} : (Lit.int k n).wf = true ↔ k.min ≤ n ∧ n ≤ k.max := by
  simp [Lit.wf]
def TyAll : List Sh → List C → Prop
  | [], cs => cs = []
  | s :: l, cs => ∃ c r, cs = c :: r ∧ Ty s c ∧ TyAll l r
theorem ty_int {k : IntKind} {c : C} (h : Ty (.int k) c) : ∃ n : Int, c = .int n ∧ k.min ≤ n ∧ n ≤ k.max := by
  obtain ⟨n, h1, h2⟩ := h
  exact ⟨n, h1, lit_wf.1 h2⟩
theorem ty_nat {k : IntKind} (hs : k.signed = false) {c : C} (h : Ty (.int k) c) : ∃ n : Nat, c = .int n ∧ n < 2 ^ k.bits := by
  obtain ⟨n, rfl, h1, h2⟩ := ty_int h
  refine ⟨n.toNat, ?_, ?_⟩
  · cases k <;> simp [IntKind.signed] at hs <;> simp [IntKind.min, IntKind.signed] at h1 <;> congr 1 <;> omega
  · cases k <;> simp [IntKind.signed] at hs <;> simp [IntKind.min, IntKind.max, IntKind.signed, IntKind.bits] at h1 h2 ⊢ <;> omega
theorem ty_bytes {c : C} (h : Ty (.sl (.int .u8)) c) : ∃ b : List UInt8, c = .ls (ofBytes b) := by
  obtain ⟨l, rfl, _, hl⟩ := h
  refine ⟨l.map fun c => UInt8.ofNat c.toInt.toNat, ?_⟩
  congr 1
  simp only [ofBytes, List.map_map]
  conv => lhs; rw [← List.map_id l]
  apply List.map_congr_left
  intro c hc
  obtain ⟨n, rfl, hn⟩ := ty_nat rfl (hl c hc)
  simp only [Function.comp, id, C.toInt_int, Int.toNat_natCast, UInt8.toNat_ofNat']
  simp [IntKind.bits] at hn
  congr 1
  omega
def goodFs (P : Program) (R : TypeId → Sh → Bool) : List Field → Sh → Nat → Bool
  | [], .unit, _ => true
  | f :: fs, .pair a b, off => f.offset == off && (P.cellsOf f.type == a.size && (R f.type a && (b.isAgg && goodFs P R fs b (off + a.size))))
  | _, _, _ => false
/-- The type's values read as data of the shape. -/
def goodT (P : Program) : Nat → TypeId → Sh → Bool
  | 0, _, _ => false
  | n + 1, t, s => match P.underlying t, s with
    | some .bool, .bool => true
    | some (.int k), .int k' => decide (k = k')
    | some .string, .str => true
    | some (.slice e), .sl s => P.cellsOf e == s.size && (s.size != 0 && goodT P n e s)
    | some (.struct fs), s => s.isAgg && (P.cellsOf t == s.size && goodFs P (goodT P n) fs.toList s 0)
    | _, _ => false
theorem Ty.agg {s : Sh} {c : C} (hs : s.isAgg = true) (h : Ty s c) : ∃ l, c = .ls l := by
  cases s with
  | unit => exact ⟨[], h⟩
  | pair a b => obtain ⟨x, l, h, _⟩ := h; exact ⟨_, h⟩
  | _ => cases hs
theorem pick {Q : Nat → C → Prop} : ∀ n : Nat, (∀ i, i < n → ∃ c, Q i c) → ∃ l : List C, l.length = n ∧ ∀ i c, l[i]? = some c → Q i c
  | 0, _ => ⟨[], rfl, fun i c h => by simp at h⟩
  | n + 1, h => by
    obtain ⟨l, h1, h2⟩ := pick n fun i hi => h i (by omega)
    obtain ⟨c, hc⟩ := h n (by omega)
    refine ⟨l ++ [c], by simp [h1], fun i c' hi => ?_⟩
    by_cases hl : i < n
    · rw [List.getElem?_append_left (by omega)] at hi
      exact h2 i c' hi
    · have : i = n := by
        have := (List.getElem?_eq_some_iff.1 hi).1
        simp at this
        omega
      subst this
      rw [List.getElem?_append_right (by omega), h1] at hi
      simp at hi
      exact hi ▸ hc
section
variable {H : Type} {enc : TypeId × Value → H} {P : Program} {w : World} {base : Nat} {sp : Nat → Bool} {held : Bool}
theorem fields_rd {n m : Nat} (ih : ∀ t s cs fuel x, goodT P n t s = true → DataW.trod enc P w base sp held fuel t cs = some x → ∃ c, Rd w (fun _ => True) s cs c ∧ Ty s c)
    {cs : List Value} : ∀ (fs : List Field) (s : Sh) (off : Nat) (xs : List (DataW H × List MemPlace)), xs.length = fs.length →
      (∀ (i : Nat) (f : Field), fs[i]? = some f → DataW.trod enc P w base sp held m f.type ((cs.drop f.offset).take (P.cellsOf f.type)) = xs[i]?) →
      goodFs P (goodT P n) fs s off = true → cs.length = off + s.size → ∃ c, Rd w (fun _ => True) s (cs.drop off) c ∧ Ty s c := by
  intro fs
  induction fs with
  | nil =>
    intro s off xs _ _ hg hl
    cases s <;> simp [goodFs] at hg
    exact ⟨.ls [], by simp only [Rd]; apply List.drop_eq_nil_of_le; simp [Sh.size] at hl; omega, rfl⟩
  | cons f fs ihf =>
    intro s off xs hxl hx hg hl
    cases s <;> simp [goodFs] at hg
    rename_i a b
    obtain ⟨h1, h2, h3, h4, h5⟩ := hg
    cases xs with
    | nil => simp at hxl
    | cons x xs =>
      have h0 := hx 0 f rfl
      simp only [List.getElem?_cons_zero] at h0
      rw [h1, h2] at h0
      obtain ⟨ca, r1, r2⟩ := ih _ _ _ _ _ h3 h0
      obtain ⟨cb, r3, r4⟩ := ihf b (off + a.size) xs (by simpa using hxl) (fun i g hg => by simpa using hx (i + 1) g (by simpa using hg)) h5 (by simp [Sh.size] at hl; omega)
      obtain ⟨l, rfl⟩ := r4.agg h4
      refine ⟨.ls (ca :: l), ⟨h4, (cs.drop off).take a.size, cs.drop (off + a.size), ?_, r1, r3⟩, ca, l, rfl, r2, r4⟩
      rw [← List.drop_drop, List.take_append_drop]
theorem trod_rd : ∀ (n : Nat) (t : TypeId) (s : Sh) (cs : List Value) (fuel : Nat) (x : DataW H × List MemPlace),
    goodT P n t s = true → DataW.trod enc P w base sp held fuel t cs = some x → ∃ c, Rd w (fun _ => True) s cs c ∧ Ty s c := by
  intro n
  induction n with
  | zero => intro t s cs fuel x h; simp [goodT] at h
  | succ n ih =>
    intro t s cs fuel x hg ht
    unfold goodT at hg
    split at hg
    · rename_i hu
      obtain ⟨b, rfl, _⟩ := DataW.trod_bool hu ht
      exact ⟨.bool b, rfl, b, rfl⟩
    · rename_i k k' hu
      obtain ⟨m, rfl, _, hw⟩ := DataW.trod_int hu ht
      have := of_decide_eq_true hg
      subst this
      exact ⟨.int m, rfl, m, rfl, hw⟩
    · rename_i hu
      obtain ⟨str, rfl, _, hl⟩ := DataW.trod_string hu ht
      exact ⟨.str str.data.toList, by simp [Rd], _, rfl, by simpa using hl⟩
    · rename_i e s hu
      simp at hg
      obtain ⟨h1, h2, h3⟩ := hg
      rcases DataW.trod_slice hu ht with ⟨rfl, _⟩ | ⟨a, len, cap, elems, rest, m, _, rfl, _, _, hl, hm, hlen, hel, _, _⟩
      · exact ⟨.ls [], ⟨none, 0, rfl, by simp, by simp [maxLen], by simp⟩, [], rfl, by simp, by simp⟩
      · by_cases hz : len = 0
        · subst hz
          exact ⟨.ls [], ⟨some a, cap, rfl, by simp, hm, by simp⟩, [], rfl, by simp, by simp⟩
        obtain ⟨b, off, spot⟩ := a
        have cellsOk : ∀ i, i < len → ∃ us c, w.cells? base (Addr.add ⟨b, off, spot⟩ (i * s.size)) s.size = some us ∧ Rd w (fun _ => True) s us c ∧ Ty s c := by
          intro i hi
          have h4 := hel i hi
          rw [List.getElem?_eq_getElem (by omega), Option.bind_eq_some_iff] at h4
          obtain ⟨us, h5, h6⟩ := h4
          obtain ⟨c, r1, r2⟩ := ih _ _ _ _ _ h3 h6
          exact ⟨us, c, by rw [← h1]; exact h5, r1, r2⟩
        have hsp : spot = none ∧ b < w.heap.size := by
          obtain ⟨us, c, h5, _⟩ := cellsOk 0 (by omega)
          obtain ⟨_, h7, h8⟩ := World.cells?_some h5
          have h9 := h8 0 (by omega)
          rw [List.getElem?_eq_getElem (by omega)] at h9
          simp [Addr.add] at h9
          refine ⟨by simpa using World.cell?_spot h9, ?_⟩
          have hnn : w.heap[b]? ≠ none := by
            intro hn
            simp [World.cell?, hn] at h9
          exact Nat.lt_of_not_le fun hle => hnn (by simpa using hle)
        obtain ⟨rfl, hlt⟩ := hsp
        have each : ∀ i, i < len → ∃ c, ((∃ us, us.length = s.size ∧ CellsAt w b (off + i * s.size) us ∧ Rd w (fun _ => True) s us c) ∧ Ty s c) := by
          intro i hi
          obtain ⟨us, c, h5, r1, r2⟩ := cellsOk i hi
          obtain ⟨_, h7, h8⟩ := World.cells?_some h5
          refine ⟨c, ⟨us, h7, fun j u hj => ?_, r1⟩, r2⟩
          have hj' : j < s.size := by
            have := (List.getElem?_eq_some_iff.1 hj).1
            omega
          have h9 := h8 j hj'
          rw [hj] at h9
          have ea : ∀ (o k : Nat), Addr.add ⟨b, o, none⟩ k = ⟨b, o + k, none⟩ := by
            intro o k
            simp only [Addr.add]
            split <;> simp_all
          rw [ea, ea] at h9
          exact h9
        obtain ⟨l, l1, l2⟩ := pick len each
        refine ⟨.ls l, ⟨some ⟨b, off, none⟩, cap, by simp only [C.toList_ls, l1], by simp only [C.toList_ls, l1]; exact hl, hm, fun _ => ⟨b, off, rfl, trivial, hlt, fun i c hi => (l2 i c hi).1⟩⟩, l, rfl, by omega, fun c hc => ?_⟩
        obtain ⟨i, hi⟩ := List.getElem?_of_mem hc
        exact (l2 i c hi).2
    · rename_i fs hu
      simp at hg
      obtain ⟨h0, h1, h2⟩ := hg
      obtain ⟨xs, m, _, _, h3, h4, h5⟩ := DataW.trod_struct hu ht
      have := fields_rd ih fs.toList _ 0 xs (by simpa using h4) (fun i f hf => h5 i f (by simpa using hf)) h2 (by omega)
      simpa using this
    · cases hg
theorem rdv_of {r : Reach} {b0 n : Nat} {t : TypeId} {s : Sh} {v : Value} {d : DataW H} {ps : List MemPlace} (hg : goodT P n t s = true) (hv : Value.okWide P w r b0 t v)
    (hd : DataW.Trod enc P w base sp held t v d ps) : ∃ c, RdV w (fun _ => True) s v c ∧ Ty s c := by
  obtain ⟨fuel, hf⟩ := hd
  obtain ⟨c, r1, r2⟩ := trod_rd n t s _ _ _ hg hf
  refine ⟨c, ⟨_, r1, ?_⟩, r2⟩
  cases n with
  | zero => simp [goodT] at hg
  | succ n =>
    unfold goodT at hg
    split at hg
    · rename_i hu; obtain ⟨_, rfl⟩ := okWide_bool hu hv; rfl
    · rename_i hu; obtain ⟨_, rfl⟩ := okWide_int hu hv; rfl
    · rename_i hu; obtain ⟨_, rfl⟩ := okWide_string hu hv; rfl
    · rename_i hu; obtain ⟨_, _, _, rfl⟩ := okWide_slice hu hv; rfl
    · rename_i hu
      obtain ⟨cs, rfl, _⟩ := okWide_struct hu hv
      simp at hg
      simp [Sh.mk, hg.1, Value.cells]
    · cases hg
def goodTs (P : Program) (n : Nat) : List TypeId → List Sh → Bool
  | [], [] => true
  | t :: ts, s :: l => goodT P n t s && goodTs P n ts l
  | _, _ => false
theorem rdvs_of {r : Reach} {b0 n : Nat} : ∀ {ts : List TypeId} {shs : List Sh} {vs : List Value} {ds : List (DataW H)} {ps : List MemPlace},
    goodTs P n ts shs = true → (∀ (j : Nat) t v, ts[j]? = some t → vs[j]? = some v → Value.okWide P w r b0 t v) → DataW.TrodAll enc P w base sp held ts vs ds ps →
    ∃ cs, RdVs w (fun _ => True) (shs.zip cs) vs ∧ TyAll shs cs
  | [], [], vs, ds, ps, _, _, h => by
    cases vs with
    | nil => exact ⟨[], rfl, rfl⟩
    | cons _ _ => simp [DataW.TrodAll] at h
  | t :: ts, s :: l, vs, ds, ps, hg, hv, h => by
    cases vs with
    | nil => simp [DataW.TrodAll] at h
    | cons v vs =>
      cases ds with
      | nil => simp [DataW.TrodAll] at h
      | cons d ds =>
        obtain ⟨p, q, h1, h2, _⟩ := h
        simp [goodTs] at hg
        obtain ⟨c, r1, r2⟩ := rdv_of hg.1 (hv 0 t v rfl rfl) h1
        obtain ⟨cs, r3, r4⟩ := rdvs_of hg.2 (fun j t' v' ht' hv' => hv (j + 1) t' v' (by simpa using ht') (by simpa using hv')) h2
        exact ⟨c :: cs, ⟨v, vs, rfl, r1, r3⟩, c, cs, rfl, r2, r4⟩
  | [], _ :: _, _, _, _, h, _, _ | _ :: _, [], _, _, _, h, _, _ => by simp [goodTs] at h
theorem args_stay (hl : laidOutB P = true) {W W' : World} (hb : Below W.heap.size W W') : ∀ {ts : List TypeId} {vs : List Value} {ds : List (DataW H)} {ps : List MemPlace},
    (ts.all fun t => P.readableRec t && decide (t < P.types.size)) = true → DataW.TrodAll enc P W 0 (fun _ => true) true ts vs ds ps →
    DataW.TrodAll enc P W' 0 (fun b => decide (b < W.heap.size)) true ts vs ds ps
  | [], [], [], _, _, h => h
  | t :: ts, v :: vs, d :: ds, ps, hr, ⟨p, q, h1, h2, h3⟩ => by
    simp at hr
    have lt : ∀ x ∈ p, x.block < W.heap.size := by
      obtain ⟨m, hm⟩ := h1
      exact DataW.trod_lt m _ _ _ hm
    exact ⟨p, q, Below.trod hl hr.1.1 hr.1.2 h1 hb lt, args_stay hl hb (by simpa using hr.2) h2, h3⟩
  | [], [], _ :: _, _, _, h | [], _ :: _, _, _, _, h | _ :: _, [], _, _, _, h | _ :: _, _ :: _, [], _, _, h => by simp [DataW.TrodAll] at h
end
theorem trodAll_len {H : Type} {enc : TypeId × Value → H} {P : Program} {w : World} {base : Nat} {sp : Nat → Bool} {held : Bool} : ∀ {ts : List TypeId} {vs : List Value} {ds : List (DataW H)} {ps : List MemPlace},
    DataW.TrodAll enc P w base sp held ts vs ds ps → ds.length = ts.length
  | [], [], [], _, _ => rfl
  | _ :: _, _ :: _, _ :: _, _, ⟨_, _, _, h, _⟩ => by simp [trodAll_len h]
  | [], [], _ :: _, _, h | [], _ :: _, _, _, h | _ :: _, [], _, _, h | _ :: _, _ :: _, [], _, h => by simp [DataW.TrodAll] at h
/-- A LAW's ROW, its step: for every data of its shapes the contract says 'true'. -/
theorem lifted {H : Type} {enc : TypeId × Value → H} {C : Checked} {os : Os} {f : FuncId} {fn : Func} {s : ChangeSpec} {conds : List PathCond} (hlt : f < 1000000) (hkw : noTabs C.prog = true) (own : ownKnob C.prog.godebug = none) (laidOut : laidOutB C.prog = true)
    (started : os.Started) (noInit : C.prog.inits.idxOf? f = none) (hfn : C.prog.funcs[f]? = some fn)
    (witness : ∃ (w : World) (tape : Tape) (i : Input), w.os = os ∧ (w.forCall tape i).Shaped C.prog ∧ i.vars = [] ∧ Input.okWide C.prog (w.forCall tape i) .any w.heap.size f i ∧
      s.pre6 enc C.prog fn conds false (w.forCall tape i).memory i.args ∧ ({} : Assume).holds C.prog (lone (Frame.enter C.prog f i.args .normal) [] (w.forCall tape i)))
    {shs : List Sh} (hgood : goodTs C.prog 6 fn.params.toList shs = true) (hread : (fn.params.toList.all fun t => C.prog.readableRec t && decide (t < C.prog.types.size)) = true)
    {tb : TypeId} (hres : fn.resultTypes = #[tb]) (hbool : C.prog.underlying tb = some .bool) (hvars : s.vars = [])
    (hspec : ∀ (ds : List (DataW H)), ds.length = fn.params.size → s.fn H ds = { results := [.lit (.bool true)], args := ds })
    (hpc : ∀ cs, TyAll shs cs → PC C.prog f (shs.zip cs) [(.bool, .bool true)]) :
    ReturnsInHanded {} C os f .any (s.pre6 enc C.prog fn conds false) (s.post enc C.prog fn false true false false) := by
  refine returnsInHanded_of_change own started noInit hfn witness ?_
  intro W base args ds gs before hval hW hcnd _
  have hW' := hW
  obtain ⟨p, q, hA, hV, rfl, hfz, hnd⟩ := hW
  rw [hvars] at hV
  obtain ⟨rfl, rfl⟩ := trodVars_none hV
  obtain ⟨cs, r1, r2⟩ := rdvs_of hgood (fun j t v ht hv => hval j t v (by simpa using ht) (by simpa using hv)) hA
  have hlen := trodAll_len hA
  have hcall := ((hpc cs r2).to0 hlt).2 W _ args.toList (kw_none hkw W) r1
  simp only [Array.toArray_toList] at hcall
  refine hcall.mono fun e W' ⟨v, he, hv, bel⟩ => ?_
  subst he
  obtain ⟨vs, hvs, hv⟩ := hv
  obtain ⟨u, r, rfl, ⟨us, hu, rfl⟩, hr⟩ := hvs
  simp only [RdVs] at hr
  subst hr
  simp only [Rd] at hu
  subst hu
  simp [Sh.mk, Sh.isAgg] at hv
  subst hv
  have hsp := hspec (ds ++ []) (by simpa using hlen)
  refine ⟨_, rfl, ds, [], _, [], p, [], hW', ?_, ?_, ?_, bel.frame _, fun h => by cases h⟩
  · rw [hsp, hres]
    exact trodAll_mk1 (shut_bool hbool _)
  · rw [hsp]
    simp only [List.append_nil]
    exact args_stay laidOut bel hread hA
  · rw [hsp, hvars]
    rfl
end Go.Vc

/-
  Part Z2: a law's row that lists variables with what they hold, out of the contract of its function.
-/
namespace Go.Vc
open Go.ChangeShapes Go.WideShapes Go.ChangeAt Go.RowKit
/-- A LAW's ROW THAT LISTS VARIABLES ('laid'), its step: for every data of its shapes the contract says 'true'. -/
theorem lifted2 {H : Type} {enc : TypeId × Value → H} {C : Checked} {os : Os} {f : FuncId} {fn : Func} {s : ChangeSpec} {conds : List PathCond} {laid : List (String × DataW Unit)} (hlt : f < 1000000) (hkw : ∀ W : World, laidMetH C.prog laid W → KW C.prog W) (own : ownKnob C.prog.godebug = none) (laidOut : laidOutB C.prog = true)
    (started : os.Started) (noInit : C.prog.inits.idxOf? f = none) (hfn : C.prog.funcs[f]? = some fn)
    (witness : ∃ (w : World) (tape : Tape) (i : Input), w.os = os ∧ (w.forCall tape i).Shaped C.prog ∧ i.vars = [] ∧ Input.okWide C.prog (w.forCall tape i) .any w.heap.size f i ∧
      ((s.pre enc C.prog fn conds false (w.forCall tape i).memory i.args ∧ laidMetH C.prog laid (w.forCall tape i).memory) ∧ sizedMet enc C.prog fn (OpenSpec.ofChange s) false (w.forCall tape i).memory i.args) ∧ ({} : Assume).holds C.prog (lone (Frame.enter C.prog f i.args .normal) [] (w.forCall tape i)))
    {shs : List Sh} (hgood : goodTs C.prog 6 fn.params.toList shs = true) (hread : (fn.params.toList.all fun t => C.prog.readableRec t && decide (t < C.prog.types.size)) = true)
    {tb : TypeId} (hres : fn.resultTypes = #[tb]) (hbool : C.prog.underlying tb = some .bool) (hvars : s.vars = [])
    (hspec : ∀ (ds : List (DataW H)), ds.length = fn.params.size → s.fn H ds = { results := [.lit (.bool true)], args := ds })
    (hpc : ∀ cs, TyAll shs cs → PC C.prog f (shs.zip cs) [(.bool, .bool true)]) :
    ReturnsInHanded {} C os f .any (fun w args => (s.pre enc C.prog fn conds false w args ∧ laidMetH C.prog laid w) ∧ sizedMet enc C.prog fn (OpenSpec.ofChange s) false w args) (s.post enc C.prog fn false true false false) := by
  refine returnsInHanded_of_change_and (X := fun w _ => laidMetH C.prog laid w) (fun _ _ _ hh h => h.of_heap hh) own started noInit hfn witness ?_
  intro W base args ds gs before hval hW hcnd _ hL _
  have hW' := hW
  obtain ⟨p, q, hA, hV, rfl, hfz, hnd⟩ := hW
  rw [hvars] at hV
  obtain ⟨rfl, rfl⟩ := trodVars_none hV
  obtain ⟨cs, r1, r2⟩ := rdvs_of hgood (fun j t v ht hv => hval j t v (by simpa using ht) (by simpa using hv)) hA
  have hlen := trodAll_len hA
  have hcall := ((hpc cs r2).to0 hlt).2 W _ args.toList (hkw W hL) r1
  simp only [Array.toArray_toList] at hcall
  refine hcall.mono fun e W' ⟨v, he, hv, bel⟩ => ?_
  subst he
  obtain ⟨vs, hvs, hv⟩ := hv
  obtain ⟨u, r, rfl, ⟨us, hu, rfl⟩, hr⟩ := hvs
  simp only [RdVs] at hr
  subst hr
  simp only [Rd] at hu
  subst hu
  simp [Sh.mk, Sh.isAgg] at hv
  subst hv
  have hsp := hspec (ds ++ []) (by simpa using hlen)
  refine ⟨_, rfl, ds, [], _, [], p, [], hW', ?_, ?_, ?_, bel.frame _, fun h => by cases h⟩
  · rw [hsp, hres]
    exact trodAll_mk1 (shut_bool hbool _)
  · rw [hsp]
    simp only [List.append_nil]
    exact args_stay laidOut bel hread hA
  · rw [hsp, hvars]
    rfl
end Go.Vc
