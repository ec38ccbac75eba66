/-
  Plain: both readers of a plan's words are good: the reader's groups, and the reference's; what they keep.
-/
import Derived.Test.YtodhgafhllbojaaDoorQYx
set_option maxRecDepth 100000
namespace Go.Vc
open Go Go.Proofs Go.Plain
open Go.Lib (decDigits nDigits)
theorem fold_ge : ∀ (w : List UInt8) (v : Nat), v ≤ w.foldl (fun n x => 10 * n + (x.toNat - 48)) v
  | [], v => Nat.le_refl _
  | x :: w, v => by
    have := fold_ge w (10 * v + (x.toNat - 48))
    rw [List.foldl_cons]
    omega
theorem numGo_digs (most : Nat) : ∀ (w : List UInt8) (v : Nat), w.all dig? = true → w.foldl (fun n x => 10 * n + (x.toNat - 48)) v ≤ most → numGo most (w.map ([·])) v = (w.foldl (fun n x => 10 * n + (x.toNat - 48)) v, false)
  | [], v, _, _ => rfl
  | x :: w, v, h, hm => by
    rw [List.all_cons, Bool.and_eq_true] at h
    have hd := of_decide_eq_true h.1
    rw [List.foldl_cons] at hm ⊢
    have := fold_ge w (10 * v + (x.toNat - 48))
    rw [List.map_cons, numGo_cons, dec_ascii x [] (by omega)]
    simp only
    rw [if_pos hd, if_neg (by omega)]
    exact numGo_digs most w _ h.2 hm
theorem chunks_digs {w : List UInt8} (h : w.all dig? = true) : chunks w = w.map ([·]) := by
  have := chunks_sgn w [] (List.all_eq_true.2 fun x hx => dig_sgn (List.all_eq_true.1 h x hx))
  rwa [List.append_nil, chunks_nil, List.append_nil] at this
theorem numR_num (most : Nat) (n : Int) (h0 : 0 ≤ n) (h : n ≤ most) : numR most (numI n) = (n.toNat, false) := by
  obtain ⟨h1, h2, _⟩ := dec_facts n.toNat
  unfold numR
  rw [chunks_digs h1]
  have := numGo_digs most (numI n) 0 h1 (by change valD (decDigits n.toNat) ≤ most; omega)
  rw [this]
  exact congrArg (·, false) h2
theorem valueR_num (n : Int) (h0 : 0 ≤ n) (h : n < 4294967296) : valueR (numI n) = (n.toNat, true) := by
  obtain ⟨h1, h2, _⟩ := dec_facts n.toNat
  obtain ⟨h3, h4⟩ := dec_len (n := n.toNat) (by omega)
  unfold valueR
  have hc : ¬ ((numI n).length = 0 ∨ (numI n).length > 10) := by
    change ¬ ((decDigits n.toNat).length = 0 ∨ (decDigits n.toNat).length > 10)
    omega
  rw [if_neg hc, h1, h2]
  simp only [if_true]
  rw [decide_eq_true (by omega)]
def grpS (p : Pl) (ws : Wds) : Option (Pl × Wds) := if (grpR p ws false).2.2 then none else some ((grpR p ws false).1, (grpR p ws false).2.1)
theorem grpS_of {p q : Pl} {ws r : Wds} (h : grpR p ws false = (q, r, false)) : grpS p ws = some (q, r) := by unfold grpS; rw [h]; rfl
def refS (p : Pl) (ws : Wds) : Option (Pl × Wds) :=
  let w := ws.headD []
  let r := ws.tail
  let x := r.headD []
  let y := r.tail.headD []
  let n := (valueR x).1
  if w = wNopad then some ({ p with np := true }, r)
  else if r = [] then none
  else if w = wMarker then some ({ p with sm := true, m := decide (x = wOn) }, r.tail)
  else if w = wType then some ({ p with st := true, ty := (n : Nat) }, r.tail)
  else if w = wSeq then some ({ p with sq := true, seq := ((n % 65536 : Nat) : Int) }, r.tail)
  else if w = wTime then some ({ p with stm := true, time := ((n % 4294967296 : Nat) : Int) }, r.tail)
  else if w = wSsrc then some ({ p with ss := true, ssrc := ((n % 4294967296 : Nat) : Int) }, r.tail)
  else if w = wDrop then some ({ p with drops := p.drops ++ [((n : Nat) : Int)] }, r.tail)
  else if r.tail = [] then none
  else if w = wMap then some ({ p with maps := p.maps ++ [⟨(n : Nat), ((valueR y).1 : Nat)⟩] }, r.tail.tail)
  else if w = wOver then if (valueR x).2 && (unqL y).isSome then some ({ p with over := p.over ++ [⟨(n : Nat), (unqL y).getD []⟩] }, r.tail.tail) else none
  else if w = wAdd then if (valueR x).2 && (unqL y).isSome then some ({ p with adds := p.adds ++ [⟨(n : Nat), (unqL y).getD []⟩] }, r.tail.tail) else none
  else none
theorem ne_wMarker_wType : ¬ wMarker = wType := by decide
theorem ne_wMarker_wSeq : ¬ wMarker = wSeq := by decide
theorem ne_wMarker_wTime : ¬ wMarker = wTime := by decide
theorem ne_wMarker_wSsrc : ¬ wMarker = wSsrc := by decide
theorem ne_wMarker_wMap : ¬ wMarker = wMap := by decide
theorem ne_wMarker_wOver : ¬ wMarker = wOver := by decide
theorem ne_wMarker_wDrop : ¬ wMarker = wDrop := by decide
theorem ne_wMarker_wAdd : ¬ wMarker = wAdd := by decide
theorem ne_wMarker_wNopad : ¬ wMarker = wNopad := by decide
theorem ne_wType_wMarker : ¬ wType = wMarker := by decide
theorem ne_wType_wSeq : ¬ wType = wSeq := by decide
theorem ne_wType_wTime : ¬ wType = wTime := by decide
theorem ne_wType_wSsrc : ¬ wType = wSsrc := by decide
theorem ne_wType_wMap : ¬ wType = wMap := by decide
theorem ne_wType_wOver : ¬ wType = wOver := by decide
theorem ne_wType_wDrop : ¬ wType = wDrop := by decide
theorem ne_wType_wAdd : ¬ wType = wAdd := by decide
theorem ne_wType_wNopad : ¬ wType = wNopad := by decide
theorem ne_wSeq_wMarker : ¬ wSeq = wMarker := by decide
theorem ne_wSeq_wType : ¬ wSeq = wType := by decide
theorem ne_wSeq_wTime : ¬ wSeq = wTime := by decide
theorem ne_wSeq_wSsrc : ¬ wSeq = wSsrc := by decide
theorem ne_wSeq_wMap : ¬ wSeq = wMap := by decide
theorem ne_wSeq_wOver : ¬ wSeq = wOver := by decide
theorem ne_wSeq_wDrop : ¬ wSeq = wDrop := by decide
theorem ne_wSeq_wAdd : ¬ wSeq = wAdd := by decide
theorem ne_wSeq_wNopad : ¬ wSeq = wNopad := by decide
theorem ne_wTime_wMarker : ¬ wTime = wMarker := by decide
theorem ne_wTime_wType : ¬ wTime = wType := by decide
theorem ne_wTime_wSeq : ¬ wTime = wSeq := by decide
theorem ne_wTime_wSsrc : ¬ wTime = wSsrc := by decide
theorem ne_wTime_wMap : ¬ wTime = wMap := by decide
theorem ne_wTime_wOver : ¬ wTime = wOver := by decide
theorem ne_wTime_wDrop : ¬ wTime = wDrop := by decide
theorem ne_wTime_wAdd : ¬ wTime = wAdd := by decide
theorem ne_wTime_wNopad : ¬ wTime = wNopad := by decide
theorem ne_wSsrc_wMarker : ¬ wSsrc = wMarker := by decide
theorem ne_wSsrc_wType : ¬ wSsrc = wType := by decide
theorem ne_wSsrc_wSeq : ¬ wSsrc = wSeq := by decide
theorem ne_wSsrc_wTime : ¬ wSsrc = wTime := by decide
theorem ne_wSsrc_wMap : ¬ wSsrc = wMap := by decide
theorem ne_wSsrc_wOver : ¬ wSsrc = wOver := by decide
theorem ne_wSsrc_wDrop : ¬ wSsrc = wDrop := by decide
theorem ne_wSsrc_wAdd : ¬ wSsrc = wAdd := by decide
theorem ne_wSsrc_wNopad : ¬ wSsrc = wNopad := by decide
theorem ne_wMap_wMarker : ¬ wMap = wMarker := by decide
theorem ne_wMap_wType : ¬ wMap = wType := by decide
theorem ne_wMap_wSeq : ¬ wMap = wSeq := by decide
theorem ne_wMap_wTime : ¬ wMap = wTime := by decide
theorem ne_wMap_wSsrc : ¬ wMap = wSsrc := by decide
theorem ne_wMap_wOver : ¬ wMap = wOver := by decide
theorem ne_wMap_wDrop : ¬ wMap = wDrop := by decide
theorem ne_wMap_wAdd : ¬ wMap = wAdd := by decide
theorem ne_wMap_wNopad : ¬ wMap = wNopad := by decide
theorem ne_wOver_wMarker : ¬ wOver = wMarker := by decide
theorem ne_wOver_wType : ¬ wOver = wType := by decide
theorem ne_wOver_wSeq : ¬ wOver = wSeq := by decide
theorem ne_wOver_wTime : ¬ wOver = wTime := by decide
theorem ne_wOver_wSsrc : ¬ wOver = wSsrc := by decide
theorem ne_wOver_wMap : ¬ wOver = wMap := by decide
theorem ne_wOver_wDrop : ¬ wOver = wDrop := by decide
theorem ne_wOver_wAdd : ¬ wOver = wAdd := by decide
theorem ne_wOver_wNopad : ¬ wOver = wNopad := by decide
theorem ne_wDrop_wMarker : ¬ wDrop = wMarker := by decide
theorem ne_wDrop_wType : ¬ wDrop = wType := by decide
theorem ne_wDrop_wSeq : ¬ wDrop = wSeq := by decide
theorem ne_wDrop_wTime : ¬ wDrop = wTime := by decide
theorem ne_wDrop_wSsrc : ¬ wDrop = wSsrc := by decide
theorem ne_wDrop_wMap : ¬ wDrop = wMap := by decide
theorem ne_wDrop_wOver : ¬ wDrop = wOver := by decide
theorem ne_wDrop_wAdd : ¬ wDrop = wAdd := by decide
theorem ne_wDrop_wNopad : ¬ wDrop = wNopad := by decide
theorem ne_wAdd_wMarker : ¬ wAdd = wMarker := by decide
theorem ne_wAdd_wType : ¬ wAdd = wType := by decide
theorem ne_wAdd_wSeq : ¬ wAdd = wSeq := by decide
theorem ne_wAdd_wTime : ¬ wAdd = wTime := by decide
theorem ne_wAdd_wSsrc : ¬ wAdd = wSsrc := by decide
theorem ne_wAdd_wMap : ¬ wAdd = wMap := by decide
theorem ne_wAdd_wOver : ¬ wAdd = wOver := by decide
theorem ne_wAdd_wDrop : ¬ wAdd = wDrop := by decide
theorem ne_wAdd_wNopad : ¬ wAdd = wNopad := by decide
theorem ne_wNopad_wMarker : ¬ wNopad = wMarker := by decide
theorem ne_wNopad_wType : ¬ wNopad = wType := by decide
theorem ne_wNopad_wSeq : ¬ wNopad = wSeq := by decide
theorem ne_wNopad_wTime : ¬ wNopad = wTime := by decide
theorem ne_wNopad_wSsrc : ¬ wNopad = wSsrc := by decide
theorem ne_wNopad_wMap : ¬ wNopad = wMap := by decide
theorem ne_wNopad_wOver : ¬ wNopad = wOver := by decide
theorem ne_wNopad_wDrop : ¬ wNopad = wDrop := by decide
theorem ne_wNopad_wAdd : ¬ wNopad = wAdd := by decide
theorem ne_off_on : ¬ wOff = wOn := by decide
theorem good_grp : Good grpS where
  marker := by
    intro p b r
    refine grpS_of ?_
    cases b <;> simp [grpR, ne_off_on]
  type := by
    intro p n r h0 h1
    refine grpS_of ?_
    simp [grpR, ne_wType_wMarker, numR_num 255 n h0 h1, Int.toNat_of_nonneg h0]
  seq := by
    intro p n r h0 h1
    refine grpS_of ?_
    simp [grpR, ne_wSeq_wMarker, ne_wSeq_wType, numR_num 65535 n h0 (by omega), Int.toNat_of_nonneg h0]
  time := by
    intro p n r h0 h1
    refine grpS_of ?_
    simp [grpR, ne_wTime_wMarker, ne_wTime_wType, ne_wTime_wSeq, numR_num 4294967295 n h0 (by omega), Int.toNat_of_nonneg h0]
  ssrc := by
    intro p n r h0 h1
    refine grpS_of ?_
    simp [grpR, ne_wSsrc_wMarker, ne_wSsrc_wType, ne_wSsrc_wSeq, ne_wSsrc_wTime, numR_num 4294967295 n h0 (by omega), Int.toNat_of_nonneg h0]
  map := by
    intro p a b r a0 a1 b0 b1
    refine grpS_of ?_
    simp [grpR, ne_wMap_wMarker, ne_wMap_wType, ne_wMap_wSeq, ne_wMap_wTime, ne_wMap_wSsrc, numR_num 255 a a0 a1, numR_num 255 b b0 b1, Int.toNat_of_nonneg a0, Int.toNat_of_nonneg b0]
  over := by
    intro p a d r a0 a1
    refine grpS_of ?_
    simp [grpR, ne_wOver_wMarker, ne_wOver_wType, ne_wOver_wSeq, ne_wOver_wTime, ne_wOver_wSsrc, ne_wOver_wMap, numR_num 255 a a0 a1, Int.toNat_of_nonneg a0, unqL_qs]
  drop := by
    intro p a r a0 a1
    refine grpS_of ?_
    simp [grpR, ne_wDrop_wMarker, ne_wDrop_wType, ne_wDrop_wSeq, ne_wDrop_wTime, ne_wDrop_wSsrc, ne_wDrop_wMap, ne_wDrop_wOver, numR_num 255 a a0 a1, Int.toNat_of_nonneg a0]
  add := by
    intro p a d r a0 a1
    refine grpS_of ?_
    simp [grpR, ne_wAdd_wMarker, ne_wAdd_wType, ne_wAdd_wSeq, ne_wAdd_wTime, ne_wAdd_wSsrc, ne_wAdd_wMap, ne_wAdd_wOver, ne_wAdd_wDrop, numR_num 255 a a0 a1, Int.toNat_of_nonneg a0, unqL_qs]
  nopad := by
    intro p r
    refine grpS_of ?_
    simp [grpR, ne_wNopad_wMarker, ne_wNopad_wType, ne_wNopad_wSeq, ne_wNopad_wTime, ne_wNopad_wSsrc, ne_wNopad_wMap, ne_wNopad_wOver, ne_wNopad_wDrop, ne_wNopad_wAdd]
theorem good_ref : Good refS where
  marker := by
    intro p b r
    cases b <;> simp [refS, ne_wMarker_wNopad, ne_off_on]
  type := by
    intro p n r h0 h1
    simp [refS, ne_wType_wMarker, ne_wType_wNopad, valueR_num n h0 (by omega), Int.toNat_of_nonneg h0]
  seq := by
    intro p n r h0 h1
    simp [refS, ne_wSeq_wMarker, ne_wSeq_wType, ne_wSeq_wNopad, valueR_num n h0 (by omega), Int.toNat_of_nonneg h0]
    omega
  time := by
    intro p n r h0 h1
    simp [refS, ne_wTime_wMarker, ne_wTime_wType, ne_wTime_wSeq, ne_wTime_wNopad, valueR_num n h0 (by omega), Int.toNat_of_nonneg h0]
    omega
  ssrc := by
    intro p n r h0 h1
    simp [refS, ne_wSsrc_wMarker, ne_wSsrc_wType, ne_wSsrc_wSeq, ne_wSsrc_wTime, ne_wSsrc_wNopad, valueR_num n h0 (by omega), Int.toNat_of_nonneg h0]
    omega
  map := by
    intro p a b r a0 a1 b0 b1
    simp [refS, ne_wMap_wMarker, ne_wMap_wType, ne_wMap_wSeq, ne_wMap_wTime, ne_wMap_wSsrc, ne_wMap_wDrop, ne_wMap_wNopad, valueR_num a a0 (by omega), valueR_num b b0 (by omega), Int.toNat_of_nonneg a0, Int.toNat_of_nonneg b0]
  over := by
    intro p a d r a0 a1
    simp [refS, ne_wOver_wMarker, ne_wOver_wType, ne_wOver_wSeq, ne_wOver_wTime, ne_wOver_wSsrc, ne_wOver_wMap, ne_wOver_wDrop, ne_wOver_wNopad, valueR_num a a0 (by omega), Int.toNat_of_nonneg a0, unqL_qs]
  drop := by
    intro p a r a0 a1
    simp [refS, ne_wDrop_wMarker, ne_wDrop_wType, ne_wDrop_wSeq, ne_wDrop_wTime, ne_wDrop_wSsrc, ne_wDrop_wNopad, valueR_num a a0 (by omega), Int.toNat_of_nonneg a0]
  add := by
    intro p a d r a0 a1
    simp [refS, ne_wAdd_wMarker, ne_wAdd_wType, ne_wAdd_wSeq, ne_wAdd_wTime, ne_wAdd_wSsrc, ne_wAdd_wMap, ne_wAdd_wOver, ne_wAdd_wDrop, ne_wAdd_wNopad, valueR_num a a0 (by omega), Int.toNat_of_nonneg a0, unqL_qs]
  nopad := by
    intro p r
    simp [refS]
/-- What a group keeps: the numbers' bounds, the lists' lengths, and that the words behind are the words' tail. -/
def lens (p : Pl) : Nat := p.maps.length + p.over.length + p.drops.length + p.adds.length
theorem numR_le (most : Nat) (w : List UInt8) : (numR most w).1 ≤ most := numGo_le most _ _ (Nat.zero_le _)
theorem tail_len {α} (l : List α) : l.tail.length = l.length - 1 := List.length_tail
theorem grp_cases (p : Pl) (ws : Wds) (wr : Bool) (Q : Pl × Wds × Bool → Prop) 
    (h1 : Q ({ p with sm := true, m := decide (ws.tail.headD [] = wOn) }, ws.tail.tail, (wr || ws.isEmpty || ws.tail.isEmpty) || (decide (ws.tail.headD [] ≠ wOn) && decide (ws.tail.headD [] ≠ wOff))))
    (h2 : Q ({ p with st := true, ty := (numR 255 (ws.tail.headD [])).1 }, ws.tail.tail, (wr || ws.isEmpty || ws.tail.isEmpty) || (numR 255 (ws.tail.headD [])).2))
    (h3 : Q ({ p with sq := true, seq := (numR 65535 (ws.tail.headD [])).1 }, ws.tail.tail, (wr || ws.isEmpty || ws.tail.isEmpty) || (numR 65535 (ws.tail.headD [])).2))
    (h4 : Q ({ p with stm := true, time := (numR 4294967295 (ws.tail.headD [])).1 }, ws.tail.tail, (wr || ws.isEmpty || ws.tail.isEmpty) || (numR 4294967295 (ws.tail.headD [])).2))
    (h5 : Q ({ p with ss := true, ssrc := (numR 4294967295 (ws.tail.headD [])).1 }, ws.tail.tail, (wr || ws.isEmpty || ws.tail.isEmpty) || (numR 4294967295 (ws.tail.headD [])).2))
    (h6 : Q ({ p with maps := p.maps ++ [⟨(numR 255 (ws.tail.headD [])).1, (numR 255 (ws.tail.tail.headD [])).1⟩] }, ws.tail.tail.tail, (((wr || ws.isEmpty || ws.tail.isEmpty) || (numR 255 (ws.tail.headD [])).2) || ws.tail.tail.isEmpty) || (numR 255 (ws.tail.tail.headD [])).2))
    (h7 : Q ({ p with over := p.over ++ [⟨(numR 255 (ws.tail.headD [])).1, (unqL (ws.tail.tail.headD [])).getD []⟩] }, ws.tail.tail.tail, (((wr || ws.isEmpty || ws.tail.isEmpty) || (numR 255 (ws.tail.headD [])).2) || ws.tail.tail.isEmpty) || !(unqL (ws.tail.tail.headD [])).isSome))
    (h8 : Q ({ p with drops := p.drops ++ [((numR 255 (ws.tail.headD [])).1 : Int)] }, ws.tail.tail, (wr || ws.isEmpty || ws.tail.isEmpty) || (numR 255 (ws.tail.headD [])).2))
    (h9 : Q ({ p with adds := p.adds ++ [⟨(numR 255 (ws.tail.headD [])).1, (unqL (ws.tail.tail.headD [])).getD []⟩] }, ws.tail.tail.tail, (((wr || ws.isEmpty || ws.tail.isEmpty) || (numR 255 (ws.tail.headD [])).2) || ws.tail.tail.isEmpty) || !(unqL (ws.tail.tail.headD [])).isSome))
    (h10 : Q ({ p with np := true }, ws.tail, wr || ws.isEmpty))
    (h0 : Q (p, ws.tail, true)) : Q (grpR p ws wr) := by
  unfold grpR
  dsimp only
  by_cases c1 : ws.headD [] = wMarker
  · rw [if_pos c1]; exact h1
  rw [if_neg c1]
  by_cases c2 : ws.headD [] = wType
  · rw [if_pos c2]; exact h2
  rw [if_neg c2]
  by_cases c3 : ws.headD [] = wSeq
  · rw [if_pos c3]; exact h3
  rw [if_neg c3]
  by_cases c4 : ws.headD [] = wTime
  · rw [if_pos c4]; exact h4
  rw [if_neg c4]
  by_cases c5 : ws.headD [] = wSsrc
  · rw [if_pos c5]; exact h5
  rw [if_neg c5]
  by_cases c6 : ws.headD [] = wMap
  · rw [if_pos c6]; exact h6
  rw [if_neg c6]
  by_cases c7 : ws.headD [] = wOver
  · rw [if_pos c7]; exact h7
  rw [if_neg c7]
  by_cases c8 : ws.headD [] = wDrop
  · rw [if_pos c8]; exact h8
  rw [if_neg c8]
  by_cases c9 : ws.headD [] = wAdd
  · rw [if_pos c9]; exact h9
  rw [if_neg c9]
  by_cases c10 : ws.headD [] = wNopad
  · rw [if_pos c10]; exact h10
  rw [if_neg c10]
  exact h0
theorem grp_num (p : Pl) (ws : Wds) (wr : Bool) (h : plNum p) : plNum (grpR p ws wr).1 := by
  obtain ⟨n1, n2, n3, n4, n5, n6⟩ := h
  have a1 := numR_le 65535 (ws.tail.headD [])
  have a2 := numR_le 4294967295 (ws.tail.headD [])
  refine grp_cases p ws wr (fun G => plNum G.1) ?_ ?_ ?_ ?_ ?_ ?_ ?_ ?_ ?_ ?_ ?_
  all_goals (unfold plNum; (try simp only); omega)
theorem grp_lens (p : Pl) (ws : Wds) (wr : Bool) (h : ws ≠ []) : lens (grpR p ws wr).1 + (grpR p ws wr).2.1.length ≤ lens p + ws.length ∧ (grpR p ws wr).2.1.length < ws.length := by
  have hl : 0 < ws.length := List.length_pos_iff.2 h
  by_cases h1 : ws.length = 1
  all_goals
    refine grp_cases p ws wr (fun G => lens G.1 + G.2.1.length ≤ lens p + ws.length ∧ G.2.1.length < ws.length) ?_ ?_ ?_ ?_ ?_ ?_ ?_ ?_ ?_ ?_ ?_
    all_goals (unfold lens; (try simp only [List.length_append, List.length_singleton, List.length_tail]); omega)
theorem grp_rest (p : Pl) (ws : Wds) (wr : Bool) : (grpR p ws wr).2.1 = ws.tail ∨ (grpR p ws wr).2.1 = ws.tail.tail ∨ (grpR p ws wr).2.1 = ws.tail.tail.tail := by
  refine grp_cases p ws wr (fun G => G.2.1 = ws.tail ∨ G.2.1 = ws.tail.tail ∨ G.2.1 = ws.tail.tail.tail) ?_ ?_ ?_ ?_ ?_ ?_ ?_ ?_ ?_ ?_ ?_
  all_goals simp
theorem grp_mem (p : Pl) (ws : Wds) (wr : Bool) : ∀ w ∈ (grpR p ws wr).2.1, w ∈ ws := by
  intro w hw
  rcases grp_rest p ws wr with h | h | h <;> rw [h] at hw
  · exact List.mem_of_mem_tail hw
  · exact List.mem_of_mem_tail (List.mem_of_mem_tail hw)
  · exact List.mem_of_mem_tail (List.mem_of_mem_tail (List.mem_of_mem_tail hw))
theorem grp_wr (p : Pl) (ws : Wds) : (grpR p ws true).2.2 = true := by
  refine grp_cases p ws true (fun G => G.2.2 = true) ?_ ?_ ?_ ?_ ?_ ?_ ?_ ?_ ?_ ?_ ?_
  all_goals simp
theorem grpS_num (p : Pl) (ws : Wds) (q : Pl) (r : Wds) (h : grpS p ws = some (q, r)) (hp : plNum p) : plNum q := by
  unfold grpS at h
  split at h
  · cases h
  · cases h
    exact grp_num p ws false hp
theorem refS_num (p : Pl) (ws : Wds) (q : Pl) (r : Wds) (h : refS p ws = some (q, r)) (hp : plNum p) : plNum q := by
  obtain ⟨n1, n2, n3, n4, n5, n6⟩ := hp
  unfold refS at h
  dsimp only at h
  by_cases c1 : ws.headD [] = wNopad
  · rw [if_pos c1] at h
    (cases h; unfold plNum; (try simp only); omega)
  rw [if_neg c1] at h
  by_cases c2 : ws.tail = []
  · rw [if_pos c2] at h
    (cases h)
  rw [if_neg c2] at h
  by_cases c3 : ws.headD [] = wMarker
  · rw [if_pos c3] at h
    (cases h; unfold plNum; (try simp only); omega)
  rw [if_neg c3] at h
  by_cases c4 : ws.headD [] = wType
  · rw [if_pos c4] at h
    (cases h; unfold plNum; (try simp only); omega)
  rw [if_neg c4] at h
  by_cases c5 : ws.headD [] = wSeq
  · rw [if_pos c5] at h
    (cases h; unfold plNum; (try simp only); omega)
  rw [if_neg c5] at h
  by_cases c6 : ws.headD [] = wTime
  · rw [if_pos c6] at h
    (cases h; unfold plNum; (try simp only); omega)
  rw [if_neg c6] at h
  by_cases c7 : ws.headD [] = wSsrc
  · rw [if_pos c7] at h
    (cases h; unfold plNum; (try simp only); omega)
  rw [if_neg c7] at h
  by_cases c8 : ws.headD [] = wDrop
  · rw [if_pos c8] at h
    (cases h; unfold plNum; (try simp only); omega)
  rw [if_neg c8] at h
  by_cases c9 : ws.tail.tail = []
  · rw [if_pos c9] at h
    (cases h)
  rw [if_neg c9] at h
  by_cases c10 : ws.headD [] = wMap
  · rw [if_pos c10] at h
    (cases h; unfold plNum; (try simp only); omega)
  rw [if_neg c10] at h
  by_cases c11 : ws.headD [] = wOver
  · rw [if_pos c11] at h
    by_cases d : ((valueR (ws.tail.headD [])).2 && (unqL (ws.tail.tail.headD [])).isSome) = true
    · rw [if_pos d] at h
      (cases h; unfold plNum; (try simp only); omega)
    · rw [if_neg d] at h
      cases h
  rw [if_neg c11] at h
  by_cases c12 : ws.headD [] = wAdd
  · rw [if_pos c12] at h
    by_cases d : ((valueR (ws.tail.headD [])).2 && (unqL (ws.tail.tail.headD [])).isSome) = true
    · rw [if_pos d] at h
      (cases h; unfold plNum; (try simp only); omega)
    · rw [if_neg d] at h
      cases h
  rw [if_neg c12] at h
  cases h
theorem parse_ref_eq (s : List UInt8) : parseBy refS s = parseBy grpS s := parse_eq good_ref refS_num good_grp grpS_num s
end Go.Vc
