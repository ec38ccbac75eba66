/-
  My own general texts, one behind the other: a generator of conditions over the model, with its proof, and plain lemmas. No condition on the program.
-/
import Derived.Test.YtodhgafhllbojaaDoorQBase2

/-
  Part P: an operation looks at its operands alone; what it asks of the blocks.
-/
namespace Go.Vc
section
variable {P : Program} {cfg : Cfg} {rb rb' : Rb} {ev ev' : Ev} {pc : Pres} {nv nv' : Nat} {o : Oper} {out : Out}
/-- On these operands both answer the same. -/
def EvEq (l : List Operand) (ev ev' : Ev) : Prop := ∀ x ∈ l, ∀ pc t, ev pc x t = ev' pc x t

theorem argsX_congr : ∀ {l : List Operand} {ts : List TypeId}, EvEq l ev ev' → argsX ev rb pc l ts = argsX ev' rb pc l ts
  | [], _, _ => rfl
  | x :: l, ts, h => by
    simp only [argsX]
    rw [h x (by simp), argsX_congr (l := l) fun y hy => h y (by simp [hy])]
theorem buildX_congr {ft : Nat → TypeId} : ∀ {l : List (Nat × Operand)} {m : List (Sh × E)}, EvEq (l.map (·.2)) ev ev' → buildX ev rb pc ft m l = buildX ev' rb pc ft m l
  | [], _, _ => rfl
  | (i, x) :: l, m, h => by
    simp only [buildX]
    rw [h x (by simp)]
    have ih : ∀ m, buildX ev rb pc ft m l = buildX ev' rb pc ft m l := fun m => buildX_congr (l := l) fun y hy => h y (by simp [List.mem_map] at hy ⊢; exact .inr hy)
    simp only [ih]
theorem elemsX_congr {t : TypeId} {s : Sh} : ∀ {l : List (Nat × Operand)} {k : Nat}, EvEq (l.map (·.2)) ev ev' → elemsX ev rb pc t s k l = elemsX ev' rb pc t s k l
  | [], _, _ => rfl
  | (i, x) :: l, k, h => by
    simp only [elemsX]
    rw [h x (by simp), elemsX_congr (l := l) fun y hy => h y (by simp [List.mem_map] at hy ⊢; exact .inr hy)]
theorem builtinX_congr {b : Builtin} {l : List Operand} {ts : Array TypeId} (h : EvEq l ev ev') : builtinX P ev rb pc b l ts = builtinX P ev' rb pc b l ts := by
  unfold builtinX
  split <;> simp_all [EvEq]
theorem callV_congr {t : TypeId} {f : Nat} {pre : List (Sh × E)} {args : List Operand} {ts : List TypeId} (h : EvEq args ev ev') : callV P cfg ev rb pc nv t f pre args ts = callV P cfg ev' rb pc nv t f pre args ts := by
  unfold callV; rw [argsX_congr h]
theorem callX_congr {rs : Option (List Sh)} {f : Nat} {args : List Operand} {ts : List TypeId} (h : EvEq args ev ev') : callX P rs ev rb pc nv f args ts = callX P rs ev' rb pc nv f args ts := by
  unfold callX; rw [argsX_congr h]
theorem callN_congr {t : TypeId} {f : Nat} {args : List Operand} {ts : List TypeId} (h : EvEq args ev ev') : callN P ev rb pc nv t f args ts = callN P ev' rb pc nv t f args ts := by
  unfold callN; rw [argsX_congr h]
theorem preX_congr (h : EvEq o.op.operands.toList ev ev') : preX P o pc ev = preX P o pc ev' := by
  unfold preX
  generalize o.op = op at h
  cases op <;> simp only [Op.operands] at h <;> (try rfl)
  case makeFunc fn first captured =>
    cases fn with
    | method name =>
      simp only
      split
      · rename_i x h1 h2
        have hx : ∀ pc t, ev pc x t = ev' pc x t := h x (by simp [h1])
        simp only [hx]
      · rfl
    | _ => rfl
  all_goals (simp_all [EvEq]; done)
theorem opx0_congr (h : EvEq o.op.operands.toList ev ev') : opx0 P cfg o pc ev rb nv = opx0 P cfg o pc ev' rb nv := by
  unfold opx0 opy
  generalize o.op = op at h
  cases op <;> simp only [Op.operands] at h <;> (try rfl)
  case build t ps =>
    simp only [buildSX]
    repeat' split
    all_goals first | rfl | skip
    all_goals simp_all [buildX_congr (rb := rb) (pc := pc) (l := ps.toList) (by simpa using h)]
  case buildSlice t n ps =>
    have h' : EvEq (ps.toList.map (·.2)) ev ev' := by simpa using h
    simp only [rowLitX, buildSlX, elemsX_congr h']
  case slice t x lo hi mx =>
    cases mx with
    | some _ => rfl
    | none =>
      have hx : ∀ pc t, ev pc x t = ev' pc x t := h x (by simp)
      have hb : ∀ (d : E) (y : Option Operand), (∀ z, y = some z → z ∈ #[x] ++ lo.toArray ++ hi.toArray ++ (none : Option Operand).toArray) → boundX ev pc d y = boundX ev' pc d y := by
        intro d y hy
        cases y with
        | none => rfl
        | some z => simp only [boundX]; rw [h z (by simpa using hy z rfl)]
      simp only [sliceX]
      rw [hx, hb _ lo (fun z hz => by subst hz; simp)]
      have hh : ∀ d, boundX ev pc d hi = boundX ev' pc d hi := fun d => hb d hi (fun z hz => by subst hz; simp)
      simp only [hh]
  case call c =>
    obtain ⟨callee, args, ts⟩ := c
    have ha : EvEq args.toList ev ev' := fun x hx => h x (by simp [Call.operands]; exact .inr (by simpa using hx))
    cases callee with
    | builtin b =>
      exact builtinX_congr ha
    | value f =>
      have hf : ∀ pc t, ev pc f t = ev' pc f t := h f (by simp [Call.operands])
      cases f with
      | func g => simp only [callX_congr ha, callN_congr ha]
      | tmp i => simp only [hf, callV_congr ha]
      | const v => simp only [hf, callV_congr ha]
      | global g => simp only [hf, callV_congr ha]
    | invoke r m =>
      have hr : ∀ pc t, ev pc r t = ev' pc r t := h r (by simp [Call.operands])
      simp only [hr, callV_congr ha]
  case makeMap t r => cases r <;> rfl
  all_goals (simp_all [EvEq]; done)
theorem opx_congr (h : EvEq o.op.operands.toList ev ev') : opx P cfg o pc ev rb nv = opx P cfg o pc ev' rb nv := by
  unfold opx
  rw [preX_congr h, opx0_congr h]
theorem opw_congr {bs : List Blk} (h : EvEq o.op.operands.toList ev ev') : opw P cfg o ev bs = opw P cfg o ev' bs := by
  unfold opw
  generalize o.op = op at h
  cases op <;> simp only [Op.operands] at h <;> (try rfl)
  case store t a x =>
    simp only
    rw [h a (by simp), h x (by simp)]
  case call c =>
    obtain ⟨callee, args, ts⟩ := c
    have ha : EvEq args.toList ev ev' := fun x hx => h x (by simp [Call.operands]; exact .inr (by simpa using hx))
    cases callee with
    | builtin b =>
      cases b <;> simp only
      · split
        · rename_i x y d hl hd
          rw [ha x (by simp [hl]), ha y (by simp [hl])]
        · rfl
      · split
        · rename_i x y hl
          rw [ha x (by simp [hl]), ha y (by simp [hl])]
        · rfl
    | value f => rfl
    | invoke r m => rfl
  case convert src dst x =>
    simp only
    rw [h x (by simp)]
  case mapUpdate t m k x =>
    simp only
    rw [h m (by simp), h k (by simp), h x (by simp)]
  case next it b =>
    cases b with
    | true => simp only; rw [h it (by simp)]
    | false => rfl

theorem opg_congr {bs : List Blk} (h : EvEq o.op.operands.toList ev ev') : opg P cfg o ev bs nv = opg P cfg o ev' bs nv := by
  unfold opg
  generalize o.op = op at h
  cases op <;> simp only [Op.operands] at h <;> (try rfl)
  case call c =>
    obtain ⟨callee, args, ts⟩ := c
    have ha : EvEq args.toList ev ev' := fun x hx => h x (by simp [Call.operands]; exact .inr (by simpa using hx))
    cases callee with
    | builtin b => rfl
    | value f =>
      cases f with
      | func g =>
        cases hd : o.dst with
        | none => rfl
        | some d =>
          simp only
          obtain ⟨al⟩ := args
          have e1 : freshX P ev bs nv o.type d g al ts.toList = freshX P ev' bs nv o.type d g al ts.toList := by
            unfold freshX
            rw [argsX_congr ha]
          have e2 : growX P ev bs nv o.type d g al ts.toList = growX P ev' bs nv o.type d g al ts.toList := by
            unfold growX
            cases al with
            | nil => cases retsT P o.type with
              | none => rfl
              | some l => cases l with
                | nil => rfl
                | cons s r => cases s <;> rfl
            | cons x xs =>
              have h1 : EvEq xs ev ev' := fun y hy => ha y (by simp [hy])
              have h2 : ∀ pc t, ev pc x t = ev' pc x t := ha x (by simp)
              cases retsT P o.type with
              | none => rfl
              | some l => cases l with
                | nil => rfl
                | cons s r => cases s <;> first | rfl | (simp only; rw [argsX_congr h1, h2])
          simp only [e1, e2]
      | _ => rfl
    | invoke r m => rfl

/-- What has been made is there as it was. -/
def RbLe (rb rb' : Rb) : Prop := ∀ r b, rb r = some b → b.lb ≠ .none → rb' r = some b
theorem rowOf_le (le : RbLe rb rb') {r : Nat} {y : Sh × E} (h : rowOf rb pc r = some y) : rowOf rb' pc r = some y := by
  unfold rowOf at h ⊢
  split at h
  · rename_i s e p hr
    rw [le r _ hr (by simp)]
    exact h
  · simp at h
theorem mapOf_le (le : RbLe rb rb') {r : Nat} {y : IntKind × Sh × E} (h : mapOf rb pc r = some y) : mapOf rb' pc r = some y := by
  unfold mapOf at h ⊢
  split at h
  · rename_i k s e p hr
    rw [le r _ hr (by simp)]
    exact h
  · simp at h
theorem mapRd_le (le : RbLe rb rb') {x : Option SX} {y : IntKind × Sh × E} (h : mapRd rb pc x = some y) : mapRd rb' pc x = some y := by
  unfold mapRd at h ⊢
  split at h
  · exact h
  · exact mapOf_le le h
  · simp at h
theorem datOf_le (le : RbLe rb rb') {x : SX} {y : Sh × E × List Nat} (h : datOf rb pc x = some y) : datOf rb' pc x = some y := by
  unfold datOf at h ⊢
  split at h
  · exact h
  · split at h
    · rename_i hr; rw [rowOf_le le hr]; exact h
    · simp at h
  · split at h
    · rename_i hr; rw [rowOf_le le hr]; exact h
    · simp at h
  · exact h
  · split at h
    · rename_i hr; rw [mapOf_le le hr]; exact h
    · simp at h
  · simp at h
theorem leafX_le (le : RbLe rb rb') {s : Sh} {l : List SX} {y : E × List Nat × List SX} (h : leafX rb pc s l = some y) : leafX rb' pc s l = some y := by
  cases l with
  | nil => simp [leafX] at h
  | cons x l =>
    simp only [leafX] at h ⊢
    split at h
    · rename_i hd; rw [datOf_le le hd]; exact h
    · simp at h
theorem unflat_le (le : RbLe rb rb') : ∀ {s : Sh} {l : List SX} {y : E × List Nat × List SX}, unflat rb pc s l = some y → unflat rb' pc s l = some y
  | .unit, _, _, h => by simpa [unflat] using h
  | .pair a b, l, y, h => by
    simp only [unflat] at h ⊢
    split at h
    · rename_i hb
      rw [if_pos hb]
      split at h
      · rename_i x f r h1
        rw [unflat_le le h1]
        simp only
        split at h
        · rename_i h2
          rw [unflat_le le h2]
          exact h
        · simp at h
      · simp at h
    · simp at h
  | .int k, _, _, h => by simp only [unflat] at h ⊢; exact leafX_le le h
  | .bool, _, _, h => by simp only [unflat] at h ⊢; exact leafX_le le h
  | .str, _, _, h => by simp only [unflat] at h ⊢; exact leafX_le le h
  | .sl s, _, _, h => by simp only [unflat] at h ⊢; exact leafX_le le h
  | .ifc _ s, _, _, h => by simp only [unflat] at h ⊢; exact leafX_le le h
  | .nili, _, _, h => by simp only [unflat] at h ⊢; exact leafX_le le h
  | .fun_ _, _, _, h => by simp only [unflat] at h ⊢; exact leafX_le le h
  | .mp _ s, _, _, h => by simp only [unflat] at h ⊢; exact leafX_le le h
theorem bind_le (le : RbLe rb rb') {x : Option SX} {y : Sh × E × List Nat} (h : x.bind (datOf rb pc) = some y) : x.bind (datOf rb' pc) = some y := by
  cases x with
  | none => simp at h
  | some x => exact datOf_le le h
theorem argsX_le (le : RbLe rb rb') : ∀ {l : List Operand} {ts : List TypeId} {y : List (Sh × E) × List Nat}, argsX ev rb pc l ts = some y → argsX ev rb' pc l ts = some y
  | [], _, _, h => h
  | x :: l, ts, y, h => by
    simp only [argsX] at h ⊢
    split at h
    · rename_i h1 h2
      rw [bind_le le h1, argsX_le le h2]
      exact h
    · simp at h
theorem buildX_le (le : RbLe rb rb') {ft : Nat → TypeId} : ∀ {l : List (Nat × Operand)} {m : List (Sh × E)} {y : List (Sh × E) × List Nat}, buildX ev rb pc ft m l = some y → buildX ev rb' pc ft m l = some y
  | [], _, _, h => h
  | (i, x) :: l, m, y, h => by
    simp only [buildX] at h ⊢
    split at h
    · rename_i h1 h2
      rw [bind_le le h1, h2]
      simp only
      split at h
      · rename_i hs
        rw [if_pos hs]
        cases hb : buildX ev rb pc ft (m.set i _) l with
        | none => rw [hb] at h; simp at h
        | some z =>
          rw [buildX_le le hb]
          rw [hb] at h
          exact h
      · simp at h
    · simp at h
theorem elemsX_le (le : RbLe rb rb') {t : TypeId} {s : Sh} : ∀ {l : List (Nat × Operand)} {k : Nat} {y : E × List Nat}, elemsX ev rb pc t s k l = some y → elemsX ev rb' pc t s k l = some y
  | [], _, _, h => h
  | (i, x) :: l, k, y, h => by
    simp only [elemsX] at h ⊢
    split at h
    · simp at h
    · rename_i hi
      rw [if_neg hi]
      split at h
      · rename_i h1 h2
        rw [bind_le le h1, elemsX_le le h2]
        exact h
      · simp at h
theorem liveR_le (le : RbLe rb rb') {r : Nat} (h : liveR rb pc r = true) : liveR rb' pc r = true := by
  unfold liveR at h ⊢
  split at h
  · rename_i hr; rw [le r _ hr (by simp)]; exact h
  · rename_i hr; rw [le r _ hr (by simp)]; exact h
  · simp at h
/-- More blocks: an operation answers as before. -/
theorem callV_le (le : RbLe rb rb') {t : TypeId} {f : Nat} {pre : List (Sh × E)} {args : List Operand} {ts : List TypeId} (h : callV P cfg ev rb pc nv t f pre args ts = some out) : callV P cfg ev rb' pc nv t f pre args ts = some out := by
  unfold callV at h ⊢
  split at h
  · rename_i h1 h2
    rw [argsX_le le h1]
    simpa [h2] using h
  · simp at h
theorem opy_le (le : RbLe rb rb') (hn : ∀ d, o.dst = some d → isNew rb d = true → isNew rb' d = true) (h : opy P cfg o pc ev rb nv = some out) : opy P cfg o pc ev rb' nv = some out := by
  unfold opy at h ⊢
  split at h
  · split at h
    · split at h
      · exact callV_le le h
      · simp at h
    · simp at h
  · simp at h
  · split at h
    · exact callV_le le h
    · simp at h
  · split at h
    · rename_i h1 h2 h3
      simp only [h1, h2, mapRd_le le h3]
      exact h
    · simp at h
  · split at h
    · rename_i d h1 h2
      split at h
      · rename_i hs
        split at h
        · rename_i hok
          simp only [Bool.and_eq_true] at hok
          simpa [hn _ h2 hok.1, hok.2] using h
        · simp at h
      · simp at h
    · simp at h
  · split at h
    · rename_i h1 h2 h3
      split at h
      · rename_i hok
        simpa [hn _ h3 hok] using h
      · simp at h
    · simp at h
  · simp at h
theorem opx0_le (le : RbLe rb rb') (hn : ∀ d, o.dst = some d → isNew rb d = true → isNew rb' d = true) (h : opx0 P cfg o pc ev rb nv = some out) : opx0 P cfg o pc ev rb' nv = some out := by
  unfold opx0 at h ⊢
  split at h
  case h_1 => exact h
  case h_2 => exact h
  case h_3 => exact h
  case h_4 => exact h
  case h_5 => exact h
  case h_6 =>
    unfold convX at h ⊢
    split at h
    · simp_all
    · simp_all
    · split at h
      · rename_i h1 h2
        simp_all [datOf_le le h2]
      · simp at h
    · simp_all
    · simp at h
  case h_7 => exact h
  case h_8 => exact h
  case h_9 =>
    unfold buildSX at h ⊢
    split at h
    · rename_i h1 h2
      (try rw [h1]; try rw [h2])
      try simp only
      split at h
      · rename_i hs
        (try rw [if_pos hs])
        split at h
        · rename_i l hl
          (try rw [hl])
          try simp only
          split at h
          · rename_i hb
            (try rw [buildX_le le hb])
            exact h
          · simp at h
        · simp at h
      · simp at h
    · simp at h
  case h_10 =>
    split at h
    · rename_i hr
      (try rw [if_pos hr])
      unfold rowLitX at h ⊢
      split at h
      · rename_i et d h1 hd
        (try rw [h1]; try rw [hd])
        try simp only
        split at h
        · simp at h
        · rename_i s hs
          (try rw [hs])
          try simp only
          split at h
          · rename_i hok
            have hok' := hok
            simp only [Bool.and_eq_true] at hok'
            (try rw [if_pos (by simp only [Bool.and_eq_true]; exact ⟨⟨⟨⟨⟨hn d hd hok'.1.1.1.1.1, hok'.1.1.1.1.2⟩, hok'.1.1.1.2⟩, hok'.1.1.2⟩, hok'.1.2⟩, hok'.2⟩)])
            split at h
            · rename_i he
              (try rw [elemsX_le le he])
              exact h
            · simp at h
          · simp at h
      · simp at h
    · rename_i hr
      (try rw [if_neg hr])
      unfold buildSlX at h ⊢
      split at h
      · simp at h
      · rename_i et h1
        (try rw [h1])
        try simp only
        split at h
        · simp at h
        · rename_i s hs
          (try rw [hs])
          try simp only
          split at h
          · rename_i hok
            (try rw [if_pos hok])
            split at h
            · rename_i he
              (try rw [elemsX_le le he])
              exact h
            · simp at h
          · simp at h
  case h_11 =>
    unfold allocX at h ⊢
    split at h
    · rename_i s d h1 hd
      (try rw [h1]; try rw [hd])
      try simp only
      split at h
      · rename_i e he
        (try rw [he])
        try simp only
        split at h
        · rename_i hok
          simp only [Bool.and_eq_true] at hok
          (try rw [if_pos (by simp only [Bool.and_eq_true]; exact ⟨⟨hn d hd hok.1.1, hok.1.2⟩, hok.2⟩)])
          exact h
        · simp at h
      · simp at h
    · simp at h
  case h_12 =>
    unfold boxX at h ⊢
    split at h
    · rename_i s e d hx hd
      (try rw [hx]; try rw [hd])
      try simp only
      split at h
      · rename_i hok
        simp only [Bool.and_eq_true] at hok
        (try rw [if_pos (by simp only [Bool.and_eq_true]; exact ⟨hn d hd hok.1, hok.2⟩)])
        exact h
      · simp at h
    · rename_i r n d hx hd
      (try rw [hx]; try rw [hd])
      try simp only
      split at h
      · rename_i s e hr
        (try rw [rowOf_le le hr])
        try simp only
        split at h
        · rename_i hok
          simp only [Bool.and_eq_true] at hok
          (try rw [if_pos (by simp only [Bool.and_eq_true]; exact ⟨hn d hd hok.1, hok.2⟩)])
          exact h
        · simp at h
      · simp at h
    · simp at h
  case h_13 =>
    unfold loadX at h ⊢
    split at h
    · rename_i hx; (try rw [hx]); exact h
    · rename_i hx
      (try rw [hx])
      try simp only
      split at h
      · rename_i hf
        (try rw [if_pos hf])
        split at h
        · rename_i hr; (try rw [le _ _ hr (by simp)]); exact h
        · rename_i hr
          (try rw [le _ _ hr (by simp)])
          try simp only
          split at h
          · rename_i hp
            (try rw [if_pos hp])
            split at h
            · rename_i ha
              (try rw [if_pos ha])
              split at h
              · rename_i hu; (try rw [unflat_le le hu]); exact h
              · simp at h
            · rename_i ha
              (try rw [if_neg ha])
              exact h
          · simp at h
        · simp at h
      · simp at h
    · simp at h
  case h_14 =>
    unfold nilX at h ⊢
    split at h
    · rename_i hx
      (try rw [hx])
      try simp only
      split at h
      · rename_i hl; (try rw [if_pos (liveR_le le hl)]); exact h
      · simp at h
    · rename_i hx; (try rw [hx]); exact h
    · rename_i hx; (try rw [hx]); exact h
    · simp at h
  case h_15 =>
    unfold faddrX at h ⊢
    split at h
    · rename_i hx ht
      (try rw [hx]; try rw [ht])
      try simp only
      split at h
      · rename_i h1 h2
        (try rw [h1]; try rw [h2])
        try simp only
        split at h
        · rename_i hok
          simp only [Bool.and_eq_true] at hok
          (try rw [if_pos (by simp only [Bool.and_eq_true]; exact ⟨hok.1, liveR_le le hok.2⟩)])
          split at h
          · rename_i hr; (try rw [le _ _ hr (by simp)]); exact h
          · rename_i hr; (try rw [le _ _ hr (by simp)]); exact h
          · simp at h
        · simp at h
      · simp at h
    · rename_i hx ht; (try rw [hx]; try rw [ht]); exact h
    · simp at h
  case h_16 =>
    unfold iaddrX at h ⊢
    split at h
    · rename_i h1 h2 h3; (try rw [h1]; try rw [h2]; try rw [h3]); exact h
    · rename_i h1 h2 h3
      (try rw [h1]; try rw [h2]; try rw [h3])
      try simp only
      split at h
      · rename_i hr; (try rw [rowOf_le le hr]); exact h
      · simp at h
    · rename_i h1 h2 h3
      (try rw [h1]; try rw [h2]; try rw [h3])
      try simp only
      split at h
      · rename_i hr; (try rw [rowOf_le le hr]); exact h
      · simp at h
    · simp at h
  case h_17 => exact h
  case h_18 =>
    unfold sliceX at h ⊢
    split at h
    · rename_i h1 h2 h3; (try rw [h1]; try rw [h2]; try rw [h3]); exact h
    · rename_i h1 h2 h3; (try rw [h1]; try rw [h2]; try rw [h3]); exact h
    · rename_i h1 h2 h3
      (try rw [h1]; try rw [h2]; try rw [h3])
      try simp only
      split at h
      · rename_i hr hb; (try rw [rowOf_le le hr]; try rw [hb]); exact h
      · simp at h
    · rename_i h1 h2 h3
      (try rw [h1]; try rw [h2]; try rw [h3])
      try simp only
      split at h
      · rename_i hr hb; (try rw [rowOf_le le hr]; try rw [hb]); exact h
      · simp at h
    · simp at h
  case h_19 =>
    unfold makeX at h ⊢
    split at h
    · rename_i et kl l kc c d h1 h2 h3 hd
      (try rw [h1]; try rw [h2]; try rw [h3]; try rw [hd])
      try simp only
      split at h
      · simp at h
      · rename_i s hs
        (try rw [hs])
        try simp only
        split at h
        · rename_i z hz
          (try rw [hz])
          try simp only
          split at h
          · rename_i hok
            simp only [Bool.and_eq_true] at hok
            (try rw [if_pos (by simp only [Bool.and_eq_true]; exact ⟨⟨⟨hn d hd hok.1.1.1, hok.1.1.2⟩, hok.1.2⟩, hok.2⟩)])
            exact h
          · simp at h
        · simp at h
    · simp at h
  case h_20 =>
    unfold builtinX at h ⊢
    split at h
    · unfold lenX at h ⊢
      split at h
      · rename_i h1 h2; (try rw [h1]; try rw [h2]); exact h
      · rename_i h1 h2; (try rw [h1]; try rw [h2]); exact h
      · rename_i h1 h2
        (try rw [h1]; try rw [h2])
        try simp only
        split at h
        · rename_i hr; (try rw [rowOf_le le hr]); exact h
        · simp at h
      · rename_i h1 h2
        (try rw [h1]; try rw [h2])
        try simp only
        split at h
        · rename_i hr; (try rw [rowOf_le le hr]); exact h
        · simp at h
      · simp at h
    · simp_all
    · simp_all
    · simp at h
  case h_21 =>
    split at h
    · simp at h
    · rename_i hown
      rw [if_neg hown]
      split at h
      · rename_i hnil
        rw [if_pos hnil]
        unfold callN at h ⊢
        split at h
        · rename_i h1 h2
          (try rw [argsX_le le h1]; try rw [h2])
          exact h
        · simp at h
      · rename_i hnil
        rw [if_neg hnil]
        unfold callX at h ⊢
        split at h
        · rename_i h1 h2
          (try rw [argsX_le le h1]; try rw [h2])
          exact h
        · simp at h
  case h_22 => exact opy_le le hn h
theorem opx_le (le : RbLe rb rb') (hn : ∀ d, o.dst = some d → isNew rb d = true → isNew rb' d = true) (h : opx P cfg o pc ev rb nv = some out) : opx P cfg o pc ev rb' nv = some out := by
  rcases opx_cases h with ⟨hf, rfl⟩ | ⟨hf, hx⟩ | ⟨hf, hx, h⟩
  · unfold opx; rw [if_pos hf]
  · unfold opx; rw [if_neg (by simp [hf]), hx]
  · unfold opx; rw [if_neg (by simp [hf]), hx]; exact opx0_le le hn h
/-- What a class of operations asks and does. -/
theorem opx0_nv (h : cls cfg o ≠ .call) : opx0 P cfg o pc ev rb nv = opx0 P cfg o pc ev rb nv' := by
  unfold opx0 opy
  unfold cls at h
  generalize o.op = op at h
  cases op <;> (try rfl)
  case slice t x lo hi mx => cases mx <;> rfl
  case makeMap t r => cases r <;> rfl
  case call c =>
    obtain ⟨callee, args, ts⟩ := c
    cases callee with
    | builtin b => rfl
    | value f =>
      cases f with
      | func g =>
        simp only at h ⊢
        by_cases hown : cfg.owns g = true
        · simp [hown]
        · simp [hown] at h
      | _ => first | rfl | (exact absurd rfl h)
    | invoke r m => exact absurd rfl h
theorem opx_nv (h : cls cfg o ≠ .call) : opx P cfg o pc ev rb nv = opx P cfg o pc ev rb nv' := by
  unfold opx; rw [opx0_nv h]
theorem opx0_P (h : cls cfg o = .P) : opx0 P cfg o pc ev rb nv = opx0 P cfg o pc ev rb' nv := by
  unfold opx0 opy
  unfold cls at h
  generalize o.op = op at h
  cases op <;> (try rfl) <;> (try simp at h)
  case buildSlice t n ps => split at h <;> simp at h
  case convert t u x => split at h <;> (try split at h) <;> simp at h
  case call c =>
    obtain ⟨callee, args, ts⟩ := c
    cases callee with
    | builtin b =>
      have hh : ∀ (b : Builtin) (l : List Operand) (ts : Array TypeId), b ≠ .len → builtinX P ev rb pc b l ts = builtinX P ev rb' pc b l ts := by
        intro b l ts hb
        unfold builtinX
        split <;> first | rfl | exact absurd rfl hb
      refine hh b _ _ fun e => ?_
      subst e
      simp at h
    | value f =>
      cases f with
      | func g => simp only at h; split at h <;> cases h
      | _ => simp at h
    | invoke r m => simp at h
theorem opx_P (h : cls cfg o = .P) : opx P cfg o pc ev rb nv = opx P cfg o pc ev rb' nv := by
  unfold opx; rw [opx0_P h]
theorem opx0_A (h : cls cfg o = .A) (hn : ∀ d, o.dst = some d → isNew rb d = isNew rb' d) : opx0 P cfg o pc ev rb nv = opx0 P cfg o pc ev rb' nv := by
  unfold opx0 opy
  unfold cls at h
  generalize o.op = op at h
  cases op <;> (try rfl) <;> (try simp at h)
  case buildSlice t n ps => split at h <;> simp at h
  case convert t u x => split at h <;> (try split at h) <;> simp at h
  case alloc t =>
    simp only [allocX]
    split
    · rename_i s d hs hd
      rw [hn d hd]
    · rfl
  case makeSlice t l c =>
    simp only [makeX]
    split
    · rename_i hd
      rw [hn _ hd]
    · rfl
  case makeMap t r =>
    cases r with
    | some _ => rfl
    | none =>
      simp only
      split
      · rename_i hd
        rw [hn _ hd]
      · rfl
  case call c =>
    obtain ⟨callee, args, ts⟩ := c
    cases callee with
    | builtin b => cases b <;> simp at h
    | value f =>
      cases f with
      | func g => simp only at h; split at h <;> cases h
      | _ => simp at h
    | invoke r m => simp at h
theorem opx_A (h : cls cfg o = .A) (hn : ∀ d, o.dst = some d → isNew rb d = isNew rb' d) : opx P cfg o pc ev rb nv = opx P cfg o pc ev rb' nv := by
  unfold opx; rw [opx0_A h hn]
end
end Go.Vc

/-
  Part Q: operations of a region in another order.
-/
namespace Go.Vc
section
variable {P : Program} {cfg : Cfg} {rb rb' : Rb} {ev ev' : Ev} {pc : Pres} {nv nv' : Nat} {o : Oper} {out : Out}
def Made (rb : Rb) (r : Nat) : Prop := ∃ b, rb r = some b ∧ b.lb ≠ .none
def FrzOk (rb : Rb) (f : List Nat) : Prop := ∀ r ∈ f, Made rb r
theorem FrzOk.nil : FrzOk rb [] := fun _ h => by cases h
theorem FrzOk.app {f g : List Nat} (h : FrzOk rb f) (h' : FrzOk rb g) : FrzOk rb (f ++ g) := fun r hr => (List.mem_append.1 hr).elim (h r) (h' r)
theorem rowOf_made {r : Nat} {y : Sh × E} (h : rowOf rb pc r = some y) : Made rb r := by
  unfold rowOf at h
  split at h
  · rename_i s e p hr
    exact ⟨_, hr, by simp⟩
  · simp at h
theorem mapOf_made {r : Nat} {y : IntKind × Sh × E} (h : mapOf rb pc r = some y) : Made rb r := by
  unfold mapOf at h
  split at h
  · rename_i hr
    exact ⟨_, hr, by simp⟩
  · simp at h
theorem datOf_frz {x : SX} {s : Sh} {e : E} {f : List Nat} (h : datOf rb pc x = some (s, e, f)) : FrzOk rb f := by
  unfold datOf at h
  split at h
  · simp at h; rw [h.2.2]; exact FrzOk.nil
  · split at h
    · rename_i hr
      simp at h
      rw [h.2.2.symm]
      intro r hr'
      simp at hr'
      subst hr'
      exact rowOf_made hr
    · simp at h
  · split at h
    · rename_i hr
      simp at h
      rw [h.2.2.symm]
      intro r hr'
      simp at hr'
      subst hr'
      exact rowOf_made hr
    · simp at h
  · simp at h; rw [h.2.2]; exact FrzOk.nil
  · split at h
    · rename_i hr
      simp at h
      rw [h.2.2.symm]
      intro r hr'
      simp at hr'
      subst hr'
      exact mapOf_made hr
    · simp at h
  · simp at h
theorem bind_frz {x : Option SX} {s : Sh} {e : E} {f : List Nat} (h : x.bind (datOf rb pc) = some (s, e, f)) : FrzOk rb f := by
  cases x with
  | none => simp at h
  | some x => exact datOf_frz h
theorem leafX_frz {s : Sh} {l r : List SX} {e : E} {f : List Nat} (h : leafX rb pc s l = some (e, f, r)) : FrzOk rb f := by
  cases l with
  | nil => simp [leafX] at h
  | cons x l =>
    simp only [leafX] at h
    split at h
    · rename_i hd
      split at h
      · simp at h
        rw [h.2.1.symm]
        exact datOf_frz hd
      · simp at h
    · simp at h
theorem unflat_frz : ∀ {s : Sh} {l r : List SX} {e : E} {f : List Nat}, unflat rb pc s l = some (e, f, r) → FrzOk rb f
  | .unit, _, _, _, _, h => by simp [unflat] at h; rw [h.2.1]; exact FrzOk.nil
  | .pair a b, l, _, _, _, h => by
    simp only [unflat] at h
    split at h
    · split at h
      · rename_i h1
        split at h
        · rename_i h2
          simp at h
          rw [h.2.1.symm]
          exact (unflat_frz h1).app (unflat_frz h2)
        · simp at h
      · simp at h
    · simp at h
  | .int k, _, _, _, _, h => by simp only [unflat] at h; exact leafX_frz h
  | .bool, _, _, _, _, h => by simp only [unflat] at h; exact leafX_frz h
  | .str, _, _, _, _, h => by simp only [unflat] at h; exact leafX_frz h
  | .sl s, _, _, _, _, h => by simp only [unflat] at h; exact leafX_frz h
  | .ifc _ s, _, _, _, _, h => by simp only [unflat] at h; exact leafX_frz h
  | .nili, _, _, _, _, h => by simp only [unflat] at h; exact leafX_frz h
  | .fun_ _, _, _, _, _, h => by simp only [unflat] at h; exact leafX_frz h
  | .mp _ s, _, _, _, _, h => by simp only [unflat] at h; exact leafX_frz h
theorem argsX_frz : ∀ {l : List Operand} {ts : List TypeId} {m : List (Sh × E)} {f : List Nat}, argsX ev rb pc l ts = some (m, f) → FrzOk rb f
  | [], _, _, _, h => by simp [argsX] at h; rw [h.2]; exact FrzOk.nil
  | x :: l, ts, _, _, h => by
    simp only [argsX] at h
    split at h
    · rename_i h1 h2
      simp at h
      rw [h.2.symm]
      exact (bind_frz h1).app (argsX_frz h2)
    · simp at h
theorem buildX_frz {ft : Nat → TypeId} : ∀ {l : List (Nat × Operand)} {m m' : List (Sh × E)} {f : List Nat}, buildX ev rb pc ft m l = some (m', f) → FrzOk rb f
  | [], _, _, _, h => by simp [buildX] at h; rw [h.2]; exact FrzOk.nil
  | (i, x) :: l, m, _, _, h => by
    simp only [buildX] at h
    split at h
    · rename_i h1 h2
      split at h
      · cases hb : buildX ev rb pc ft (m.set i _) l with
        | none => rw [hb] at h; simp at h
        | some z =>
          obtain ⟨m2, g⟩ := z
          rw [hb] at h
          simp at h
          rw [h.2.symm]
          exact (bind_frz h1).app (buildX_frz hb)
      · simp at h
    · simp at h
theorem elemsX_frz {t : TypeId} {s : Sh} : ∀ {l : List (Nat × Operand)} {k : Nat} {e : E} {f : List Nat}, elemsX ev rb pc t s k l = some (e, f) → FrzOk rb f
  | [], _, _, _, h => by simp [elemsX] at h; rw [h.2]; exact FrzOk.nil
  | (i, x) :: l, k, _, _, h => by
    simp only [elemsX] at h
    split at h
    · simp at h
    · split at h
      · rename_i h1 h2
        split at h
        · simp at h
          rw [h.2.symm]
          exact (bind_frz h1).app (elemsX_frz h2)
        · simp at h
      · simp at h
/-- What an operation does to the blocks, by its class. -/
def ClsOk (rb : Rb) (pc : Pres) (dst : Option Tmp) (c : Cls) (out : Out) : Prop :=
  (c ≠ .call → out.nv = 0) ∧
  ((∃ f, out.cmds = f.map Cmd.frz ∧ FrzOk rb f ∧ (c = .P → f = [])) ∨ ∃ d lb, dst = some d ∧ out.cmds = [Cmd.put d ⟨lb, false, pc⟩] ∧ isNew rb d = true ∧ (c = .A ∨ c = .L))
theorem ClsOk.plain {dst : Option Tmp} {c : Cls} {x : SX} {obs : List Ob} : ClsOk rb pc dst c { x, obs } := ⟨fun _ => rfl, .inl ⟨[], rfl, FrzOk.nil, fun _ => rfl⟩⟩
theorem ClsOk.frz {dst : Option Tmp} {c : Cls} {x : SX} {obs : List Ob} {f : List Nat} (h : FrzOk rb f) (hc : c ≠ .P) : ClsOk rb pc dst c { x, obs, cmds := f.map .frz } :=
  ⟨fun _ => rfl, .inl ⟨f, rfl, h, fun e => absurd e hc⟩⟩
theorem ClsOk.put {c : Cls} {x : SX} {obs : List Ob} {d : Nat} {lb : LB} {dst : Option Tmp} (hd : dst = some d) (h : isNew rb d = true) (hc : c = .A ∨ c = .L) :
    ClsOk rb pc dst c { x, obs, cmds := [.put d ⟨lb, false, pc⟩] } := ⟨fun _ => rfl, .inr ⟨d, lb, hd, rfl, h, hc⟩⟩
theorem binX_cls {raw : Bool} {op : BinOp} {xt : TypeId} {s s' : Sh} {x y : E} {dst : Option Tmp} {c : Cls} (h : binX P raw pc op xt s x s' y = some out) : ClsOk rb pc dst c out := by
  unfold binX at h
  repeat' split at h
  all_goals first | (simp at h; done) | (simp at h; subst h; exact ClsOk.plain) | (injection h with h; subst h; exact ClsOk.plain)
theorem callV_cls {t : TypeId} {f : Nat} {pre : List (Sh × E)} {args : List Operand} {ts : List TypeId} {d : Option Tmp} (h : callV P cfg ev rb pc nv t f pre args ts = some out) : ClsOk rb pc d .call out := by
  unfold callV at h
  split at h
  · rename_i l frz rets h1 h2
    split at h
    · simp only [Option.some.injEq] at h
      subst h
      refine ⟨fun e => absurd rfl e, .inl ?_⟩
      by_cases hp : rets.all Sh.prim = true
      · simp only [hp, if_true]; exact ⟨[], rfl, FrzOk.nil, fun _ => rfl⟩
      · simp only [hp]; exact ⟨frz, rfl, argsX_frz h1, fun e => by cases e⟩
    · simp at h
  · simp at h
theorem opy_cls (h : opy P cfg o pc ev rb nv = some out) : ClsOk rb pc o.dst (cls cfg o) out := by
  unfold opy at h
  split at h
  · rename_i hop
    have hc : cls cfg o = .call := by simp [cls, hop]
    rw [hc]
    repeat' split at h
    all_goals first | exact callV_cls h | simp at h
  · simp at h
  · rename_i x args ts hx hop
    have hc : cls cfg o = .call := by
      cases x with
      | func g => exact (hx g rfl).elim
      | _ => simp [cls, hop]
    rw [hc]
    repeat' split at h
    all_goals first | exact callV_cls h | simp at h
  · repeat' split at h
    all_goals first | (simp at h; done) | (injection h with h; subst h; exact ClsOk.plain)
  · rename_i hop
    have hc : cls cfg o = .A := by simp [cls, hop]
    rw [hc]
    split at h
    · rename_i d _ hd
      split at h
      · split at h
        · rename_i hok
          simp only [Bool.and_eq_true] at hok
          injection h with h
          subst h
          exact ClsOk.put hd hok.1 (.inl rfl)
        · simp at h
      · simp at h
    · simp at h
  · rename_i hop
    have hc : cls cfg o = .L := by simp [cls, hop]
    rw [hc]
    split at h
    · rename_i d _ _ hd
      split at h
      · rename_i hok
        injection h with h
        subst h
        exact ClsOk.put hd hok (.inr rfl)
      · simp at h
    · simp at h
  · simp at h
theorem opx0_cls (h : opx0 P cfg o pc ev rb nv = some out) : ClsOk rb pc o.dst (cls cfg o) out := by
  unfold opx0 at h
  split at h
  case h_1 => split at h <;> simp at h; subst h; exact ClsOk.plain
  case h_2 => split at h <;> simp at h; subst h; exact ClsOk.plain
  case h_3 =>
    unfold pickX at h
    repeat' split at h
    all_goals first | (simp at h; done) | (simp at h; subst h; exact ClsOk.plain)
  case h_4 =>
    split at h
    · exact binX_cls h
    · simp at h
  case h_5 =>
    unfold unX at h
    split at h <;> first | (simp at h; done) | (simp at h; subst h; exact ClsOk.plain)
  case h_6 =>
    unfold convX at h
    repeat' split at h
    all_goals first | (simp at h; done) | (simp at h; subst h; exact ClsOk.plain)
  case h_7 =>
    repeat' split at h
    all_goals first | (simp at h; done) | (simp at h; subst h; exact ClsOk.plain)
  case h_8 =>
    unfold fieldX at h
    repeat' split at h
    all_goals first | (simp at h; done) | (simp at h; subst h; exact ClsOk.plain)
  case h_9 =>
    rename_i hop
    have hc : cls cfg o ≠ .P := by simp [cls, hop]
    unfold buildSX at h
    split at h
    · split at h
      · split at h
        · split at h
          · rename_i hb
            simp at h
            subst h
            exact ClsOk.frz (buildX_frz hb) hc
          · simp at h
        · simp at h
      · simp at h
    · simp at h
  case h_10 =>
    rename_i hop
    split at h
    · rename_i hl
      have hc : cls cfg o = .L := by simp [cls, hop, hl]
      unfold rowLitX at h
      split at h
      · rename_i et d _ hd
        split at h
        · simp at h
        · split at h
          · rename_i hok
            split at h
            · simp at h
              subst h
              simp only [Bool.and_eq_true] at hok
              exact ClsOk.put hd hok.1.1.1.1.1 (.inr hc)
            · simp at h
          · simp at h
      · simp at h
    · rename_i hl
      have hc : cls cfg o ≠ .P := by simp [cls, hop, hl]
      unfold buildSlX at h
      split at h
      · simp at h
      · split at h
        · simp at h
        · split at h
          · split at h
            · rename_i hb
              simp at h
              subst h
              exact ClsOk.frz (elemsX_frz hb) hc
            · simp at h
          · simp at h
  case h_11 =>
    rename_i hop
    have hc : cls cfg o = .A := by simp [cls, hop]
    unfold allocX at h
    split at h
    · rename_i s d _ hd
      split at h
      · split at h
        · rename_i hok
          simp at h
          subst h
          simp only [Bool.and_eq_true] at hok
          exact ClsOk.put hd hok.1.1 (.inl hc)
        · simp at h
      · simp at h
    · simp at h
  case h_12 =>
    rename_i hop
    have hc : cls cfg o = .L := by simp [cls, hop]
    unfold boxX at h
    split at h
    · rename_i s e d _ hd
      split at h
      · rename_i hok
        simp at h
        subst h
        simp only [Bool.and_eq_true] at hok
        exact ClsOk.put hd hok.1 (.inr hc)
      · simp at h
    · rename_i r n d _ hd
      split at h
      · split at h
        · rename_i hok
          simp at h
          subst h
          simp only [Bool.and_eq_true] at hok
          exact ClsOk.put hd hok.1 (.inr hc)
        · simp at h
      · simp at h
    · simp at h
  case h_13 =>
    rename_i hop
    have hc : cls cfg o ≠ .P := by simp [cls, hop]
    unfold loadX at h
    split at h
    · split at h <;> simp at h; subst h; exact ClsOk.plain
    · split at h
      · split at h
        · repeat' split at h
          all_goals first | (simp at h; done) | (simp at h; subst h; exact ClsOk.plain)
        · split at h
          · split at h
            · split at h
              · rename_i hu
                simp at h
                subst h
                exact ClsOk.frz (unflat_frz hu) hc
              · simp at h
            · split at h <;> simp at h; subst h; exact ClsOk.plain
          · simp at h
        · simp at h
      · simp at h
    · simp at h
  case h_14 =>
    unfold nilX at h
    repeat' split at h
    all_goals first | (simp at h; done) | (simp at h; subst h; exact ClsOk.plain)
  case h_15 =>
    unfold faddrX at h
    repeat' split at h
    all_goals first | (simp at h; done) | (simp at h; subst h; exact ClsOk.plain)
  case h_16 =>
    unfold iaddrX at h
    repeat' split at h
    all_goals first | (simp at h; done) | (simp at h; subst h; exact ClsOk.plain)
  case h_17 =>
    unfold indexX at h
    repeat' split at h
    all_goals first | (simp at h; done) | (simp at h; subst h; exact ClsOk.plain)
  case h_18 =>
    unfold sliceX at h
    repeat' split at h
    all_goals first | (simp at h; done) | (simp at h; subst h; exact ClsOk.plain)
  case h_19 =>
    rename_i hop
    have hc : cls cfg o = .A := by simp [cls, hop]
    unfold makeX at h
    split at h
    · rename_i et kl l kc c d _ _ _ hd
      split at h
      · simp at h
      · split at h
        · split at h
          · rename_i hok
            simp at h
            subst h
            simp only [Bool.and_eq_true] at hok
            exact ClsOk.put hd hok.1.1.1 (.inl hc)
          · simp at h
        · simp at h
    · simp at h
  case h_20 =>
    unfold builtinX lenX mmX at h
    repeat' split at h
    all_goals first | (simp at h; done) | (simp at h; subst h; exact ClsOk.plain)
  case h_21 =>
    rename_i hop
    split at h
    · simp at h
    rename_i hown
    have hc : cls cfg o = .call := by simp [cls, hop, hown]
    split at h
    · unfold callN at h
      split at h
      · simp only [Option.some.injEq] at h
        subst h
        exact ⟨fun e => absurd hc e, .inl ⟨[], rfl, FrzOk.nil, fun _ => rfl⟩⟩
      · simp at h
    unfold callX at h
    split at h
    · rename_i l frz rets h1 h2
      split at h
      · simp only [Option.some.injEq] at h
        subst h
        refine ⟨fun e => absurd hc e, .inl ?_⟩
        by_cases hp : rets.all Sh.prim = true
        · simp only [hp, if_true]; exact ⟨[], rfl, FrzOk.nil, fun _ => rfl⟩
        · simp only [hp]; exact ⟨frz, rfl, argsX_frz h1, fun e => by rw [hc] at e; cases e⟩
      · simp at h
    · simp at h
  case h_22 => exact opy_cls h
theorem opx_cls (h : opx P cfg o pc ev rb nv = some out) : ClsOk rb pc o.dst (cls cfg o) out := by
  rcases opx_cases h with ⟨_, rfl⟩ | ⟨_, h⟩ | ⟨_, _, h⟩
  · exact ClsOk.plain
  · obtain ⟨h1, h2, _⟩ := preX_out h
    exact ⟨fun _ => h2, .inl ⟨[], h1, FrzOk.nil, fun _ => rfl⟩⟩
  · exact opx0_cls h

theorem rbOf_frz (bs : List Blk) : ∀ f : List Nat, rbOf (runCmds (f.map .frz) bs) = rbOf bs := by
  intro f
  induction f generalizing bs with
  | nil => rfl
  | cons r f ih =>
    change rbOf (runCmds (f.map .frz) (bs.modify r fun b => { b with froz := true })) = _
    rw [ih]
    funext q
    unfold rbOf
    rw [List.getElem?_modify]
    cases bs[q]? with
    | none => simp
    | some b => by_cases hr : r = q <;> simp [hr]
theorem modify_comm (bs : List Blk) (r q : Nat) : (bs.modify r fun b => { b with froz := true }).modify q (fun b => { b with froz := true }) = (bs.modify q fun b => { b with froz := true }).modify r (fun b => { b with froz := true }) := by
  apply List.ext_getElem?
  intro i
  simp only [List.getElem?_modify]
  cases bs[i]? with
  | none => simp
  | some b => by_cases h1 : r = i <;> by_cases h2 : q = i <;> simp [h1, h2]
theorem frz_one (q : Nat) : ∀ (f : List Nat) (bs : List Blk), runCmds (f.map .frz) (bs.modify q fun b => { b with froz := true }) = (runCmds (f.map .frz) bs).modify q fun b => { b with froz := true }
  | [], _ => rfl
  | r :: f, bs => by
    change runCmds (f.map .frz) ((bs.modify q _).modify r _) = (runCmds (f.map .frz) (bs.modify r _)).modify q _
    rw [modify_comm, frz_one q f]
theorem frz_frz : ∀ (f g : List Nat) (bs : List Blk), runCmds (f.map .frz) (runCmds (g.map .frz) bs) = runCmds (g.map .frz) (runCmds (f.map .frz) bs)
  | [], _, _ => rfl
  | r :: f, g, bs => by
    change runCmds (f.map .frz) ((runCmds (g.map .frz) bs).modify r _) = runCmds (g.map .frz) (runCmds (f.map .frz) (bs.modify r _))
    rw [← frz_one r g, frz_frz f g]
theorem frz_set {d : Nat} (b : Blk) : ∀ (f : List Nat) (bs : List Blk), d ∉ f → runCmds (f.map .frz) (bs.set d b) = (runCmds (f.map .frz) bs).set d b
  | [], _, _ => rfl
  | r :: f, bs, h => by
    simp only [List.mem_cons, not_or] at h
    change runCmds (f.map .frz) ((bs.set d b).modify r _) = (runCmds (f.map .frz) (bs.modify r _)).set d b
    rw [← frz_set b f _ h.2]
    congr 1
    apply List.ext_getElem?
    intro i
    simp only [List.getElem?_modify, List.getElem?_set, List.length_modify]
    by_cases h1 : d = i
    · subst h1
      by_cases h2 : d < bs.length <;> simp [h2, Ne.symm h.1]
    · simp [h1]
theorem made_new {r : Nat} (h : Made rb r) (hn : isNew rb r = true) : False := by
  obtain ⟨b, h1, h2⟩ := h
  unfold isNew at hn
  split at hn
  · rename_i hr
    rw [h1] at hr
    injection hr with hr
    subst hr
    exact h2 rfl
  · simp at hn
theorem cmds_comm {bs : List Blk} {pc pc' : Pres} {dst dst' : Option Tmp} {c c' : Cls} {out out' : Out} (hd : ∀ d, dst = some d → dst' ≠ some d)
    (h : ClsOk (rbOf bs) pc dst c out) (h' : ClsOk (rbOf bs) pc' dst' c' out') : runCmds out.cmds (runCmds out'.cmds bs) = runCmds out'.cmds (runCmds out.cmds bs) := by
  obtain ⟨-, h⟩ := h
  obtain ⟨-, h'⟩ := h'
  rcases h with ⟨f, e, hf, -⟩ | ⟨d, lb, e0, e, hn, -⟩ <;> rcases h' with ⟨f', e', hf', -⟩ | ⟨d', lb', e0', e', hn', -⟩ <;> rw [e, e']
  · exact frz_frz _ _ _
  · exact frz_set _ f bs (fun hm => made_new (hf _ hm) hn')
  · exact (frz_set _ f' bs (fun hm => made_new (hf' _ hm) hn)).symm
  · change (bs.set d' _).set d _ = (bs.set d _).set d' _
    exact List.set_comm _ _ (fun e1 => hd d e0 (by rw [e0', e1]))
theorem cls_le {bs : List Blk} {dst : Option Tmp} {c : Cls} {out : Out} (h : ClsOk (rbOf bs) pc dst c out) : RbLe (rbOf bs) (rbOf (runCmds out.cmds bs)) := by
  obtain ⟨-, h⟩ := h
  rcases h with ⟨f, e, hf, -⟩ | ⟨d, lb, e0, e, hn, -⟩ <;> rw [e]
  · rw [rbOf_frz]; exact fun r b hb _ => hb
  · intro r b hb hl
    change rbOf (bs.set d _) r = _
    have hne : d ≠ r := fun e1 => by subst e1; exact made_new ⟨b, hb, hl⟩ hn
    unfold rbOf at hb ⊢
    rw [List.getElem?_set_ne hne]
    exact hb
theorem cls_new {bs : List Blk} {dst : Option Tmp} {c : Cls} {out : Out} {q : Nat} (h : ClsOk (rbOf bs) pc dst c out) (hq : dst ≠ some q) : isNew (rbOf (runCmds out.cmds bs)) q = isNew (rbOf bs) q := by
  obtain ⟨-, h⟩ := h
  rcases h with ⟨f, e, hf, -⟩ | ⟨d, lb, e0, e, hn, -⟩ <;> rw [e]
  · rw [rbOf_frz]
  · change isNew (rbOf (bs.set d _)) q = _
    have hne : d ≠ q := fun e1 => by subst e1; exact hq e0
    unfold isNew rbOf
    rw [List.getElem?_set_ne hne]

/-- A step, but for its guard and its temporary. -/
def core (P : Program) (cfg : Cfg) (o : Oper) (pc : Pres) (ev : Ev) (bs : List Blk) (nv : Nat) : Option (SX × List Blk × Nat × List Ob) :=
  if cls cfg o = .W then
    if pc = [] then match opw P cfg o ev bs with
      | some (x, bs, obs) => if obVars obs = 0 then some (x, bs, 0, obs) else none
      | none => none
    else none
  else if cls cfg o = .G then
    if pc = [] then match opg P cfg o ev bs nv with
      | some (x, bs, obs, n) => if obVars obs = n then some (x, bs, n, obs) else none
      | none => none
    else none
  else match opx P cfg o pc ev (rbOf bs) nv with
    | some out => if obVars out.obs = out.nv then some (out.x, runCmds out.cmds bs, out.nv, out.obs) else none
    | none => none
theorem astep_core {ops : List Oper} {S S' : SS} {obs : List Ob} : astep P cfg ops o S = some (S', obs) ↔
    ∃ pc x bs n, guardPres S ops o = some pc ∧ core P cfg o pc (S.ev P) S.blks S.nv = some (x, bs, n, obs) ∧ S' = { tmps := putT S.tmps o.dst ⟨pc, x⟩, blks := bs, nv := S.nv + n } := by
  unfold astep core
  cases hg : guardPres S ops o with
  | none => simp
  | some pc =>
    simp only [Option.some.injEq]
    by_cases hw : cls cfg o = .W
    · simp only [hw, if_true]
      by_cases hp : pc = []
      · subst hp
        simp only [if_true]
        cases ho : opw P cfg o (S.ev P) S.blks with
        | none => simp
        | some y =>
          obtain ⟨x, bs, ob⟩ := y
          simp only
          by_cases hv : obVars ob = 0
          · simp only [hv, if_true, Option.some.injEq, Prod.mk.injEq]
            constructor
            · rintro ⟨rfl, rfl⟩; exact ⟨[], x, bs, 0, rfl, by simp, rfl⟩
            · rintro ⟨_, _, _, _, rfl, h, rfl⟩
              simp at h
              obtain ⟨rfl, rfl, rfl, rfl⟩ := h
              exact ⟨rfl, rfl⟩
          · simp [hv]
      · simp only [hp, if_false]
        simp
        intro _ _ _ h
        exact absurd h hp
    by_cases hw' : cls cfg o = .G
    · simp only [hw', if_true, if_neg (show ¬ (Cls.G = Cls.W) by simp)]
      by_cases hp : pc = []
      · subst hp
        simp only [if_true]
        cases ho : opg P cfg o (S.ev P) S.blks S.nv with
        | none => simp
        | some y =>
          obtain ⟨x, bs, ob, n⟩ := y
          simp only
          by_cases hv : obVars ob = n
          · simp only [hv, if_true, Option.some.injEq, Prod.mk.injEq]
            constructor
            · rintro ⟨rfl, rfl⟩; exact ⟨[], x, bs, n, rfl, by simp, rfl⟩
            · rintro ⟨_, _, _, _, rfl, h, rfl⟩
              simp at h
              obtain ⟨rfl, rfl, rfl, rfl⟩ := h
              exact ⟨rfl, rfl⟩
          · simp [hv]
      · simp only [hp, if_false]
        simp
        intro _ _ _ h
        exact absurd h hp
    · simp only [hw, hw', if_false]
      change (match opx P cfg o pc (S.ev P) (rbOf S.blks) S.nv with | some out => _ | none => none) = _ ↔ _
      cases ho : opx P cfg o pc (S.ev P) (rbOf S.blks) S.nv with
      | none =>
        simp
        intro _ _ _ h
        simp [ho] at h
      | some out =>
        simp only
        by_cases hv : obVars out.obs = out.nv
        · simp only [hv, if_true, Option.some.injEq, Prod.mk.injEq]
          constructor
          · rintro ⟨rfl, rfl⟩; exact ⟨pc, out.x, _, out.nv, rfl, by simp [ho, hv], rfl⟩
          · rintro ⟨_, _, _, _, rfl, h, rfl⟩
            simp [ho, hv] at h
            obtain ⟨rfl, rfl, rfl, rfl⟩ := h
            exact ⟨rfl, rfl⟩
        · simp [hv]
          intro _ _ _ h
          simp [ho, hv] at h
theorem core_congr {bs : List Blk} (h : EvEq o.op.operands.toList ev ev') : core P cfg o pc ev bs nv = core P cfg o pc ev' bs nv := by
  unfold core
  rw [opw_congr h, opg_congr h, opx_congr h]
theorem core_opx {bs bs' : List Blk} {x : SX} {n : Nat} {obs : List Ob} (hw : cls cfg o ≠ .W) (hw' : cls cfg o ≠ .G) : core P cfg o pc ev bs nv = some (x, bs', n, obs) ↔
    ∃ out, opx P cfg o pc ev (rbOf bs) nv = some out ∧ obVars out.obs = out.nv ∧ x = out.x ∧ bs' = runCmds out.cmds bs ∧ n = out.nv ∧ obs = out.obs := by
  unfold core
  rw [if_neg hw, if_neg hw']
  cases ho : opx P cfg o pc ev (rbOf bs) nv with
  | none => simp
  | some out =>
    simp only
    by_cases hv : obVars out.obs = out.nv
    · simp only [hv, if_true, Option.some.injEq, Prod.mk.injEq]
      constructor
      · rintro ⟨rfl, rfl, rfl, rfl⟩; exact ⟨out, rfl, hv, rfl, rfl, rfl, rfl⟩
      · rintro ⟨_, rfl, _, rfl, rfl, rfl, rfl⟩; exact ⟨rfl, rfl, rfl, rfl⟩
    · rw [if_neg hv]
      constructor
      · intro h; cases h
      · rintro ⟨_, h, h2, _⟩; injection h with h; subst h; exact absurd h2 hv
/-- Two operations that do not meet. -/
theorem core_comm {a x : Oper} {pc pc' : Pres} {bs bs1 bs2 : List Blk} {x1 x2 : SX} {n1 n2 : Nat} {ob1 ob2 : List Ob} (hd : ∀ d, a.dst = some d → x.dst ≠ some d)
    (hc : (match cls cfg a, cls cfg x with
      | .P, _ | _, .P => true
      | .R, .R | .R, .call | .call, .R | .R, .A | .call, .A | .R, .L | .call, .L | .A, .A | .L, .A => true
      | _, _ => false) = true)
    (h1 : core P cfg a pc ev bs nv = some (x1, bs1, n1, ob1)) (h2 : core P cfg x pc' ev' bs1 (nv + n1) = some (x2, bs2, n2, ob2)) :
    ∃ bs1', core P cfg x pc' ev' bs nv = some (x2, bs1', n2, ob2) ∧ core P cfg a pc ev bs1' (nv + n2) = some (x1, bs2, n1, ob1) ∧ (n1 = 0 ∨ n2 = 0) := by
  by_cases hPa : cls cfg a = .P
  · have hw : cls cfg a ≠ .W := by rw [hPa]; simp
    have hw' : cls cfg a ≠ .G := by rw [hPa]; simp
    obtain ⟨out, ho, hv, rfl, rfl, rfl, rfl⟩ := (core_opx hw hw').1 h1
    obtain ⟨hn, hc'⟩ := opx_cls ho
    have hn0 := hn (by rw [hPa]; simp)
    have he : out.cmds = [] := by
      rcases hc' with ⟨f, e, _, hf⟩ | ⟨d, lb, _, _, _, hh⟩
      · rw [e, hf hPa]; rfl
      · rw [hPa] at hh; simp at hh
    rw [hn0, he] at h2
    refine ⟨bs2, h2, (core_opx hw hw').2 ⟨out, ?_, hv, rfl, ?_, rfl, rfl⟩, .inl hn0⟩
    · rw [opx_P hPa (rb' := rbOf bs), opx_nv (by rw [hPa]; simp) (nv' := nv)]; exact ho
    · rw [he]; rfl
  by_cases hPx : cls cfg x = .P
  · have hw : cls cfg x ≠ .W := by rw [hPx]; simp
    have hw' : cls cfg x ≠ .G := by rw [hPx]; simp
    obtain ⟨out, ho, hv, rfl, rfl, rfl, rfl⟩ := (core_opx hw hw').1 h2
    obtain ⟨hn, hc'⟩ := opx_cls ho
    have hn0 := hn (by rw [hPx]; simp)
    have he : out.cmds = [] := by
      rcases hc' with ⟨f, e, _, hf⟩ | ⟨d, lb, _, _, _, hh⟩
      · rw [e, hf hPx]; rfl
      · rw [hPx] at hh; simp at hh
    refine ⟨bs, (core_opx hw hw').2 ⟨out, ?_, hv, rfl, by rw [he]; rfl, rfl, rfl⟩, ?_, .inr hn0⟩
    · rw [opx_P hPx (rb' := rbOf bs1), opx_nv (by rw [hPx]; simp) (nv' := nv + n1)]; exact ho
    · rw [hn0, he]; exact h1
  have hwa : cls cfg a ≠ .W := fun e => by rw [e] at hc; revert hc; cases hx : cls cfg x <;> simp; exact hPx hx
  have hwx : cls cfg x ≠ .W := fun e => by rw [e] at hc; revert hc; cases hx : cls cfg a <;> simp; exact hPa hx
  have hga : cls cfg a ≠ .G := fun e => by rw [e] at hc; revert hc; cases hx : cls cfg x <;> simp; exact hPx hx
  have hgx : cls cfg x ≠ .G := fun e => by rw [e] at hc; revert hc; cases hx : cls cfg a <;> simp; exact hPa hx
  obtain ⟨out, ho, hv, rfl, rfl, rfl, rfl⟩ := (core_opx hwa hga).1 h1
  obtain ⟨out', ho', hv', rfl, rfl, rfl, rfl⟩ := (core_opx hwx hgx).1 h2
  have hca := opx_cls ho
  have hnv : out.nv = 0 ∨ out'.nv = 0 := by
    by_cases h : cls cfg a = .call
    · refine .inr ((opx_cls ho').1 fun e => ?_)
      rw [h, e] at hc
      simp at hc
    · exact .inl (hca.1 h)
  have hnx : cls cfg x ≠ .call ∨ out.nv = 0 := by
    by_cases h : cls cfg x = .call
    · refine .inr (hca.1 fun e => ?_)
      rw [h, e] at hc
      simp at hc
    · exact .inl h
  have hna : cls cfg a ≠ .call ∨ out'.nv = 0 := by
    by_cases h : cls cfg a = .call
    · refine .inr ((opx_cls ho').1 fun e => ?_)
      rw [h, e] at hc
      simp at hc
    · exact .inl h
  have hox : opx P cfg x pc' ev' (rbOf bs) nv = some out' := by
    have e1 : opx P cfg x pc' ev' (rbOf (runCmds out.cmds bs)) nv = some out' := by
      rcases hnx with h | h
      · rw [opx_nv h (nv' := nv + out.nv)]; exact ho'
      · rw [h] at ho'; exact ho'
    rcases hca.2 with ⟨f, e, hf, _⟩ | ⟨d, lb, e0, e, hn, hh⟩
    · rw [e, rbOf_frz] at e1
      exact e1
    · have hxA : cls cfg x = .A := by
        rcases hh with hh | hh <;> rw [hh] at hc <;> revert hc <;> cases hx : cls cfg x <;> simp
        · exact hPx hx
        · exact hPx hx
      rw [opx_A hxA (rb' := rbOf (runCmds out.cmds bs)) fun d' hd' => (cls_new hca (fun e2 => hd d' e2 hd')).symm]
      exact e1
  have hcx := opx_cls hox
  refine ⟨runCmds out'.cmds bs, (core_opx hwx hgx).2 ⟨out', hox, hv', rfl, rfl, rfl, rfl⟩, (core_opx hwa hga).2 ⟨out, ?_, hv, rfl, (cmds_comm hd hca hcx).symm, rfl, rfl⟩, hnv⟩
  have e1 := opx_le (cls_le hcx) (fun d hd' hn => by rw [cls_new hcx (hd d hd')]; exact hn) ho
  rcases hna with h | h
  · rw [opx_nv h (nv' := nv)]; exact e1
  · rw [h]; exact e1

theorem tmps_putT {l : List TS} {d : Option Tmp} {t : TS} {i : Nat} (h : d ≠ some i) : (putT l d t)[i]? = l[i]? := by
  cases d with
  | none => rfl
  | some d => exact List.getElem?_set_ne (fun e => h (by rw [e]))
/-- States that agree on the temporaries that an operation looks at. -/
theorem guardPres_congr {S S' : SS} {ops : List Oper} (h : ∀ t ∈ looks ops o, S'.tmps[t]? = S.tmps[t]?) : guardPres S' ops o = guardPres S ops o := by
  unfold guardPres
  unfold looks at h
  cases hg : o.guard with
  | none => rfl
  | some g =>
    obtain ⟨j, want⟩ := g
    simp only
    cases hd : (ops[j]?).bind (·.dst) with
    | none => rfl
    | some d => simp only [Option.bind_some]; rw [h d (by simp [hg, hd])]
theorem ev_congr {S S' : SS} {ops : List Oper} (h : ∀ t ∈ looks ops o, S'.tmps[t]? = S.tmps[t]?) : EvEq o.op.operands.toList (S'.ev P) (S.ev P) := by
  intro x hx pc t
  unfold SS.ev
  cases x with
  | tmp i =>
    simp only
    rw [h i (List.mem_append_left _ (List.mem_filterMap.2 ⟨.tmp i, by simpa using hx, rfl⟩))]
  | _ => rfl
theorem putT_comm {l : List TS} {d d' : Option Tmp} {t t' : TS} (h : ∀ x, d = some x → d' ≠ some x) : putT (putT l d t) d' t' = putT (putT l d' t') d t := by
  cases d with
  | none => rfl
  | some d =>
    cases d' with
    | none => rfl
    | some d' => exact List.set_comm _ _ (fun e => h d rfl (by rw [e]))
/-- Two steps change places. -/
theorem astep_comm {ops : List Oper} {a x : Oper} {S S1 S2 : SS} {ob1 ob2 : List Ob} (hi : indep cfg ops a x = true) (h1 : astep P cfg ops a S = some (S1, ob1)) (h2 : astep P cfg ops x S1 = some (S2, ob2)) :
    ∃ S1', astep P cfg ops x S = some (S1', ob2) ∧ astep P cfg ops a S1' = some (S2, ob1) ∧ (obVars ob1 = 0 ∨ obVars ob2 = 0) := by
  have hv1 := astep_nv h1
  have hv2 := astep_nv h2
  obtain ⟨pc, x1, bs1, n1, hg, hcore, rfl⟩ := astep_core.1 h1
  obtain ⟨pc', x2, bs2, n2, hg', hcore', rfl⟩ := astep_core.1 h2
  simp only [indep, Bool.and_eq_true] at hi
  obtain ⟨hi1, hi2, hi3⟩ := hi
  have hlx : ∀ t ∈ looks ops x, a.dst ≠ some t := by
    intro t ht e
    rw [e] at hi1
    simp at hi1
    exact hi1.1 ht
  have hdd : ∀ d, a.dst = some d → x.dst ≠ some d := by
    intro d e
    rw [e] at hi1
    simp at hi1
    exact hi1.2
  have hla : ∀ t ∈ looks ops a, x.dst ≠ some t := by
    intro t ht e
    rw [e] at hi2
    simp at hi2
    exact hi2 ht
  have ax : ∀ t ∈ looks ops x, (putT S.tmps a.dst ⟨pc, x1⟩)[t]? = S.tmps[t]? := fun t ht => tmps_putT (hlx t ht)
  have aa : ∀ t ∈ looks ops a, (putT S.tmps x.dst ⟨pc', x2⟩)[t]? = S.tmps[t]? := fun t ht => tmps_putT (hla t ht)
  rw [guardPres_congr (S := S) ax] at hg'
  rw [core_congr (ev_congr (S := S) ax)] at hcore'
  obtain ⟨bs1', e1, e2, e3⟩ := core_comm hdd hi3 hcore hcore'
  refine ⟨{ tmps := putT S.tmps x.dst ⟨pc', x2⟩, blks := bs1', nv := S.nv + n2 }, astep_core.2 ⟨pc', x2, bs1', n2, hg', e1, rfl⟩,
    astep_core.2 ⟨pc, x1, bs2, n1, ?_, ?_, ?_⟩, ?_⟩
  · rw [guardPres_congr (S := S) aa]; exact hg
  · rw [core_congr (ev_congr (S := S) aa)]; exact e2
  · rw [SS.mk.injEq]
    exact ⟨putT_comm hdd, rfl, by simp only; omega⟩
  · simp only [obVars] at *
    rcases e3 with h | h
    · left; omega
    · right; omega
theorem runOps_nv {ops : List Oper} : ∀ {l : List Oper} {S S' : SS} {obs : List Ob}, runOps P cfg ops l S = some (S', obs) → S'.nv = S.nv + obVars obs
  | [], S, S', obs, h => by simp [runOps] at h; obtain ⟨rfl, rfl⟩ := h; simp [obVars]
  | o :: l, S, S', obs, h => by
    simp only [runOps] at h
    split at h
    · simp at h
    · rename_i S1 ob1 h1
      split at h
      · simp at h
      · rename_i S2 ob2 h2
        simp at h
        obtain ⟨rfl, rfl⟩ := h
        have e1 := astep_nv h1
        have e2 := runOps_nv h2
        simp only [obVars, List.map_append, List.sum_append] at *
        omega
theorem obsHold_any {ρ : List C} : ∀ (l : List Ob) (m m' : Nat), (l.map Ob.vars).sum = 0 → obsHold P ρ m l → obsHold P ρ m' l := by
  intro l
  induction l with
  | nil => exact fun _ _ _ h => h
  | cons o l ih =>
    intro m m' hs hh
    simp only [List.map_cons, List.sum_cons] at hs
    have h0 : o.vars = 0 := by omega
    refine ⟨?_, ?_⟩
    · have := hh.1
      cases o with
      | asrt p e => exact this
      | call p f args rets =>
        simp only [Ob.vars] at h0
        have hr : rets = [] := List.length_eq_zero_iff.1 h0
        subst hr
        exact fun hp => ⟨(this hp).1, .inl rfl⟩
    · rw [h0]; have := hh.2; rw [h0] at this; exact ih _ _ (by omega) this
/-- An operation goes ahead. -/
theorem runOps_move {ρ : List C} {ops : List Oper} {x : Oper} {post : List Oper} : ∀ {pre : List Oper} {S S' : SS} {obs : List Ob}, (∀ a ∈ pre, indep cfg ops a x = true) →
    runOps P cfg ops (pre ++ x :: post) S = some (S', obs) → obsHold P ρ S.nv obs →
    ∃ S1 ob1 ob2, astep P cfg ops x S = some (S1, ob1) ∧ runOps P cfg ops (pre ++ post) S1 = some (S', ob2) ∧ obsHold P ρ S.nv ob1 ∧ obsHold P ρ S1.nv ob2
  | [], S, S', obs, _, h, ho => by
    simp only [List.nil_append, runOps] at h
    split at h
    · simp at h
    · rename_i S1 ob1 h1
      split at h
      · simp at h
      · rename_i S2 ob2 h2
        simp at h
        obtain ⟨rfl, rfl⟩ := h
        rw [obsHold_app] at ho
        exact ⟨S1, ob1, ob2, h1, h2, ho.1, by rw [astep_nv h1]; exact ho.2⟩
  | a :: pre, S, S', obs, hi, h, ho => by
    simp only [List.cons_append, runOps] at h
    split at h
    · simp at h
    · rename_i Sa oba ha
      split at h
      · simp at h
      · rename_i S2 ob2 h2
        simp at h
        obtain ⟨rfl, rfl⟩ := h
        rw [obsHold_app] at ho
        obtain ⟨S3, ob3, ob4, h3, h4, ho3, ho4⟩ := runOps_move (fun a' ha' => hi a' (by simp [ha'])) h2 (by rw [astep_nv ha]; exact ho.2)
        obtain ⟨S1', e1, e2, e3⟩ := astep_comm (hi a (by simp)) ha h3
        have n1 := astep_nv ha
        have n2 := astep_nv h3
        have n3 := astep_nv e1
        have n4 := astep_nv e2
        simp only [obVars] at e3
        refine ⟨S1', ob3, oba ++ ob4, e1, ?_, ?_, ?_⟩
        · simp only [List.cons_append, runOps, e2, h4]
        · rcases e3 with e | e
          · rw [show S.nv = Sa.nv by omega]; exact ho3
          · exact obsHold_any _ _ _ e ho3
        · rw [obsHold_app]
          refine ⟨?_, by rw [← n4]; exact ho4⟩
          rcases e3 with e | e
          · exact obsHold_any _ _ _ e ho.1
          · rw [show S1'.nv = S.nv by omega]; exact ho.1
end
end Go.Vc

/-
  Part R: a region, in its text's order or in any.
-/
namespace Go.Vc
section
variable {P : Program} {cfg : Cfg} {N0 : Nat → Prop} {w0 : Wb} {ρ : List C} {Q : Exit → Act → World → Prop}
/-- The operations that are not listed yet, from the k-th on. -/
def rem (listed : Array Bool) : Nat → List Oper → List Oper
  | _, [] => []
  | k, o :: l => if listed.getD k true then rem listed (k + 1) l else o :: rem listed (k + 1) l
theorem rem_split {listed : Array Bool} : ∀ {l : List Oper} {k i : Nat} {x : Oper}, l[i]? = some x → listed.getD (k + i) true = false →
    rem listed k l = rem listed k (l.take i) ++ x :: rem listed (k + i + 1) (l.drop (i + 1))
  | [], _, _, _, h, _ => by simp at h
  | o :: l, k, 0, x, h, hl => by
    simp at h hl
    subst h
    simp [rem, hl]
  | o :: l, k, i + 1, x, h, hl => by
    have ih := rem_split (listed := listed) (l := l) (k := k + 1) (i := i) (x := x) (by simpa using h) (by rw [← hl]; congr 1; omega)
    simp only [List.take_succ_cons, List.drop_succ_cons, rem]
    rw [ih, show k + 1 + i + 1 = k + (i + 1) + 1 by omega]
    split <;> simp
theorem rem_congr {listed listed' : Array Bool} : ∀ {l : List Oper} {k : Nat}, (∀ j, k ≤ j → j < k + l.length → listed'.getD j true = listed.getD j true) → rem listed' k l = rem listed k l
  | [], _, _ => rfl
  | o :: l, k, h => by
    simp only [rem]
    rw [h k (Nat.le_refl _) (by simp), rem_congr (l := l) fun j h1 h2 => h j (by omega) (by simp; omega)]
theorem rem_set {listed : Array Bool} : ∀ {l : List Oper} {k i : Nat} {x : Oper}, l[i]? = some x → listed.getD (k + i) true = false → k + i < listed.size →
    rem (listed.setIfInBounds (k + i) true) k l = rem listed k (l.take i) ++ rem listed (k + i + 1) (l.drop (i + 1))
  | [], _, _, _, h, _, _ => by simp at h
  | o :: l, k, 0, x, h, hl, hs => by
    have e1 : (listed.setIfInBounds k true).getD k true = true := by
      simp at hs
      simp [Array.getD, hs]
    simp only [Nat.add_zero, List.take_zero, rem, List.nil_append, e1, if_true]
    simp only [List.drop_succ_cons, List.drop_zero]
    exact rem_congr fun j h1 _ => getD_set_ne true (by omega)
  | o :: l, k, i + 1, x, h, hl, hs => by
    have ih := rem_set (listed := listed) (l := l) (k := k + 1) (i := i) (x := x) (by simpa using h) (by rw [← hl]; congr 1; omega) (by omega)
    simp only [List.take_succ_cons, List.drop_succ_cons, rem]
    rw [show k + 1 + i = k + (i + 1) by omega] at ih
    rw [ih, getD_set_ne true (by omega)]
    split <;> simp
theorem mem_rem {listed : Array Bool} : ∀ {l : List Oper} {k : Nat} {a : Oper}, a ∈ rem listed k l → ∃ j, l[j]? = some a ∧ listed.getD (k + j) true = false
  | [], _, _, h => by simp [rem] at h
  | o :: l, k, a, h => by
    simp only [rem] at h
    split at h
    · obtain ⟨j, h1, h2⟩ := mem_rem h
      exact ⟨j + 1, by simpa using h1, by rw [← h2]; congr 1; omega⟩
    · rename_i hk
      rcases List.mem_cons.1 h with h | h
      · subst h; exact ⟨0, rfl, by simpa using hk⟩
      · obtain ⟨j, h1, h2⟩ := mem_rem h
        exact ⟨j + 1, by simpa using h1, by rw [← h2]; congr 1; omega⟩
theorem rem_nil {listed : Array Bool} {l : List Oper} {k : Nat} (h : ∀ j, j < l.length → listed.getD (k + j) true = true) : rem listed k l = [] := by
  cases hr : rem listed k l with
  | nil => rfl
  | cons a r =>
    obtain ⟨j, h1, h2⟩ := mem_rem (listed := listed) (l := l) (k := k) (a := a) (by rw [hr]; simp)
    rw [h j (List.getElem?_eq_some_iff.1 h1).1] at h2
    cases h2

theorem fold_bits (acc : List Nat) : ∀ (l : List Edge) (m j : Nat), (l.foldl (fun m e => if Region.binds .any e then m ||| 2 ^ e.on ||| acc.getD e.on 0 else m) m).testBit j = true →
    m.testBit j = true ∨ ∃ e ∈ l, Region.binds .any e = true ∧ (j = e.on ∨ (acc.getD e.on 0).testBit j = true)
  | [], m, j, h => .inl h
  | e :: l, m, j, h => by
    simp only [List.foldl_cons] at h
    rcases fold_bits acc l _ j h with h | ⟨e', h1, h2, h3⟩
    · split at h
      · rename_i hb
        simp only [Nat.testBit_or, Bool.or_eq_true, Nat.testBit_two_pow, decide_eq_true_eq] at h
        rcases h with (h | h) | h
        · exact .inl h
        · exact .inr ⟨e, by simp, hb, .inl h.symm⟩
        · exact .inr ⟨e, by simp, hb, .inr h⟩
      · exact .inl h
    · exact .inr ⟨e', by simp [h1], h2, h3⟩
theorem ancs_old : ∀ (l : List Oper) (acc : List Nat) (i : Nat), i < acc.length → (ancs l acc).getD i 0 = acc.getD i 0
  | [], _, _, _ => rfl
  | o :: l, acc, i, h => by
    simp only [ancs]
    rw [ancs_old l _ i (by simp; omega)]
    simp [List.getD, List.getElem?_append_left h]
theorem ancs_spec : ∀ (l : List Oper) (acc : List Nat) (k : Nat) (o : Oper) (j : Nat), l[k]? = some o → ((ancs l acc).getD (acc.length + k) 0).testBit j = true →
    ∃ e ∈ o.after.toList, Region.binds .any e = true ∧ (j = e.on ∨ ((ancs l acc).getD e.on 0).testBit j = true)
  | [], _, _, _, _, h, _ => by simp at h
  | o :: l, acc, 0, x, j, h, hb => by
    simp at h
    subst h
    simp only [ancs, Nat.add_zero] at hb ⊢
    rw [ancs_old l _ acc.length (by simp)] at hb
    simp only [List.getD, List.getElem?_append_right (Nat.le_refl _), Nat.sub_self, List.getElem?_cons_zero, Option.getD_some] at hb
    rcases fold_bits acc _ 0 j hb with h | ⟨e, h1, h2, h3⟩
    · simp at h
    · refine ⟨e, h1, h2, h3.imp id fun h => ?_⟩
      have hlt : e.on < acc.length := by
        rcases Nat.lt_or_ge e.on acc.length with h' | h'
        · exact h'
        · simp [List.getD, List.getElem?_eq_none h'] at h
      rw [ancs_old l _ e.on (by simp; omega)]
      simpa [List.getD, List.getElem?_append_left hlt] using h
  | o :: l, acc, k + 1, x, j, h, hb => by
    simp only [ancs] at hb ⊢
    exact ancs_spec l _ k x j (by simpa using h) (by simpa [Nat.add_assoc, Nat.add_comm 1 k] using hb)

theorem zipIdx_all {α : Type} {l : List α} {p : α × Nat → Bool} (h : l.zipIdx.all p = true) {i : Nat} {x : α} (hx : l[i]? = some x) : p (x, i) = true := by
  rw [List.all_eq_true] at h
  exact h (x, i) (by rw [List.mk_mem_zipIdx_iff_getElem?]; exact hx)

/-- Any order that the region allows. -/
theorem any_sound {ops : List Oper} (hok : regionOk P cfg ops = true) {S' : SS} (hq : ∀ a' w', (∃ hv', RelH P N0 w0 ρ S' hv' a' w') → Q .normal a' w') :
    ∀ (fuel : Nat) (listed : Array Bool) (S : SS) (hv : Nat → Value) (a : Act) (w : World) (obs : List Ob), RelH P N0 w0 ρ S hv a w →
      runOps P cfg ops (rem listed 0 ops) S = some (S', obs) → obsHold P ρ S.nv obs → listed.size = ops.length → (rem listed 0 ops).length ≤ fuel →
      (∀ i, listed.getD i false = true → ∀ j, ((ancs ops []).getD i 0).testBit j = true → listed.getD j false = true) → wpAny P .any ops.toArray Q fuel listed a w := by
  simp only [regionOk, Bool.and_eq_true] at hok
  obtain ⟨-, hback, hpairs⟩ := hok
  have hgd : ∀ (listed : Array Bool) (i : Nat), listed.size = ops.length → i < ops.length → listed.getD i true = listed.getD i false := by
    intro listed i h1 h2
    have : i < listed.size := by omega
    simp [Array.getD, this]
  have hnil : ∀ listed : Array Bool, listed.size = ops.length → Region.ready .any ops.toArray listed = [] → rem listed 0 ops = [] := by
    intro listed hs hr
    apply rem_nil
    intro j hj
    rw [Nat.zero_add]
    induction j using Nat.strongRecOn with
    | _ j ih =>
      cases hb : listed.getD j true with
      | true => rfl
      | false =>
        exfalso
        have hm : j ∈ Region.ready .any ops.toArray listed := by
          rw [mem_ready]
          refine ⟨hb, ops[j], by simp [hj], fun e he hbe => ?_⟩
          have h1 := zipIdx_all hback (List.getElem?_eq_getElem hj)
          simp only [List.all_eq_true] at h1
          have h2 := h1 e (by simpa using he)
          simp [hbe] at h2
          rw [← hgd listed e.on hs (by omega)]
          exact ih e.on h2 (by omega)
        rw [hr] at hm
        cases hm
  intro fuel
  induction fuel with
  | zero =>
    intro listed S hv a w obs hrel hrun ho hs hf hcl
    have h0 : rem listed 0 ops = [] := List.length_eq_zero_iff.1 (by omega)
    refine ⟨?_, ?_⟩
    · cases hr : Region.ready .any ops.toArray listed with
      | nil => rfl
      | cons i r =>
        have hm : i ∈ Region.ready .any ops.toArray listed := by rw [hr]; simp
        obtain ⟨h1, o, h2, _⟩ := mem_ready.1 hm
        rw [rem_split (listed := listed) (l := ops) (k := 0) (i := i) (x := o) (by simpa using h2) (by simpa using h1)] at h0
        simp at h0
    · rw [h0] at hrun
      simp [runOps] at hrun
      obtain ⟨rfl, rfl⟩ := hrun
      exact hq a w ⟨hv, hrel⟩
  | succ fuel ih =>
    intro listed S hv a w obs hrel hrun ho hs hf hcl
    refine ⟨fun hr => ?_, fun i hi => ?_⟩
    · rw [hnil listed hs hr] at hrun
      simp [runOps] at hrun
      obtain ⟨rfl, rfl⟩ := hrun
      exact hq a w ⟨hv, hrel⟩
    · obtain ⟨h1, x, h2, hall⟩ := mem_ready.1 hi
      have hx : ops[i]? = some x := by simpa using h2
      have hlt : i < ops.length := (List.getElem?_eq_some_iff.1 hx).1
      have hanc : ∀ j, ((ancs ops []).getD i 0).testBit j = true → listed.getD j false = true := by
        intro j hj
        obtain ⟨e, he, hb, h3⟩ := ancs_spec ops [] i x j hx (by simpa using hj)
        have hl := hall e (by simpa using he) hb
        rcases h3 with rfl | h3
        · exact hl
        · exact hcl e.on hl j h3
      have hsp := rem_split (listed := listed) (l := ops) (k := 0) (i := i) (x := x) hx (by simpa using h1)
      have hst := rem_set (listed := listed) (l := ops) (k := 0) (i := i) (x := x) hx (by simpa using h1) (by omega)
      rw [Nat.zero_add] at hst hsp
      rw [hsp] at hrun
      have hind : ∀ b ∈ rem listed 0 (ops.take i), indep cfg ops b x = true := by
        intro b hb
        obtain ⟨j, hj, hjl⟩ := mem_rem hb
        rw [Nat.zero_add] at hjl
        rw [List.getElem?_take] at hj
        split at hj
        · rename_i hji
          have h3 := zipIdx_all (zipIdx_all hpairs hx) hj
          simp only [Bool.or_eq_true, Bool.not_eq_true', decide_eq_false_iff_not] at h3
          rcases h3 with (h3 | h3) | h3
          · exact absurd hji h3
          · have := hanc j h3
            rw [← hgd listed j hs (by omega), hjl] at this
            cases this
          · exact h3
        · cases hj
      obtain ⟨S1, ob1, ob2, e1, e2, o1, o2⟩ := runOps_move hind hrun ho
      have next : ∀ a' w', (∃ hv', RelH P N0 w0 ρ S1 hv' a' w') → wpAny P .any ops.toArray Q fuel (listed.setIfInBounds i true) a' w' := by
        rintro a' w' ⟨hv', hr'⟩
        refine ih _ S1 hv' a' w' ob2 hr' (by rw [hst]; exact e2) o2 (by simpa using hs) ?_ ?_
        · rw [hst]
          rw [hsp] at hf
          simp at hf ⊢
          omega
        · intro q hq' j hj
          by_cases hqi : i = q
          · subst hqi
            exact getD_set_true (hanc j hj)
          · rw [getD_set_ne false hqi] at hq'
            exact getD_set_true (hcl q hq' j hj)
      unfold wpOp
      simp only [h2]
      have hss := astep_sound (Q := Q) hrel e1 o1
      split
      · rename_i hw
        rw [if_pos hw] at hss
        exact .inl (Oper.wp_mono next hss)
      · rename_i hw
        rw [if_neg hw] at hss
        exact next _ _ hss
/-- A region. -/
theorem region_sound {id : Nat} {ops : Array Oper} {draw : Bool} {S S' : SS} {hv : Nat → Value} {a : Act} {w : World} {obs : List Ob} (hrel : RelH P N0 w0 ρ S hv a w)
    (hd : (draw && !regionOk P cfg ops.toList) = false) (h : runOps P cfg ops.toList ops.toList S = some (S', obs)) (ho : obsHold P ρ S.nv obs)
    (hq : ∀ a' w', (∃ hv', RelH P N0 w0 ρ S' hv' a' w') → Q .normal a' w') : (Code.region id ops draw).wp P Q a w := by
  cases draw with
  | false =>
    refine wp_region_list ?_
    have := runOps_sound (Q := Q) hrel h ho hq
    simpa using this
  | true =>
    simp at hd
    have hm : P.follows .mixedOrders = true := by simp only [regionOk, Bool.and_eq_true] at hd; exact hd.1
    refine wp_region_any hm ?_
    have key : ∀ (l : List Oper) (k n : Nat), k + l.length ≤ n → rem (Array.replicate n false) k l = l := by
      intro l
      induction l with
      | nil => intros; rfl
      | cons o l ih =>
        intro k n hk
        simp at hk
        have : (Array.replicate n false).getD k true = false := by simp [Array.getD, show k < n by omega]
        simp only [rem, this]
        rw [ih (k + 1) n (by omega)]
        simp
    have hk := key ops.toList 0 ops.size (by simp)
    have := any_sound (Q := Q) hd hq ops.size (Array.replicate ops.size false) S hv a { w with drawn := w.drawn + 1 } obs (hrel.drew _) (by rw [hk]; exact h) ho (by simp) (by rw [hk]; simp)
      (fun i hi => by exfalso; by_cases hlt : i < ops.size <;> simp [Array.getD, hlt] at hi)
    simpa using this
end
end Go.Vc

/-
  Part Rf: a region in any order, by what each operation looks at and turns.
-/
namespace Go.Vc
section
variable {P : Program} {cfg : Cfg} {ev : Ev} {pc : Pres} {nv : Nat} {o : Oper}
theorem runCmds_app (c d : List Cmd) (bs : List Blk) : runCmds (c ++ d) bs = runCmds d (runCmds c bs) := by simp [runCmds]
theorem opw_cmds (bs : List Blk) : opw P cfg o ev bs = (opwC P cfg o ev bs).map fun y => (y.1, runCmds y.2.1 bs, y.2.2) := by
  have h1 : ∀ r es e i fo s fld x, storeRowX bs r es e i fo s fld x = (storeRowC bs r es e i fo s fld x).map fun cs => runCmds cs bs := by
    intro r es e i fo s fld x
    unfold storeRowX storeRowC
    cases hx : datOf (rbOf bs) [] x with
    | none => rfl
    | some y =>
      obtain ⟨s', ex, f⟩ := y
      simp only
      by_cases hc : (decide (s = s') && !f.contains r) = true
      · simp only [hc, if_true]
        cases fld with
        | none =>
          simp only
          by_cases he : s = es
          · rw [if_pos he, if_pos he, Option.map_some, runCmds_app, frzAll_eq]; rfl
          · rw [if_neg he, if_neg he]; rfl
        | some j =>
          simp only
          by_cases he : es.fld j = some (s, fo)
          · rw [if_pos he, if_pos he, Option.map_some, runCmds_app, frzAll_eq]; rfl
          · rw [if_neg he, if_neg he]; rfl
      · rw [if_neg hc, if_neg hc]; rfl
  have h2 : ∀ r cs fo s x, storeBoxX bs r cs fo s x = (storeBoxC bs r cs fo s x).map fun cs => runCmds cs bs := by
    intro r cs fo s x
    unfold storeBoxX storeBoxC
    cases x with
    | dat s' ex => simp only; split <;> rfl
    | full r' n =>
      simp only
      cases rowOf (rbOf bs) [] r' with
      | none => rfl
      | some y => simp only; split <;> rfl
    | _ => rfl
  have h3 : ∀ t a x, storeX P bs t a x = (storeC P bs t a x).map fun cs => runCmds cs bs := by
    intro t a x
    unfold storeX storeC
    cases a with
    | none => rfl
    | some sa =>
      cases x with
      | none => cases sa <;> rfl
      | some x =>
        cases sa with
        | ref r i fo s fld =>
          simp only
          by_cases hf : fitsT P t s = true
          · rw [if_pos hf, if_pos hf]
            cases hb : bs[r]? with
            | none => rfl
            | some k =>
              obtain ⟨lb, fz, p⟩ := k
              cases lb with
              | row es e => cases fz <;> cases p <;> first | rfl | exact h1 ..
              | box cs => cases fz <;> cases p <;> first | rfl | exact h2 ..
              | _ => rfl
          · rw [if_neg hf, if_neg hf]; rfl
        | _ => rfl
  have h4 : ∀ k ts d a b, appendX P k bs ts d a b = (appendC P k bs ts d a b).map fun y => (y.1, runCmds y.2.1 bs, y.2.2) := by
    intro k ts d a b
    unfold appendX appendC
    cases elemT P (ts.getD 0 0) with
    | none => rfl
    | some et =>
      cases a with
      | none => rfl
      | some sa =>
        cases b with
        | none => rfl
        | some sb =>
          simp only
          cases srcA P bs et (ts.getD 1 0) sb with
          | none => rfl
          | some y =>
            obtain ⟨s, m, f⟩ := y
            simp only
            by_cases hc : (decide (ts.size = 2) && (zeroE P et s).isSome && fitsT P et s && s.size != 0 && P.bytesOf et != 0) = true
            · rw [if_pos hc, if_pos hc]
              cases sa with
              | full r n =>
                simp only
                cases ownRow bs r with
                | none => rfl
                | some z =>
                  simp only
                  cases k with
                  | true => simp only [if_true]; split <;> rfl
                  | false => simp only [Bool.false_eq_true, if_false]; split <;> rfl
              | dat s' e =>
                cases s' with
                | sl s'' => cases e with
                  | nilS => simp only; split <;> rfl
                  | _ => rfl
                | _ => rfl
              | _ => rfl
            · rw [if_neg hc, if_neg hc]; rfl
  have h5 : ∀ ts a b, copyX P bs ts a b = (copyC P bs ts a b).map fun y => (y.1, runCmds y.2 bs) := by
    intro ts a b
    unfold copyX copyC
    cases elemT P (ts.getD 0 0) with
    | none => rfl
    | some et =>
      cases a with
      | none => rfl
      | some sa =>
        cases b with
        | none => rfl
        | some sb =>
          simp only
          cases srcX P bs (ts.getD 1 0) sb with
          | none => rfl
          | some y =>
            cases dstX sa with
            | none => rfl
            | some z =>
              simp only
              cases ownRow bs z.1 with
              | none => rfl
              | some u => simp only; split <;> rfl
  unfold opw opwC
  generalize o.op = op
  cases op <;> (try rfl)
  case store t a x =>
    simp only [h3]
    cases storeC P bs t (ev [] a 0) (ev [] x t) <;> rfl
  case call c =>
    obtain ⟨callee, args, ts⟩ := c
    cases callee with
    | builtin b =>
      cases b <;> (try rfl)
      case append =>
        simp only
        obtain ⟨al⟩ := args
        cases o.dst with
        | none => match al with
          | [] => rfl
          | [_] => rfl
          | [_, _] => rfl
          | _ :: _ :: _ :: _ => rfl
        | some d => match al with
          | [] => rfl
          | [_] => rfl
          | [a, b] => exact h4 ..
          | _ :: _ :: _ :: _ => rfl
      case copy =>
        simp only
        obtain ⟨al⟩ := args
        match al with
        | [] => rfl
        | [_] => rfl
        | [a, b] =>
          simp only [h5]
          cases copyC P bs ts (ev [] a (ts.getD 0 0)) (ev [] b (ts.getD 1 0)) <;> rfl
        | _ :: _ :: _ :: _ => rfl
    | value f => rfl
    | invoke r m => rfl
  case convert src dst x =>
    simp only
    by_cases hsd : src = dst
    · rw [if_pos hsd, if_pos hsd]
      cases markX P bs src (ev [] x src) with
      | none => rfl
      | some y => rfl
    · rw [if_neg hsd, if_neg hsd]
      rfl
  case mapUpdate t m k x =>
    simp only
    cases mputX P bs t (ev [] m t) (intOf? (ev [] k 0)) (ev [] x 0) with
    | none => rfl
    | some y => rfl
  case next it b =>
    cases b with
    | false => rfl
    | true =>
      simp only
      cases nextX bs (ev [] it 0) with
      | none => rfl
      | some y => rfl
/-! What is known of the blocks that are looked at is enough. -/
/-- bs0 says no more than bs. -/
def BsSub (bs0 bs : List Blk) : Prop := ∀ (r : Nat) (k : Blk), bs0[r]? = some k → k.lb ≠ .none → bs[r]? = some k
theorem BsSub.rb {bs0 bs : List Blk} (h : BsSub bs0 bs) : RbLe (rbOf bs0) (rbOf bs) := by
  intro r b hb hn
  unfold rbOf at hb ⊢
  cases hk : bs0[r]? with
  | none => simp [hk] at hb
  | some k =>
    simp [hk] at hb
    subst hb
    rw [h r k hk hn]
theorem ownRow_sub {bs0 bs : List Blk} (h : BsSub bs0 bs) {r : Nat} {y : Sh × E} (hr : ownRow bs0 r = some y) : ownRow bs r = some y := by
  obtain ⟨s, e⟩ := y
  have := h r _ (ownRow_blk hr) (by simp)
  simp [ownRow, this]
theorem srcX_sub {bs0 bs : List Blk} (h : BsSub bs0 bs) {t : TypeId} {x : SX} {y : Sh × E × List Nat} (hs : srcX P bs0 t x = some y) : srcX P bs t x = some y := by
  unfold srcX at hs ⊢
  cases hu : P.underlying t with
  | none => rw [hu] at hs; cases x with
    | dat s e => cases s <;> simp at hs
    | _ => simp at hs
  | some d =>
    rw [hu] at hs
    cases d with
    | slice et => cases x with
      | dat s e =>
        cases s <;>
          (simp only at hs ⊢
           split at hs
           · rename_i hd; rw [datOf_le h.rb hd]; exact hs
           · simp at hs)
      | _ =>
        simp only at hs ⊢
        split at hs
        · rename_i hd; rw [datOf_le h.rb hd]; exact hs
        · simp at hs
    | string => cases x with
      | dat s e => cases s <;> first | exact hs | (simp at hs)
      | _ => simp at hs
    | _ => cases x with
      | dat s e => cases s <;> simp at hs
      | _ => simp at hs
theorem storeC_sub {bs0 bs : List Blk} (h : BsSub bs0 bs) {t : TypeId} {a x : Option SX} {cs : List Cmd} (hs : storeC P bs0 t a x = some cs) : storeC P bs t a x = some cs := by
  unfold storeC at hs ⊢
  split at hs
  · split at hs
    · rename_i hf
      simp only [hf, if_true]
      split at hs
      · rename_i hb
        rw [h _ _ hb (by simp)]
        simp only
        unfold storeRowC at hs ⊢
        split at hs
        · rename_i hd
          rw [datOf_le h.rb hd]
          exact hs
        · simp at hs
      · rename_i hb
        rw [h _ _ hb (by simp)]
        simp only
        unfold storeBoxC at hs ⊢
        split at hs
        · exact hs
        · split at hs
          · rename_i hr
            rw [rowOf_le h.rb hr]
            exact hs
          · simp at hs
        · simp at hs
      · simp at hs
    · simp at hs
  · simp at hs
theorem srcA_cases (P : Program) (et t : TypeId) (x : SX) : (∃ z, ∀ bs, srcA P bs et t x = z) ∨ ∀ bs, srcA P bs et t x = srcX P bs t x := by
  cases hu : P.underlying t with
  | none =>
    right
    intro bs
    unfold srcA
    rw [hu]
    cases x with
    | dat s e => cases s <;> rfl
    | _ => rfl
  | some d =>
    cases x with
    | dat s e => cases s with
      | int k => cases d with
        | int q => left; exact ⟨_, fun bs => by unfold srcA; rw [hu]⟩
        | _ => right; intro bs; unfold srcA; rw [hu]
      | _ => right; intro bs; unfold srcA; rw [hu]
    | _ => right; intro bs; unfold srcA; rw [hu]
theorem srcA_sub {bs0 bs : List Blk} (h : BsSub bs0 bs) {et t : TypeId} {x : SX} {y : Sh × E × List Nat} (hs : srcA P bs0 et t x = some y) : srcA P bs et t x = some y := by
  rcases srcA_cases P et t x with ⟨z, hz⟩ | hz
  · rw [hz] at hs ⊢
    exact hs
  · rw [hz] at hs ⊢
    exact srcX_sub h hs
theorem appendC_sub {bs0 bs : List Blk} (h : BsSub bs0 bs) {k : Bool} {ts : Array TypeId} {d : Nat} (hd : bs0[d]? = bs[d]?) {a b : Option SX} {y : SX × List Cmd × List Ob} (hs : appendC P k bs0 ts d a b = some y) : appendC P k bs ts d a b = some y := by
  have hfree : isFree bs0 d = isFree bs d := by unfold isFree; rw [hd]
  unfold appendC at hs ⊢
  split at hs
  · split at hs
    · simp at hs
    · rename_i hsrc
      rw [srcA_sub h hsrc]
      simp only
      split at hs
      · rename_i hc
        rw [if_pos hc]
        split at hs
        · rw [hfree] at hs; exact hs
        · split at hs
          · rename_i hr
            rw [ownRow_sub h hr]
            simp only
            rw [hfree] at hs; exact hs
          · simp at hs
        · simp at hs
      · simp at hs
  · simp at hs
theorem copyC_sub {bs0 bs : List Blk} (h : BsSub bs0 bs) {ts : Array TypeId} {a b : Option SX} {y : SX × List Cmd} (hs : copyC P bs0 ts a b = some y) : copyC P bs ts a b = some y := by
  unfold copyC at hs ⊢
  split at hs
  · split at hs
    · rename_i hsrc hdst
      rw [srcX_sub h hsrc, hdst]
      simp only
      split at hs
      · rename_i hr
        rw [ownRow_sub h hr]
        exact hs
      · simp at hs
    · simp at hs
  · simp at hs
theorem mputX_sub {bs0 bs : List Blk} (h : BsSub bs0 bs) {t : TypeId} {m x : Option SX} {k : Option (IntKind × E)} {y : Nat × Blk} (hs : mputX P bs0 t m k x = some y) : mputX P bs t m k x = some y := by
  unfold mputX at hs ⊢
  split at hs
  · split at hs
    · rename_i hb
      rw [h _ _ hb (by simp)]
      exact hs
    · simp at hs
  · simp at hs
theorem nextX_sub {bs0 bs : List Blk} (h : BsSub bs0 bs) {it : Option SX} {y : SX × Nat × Blk} (hs : nextX bs0 it = some y) : nextX bs it = some y := by
  unfold nextX at hs ⊢
  split at hs
  · split at hs
    · rename_i hb
      rw [h _ _ hb (by simp)]
      exact hs
    · simp at hs
  · simp at hs
theorem ownRow_sub' {bs0 bs : List Blk} (h : BsSub bs0 bs) {r : Nat} {y : Sh × E} (hs : ownRow bs0 r = some y) : ownRow bs r = some y := by
  obtain ⟨s, e⟩ := y
  have h1 := ownRow_blk hs
  have h2 := h _ _ h1 (by simp)
  unfold ownRow
  rw [h2]
theorem markX_sub {bs0 bs : List Blk} (h : BsSub bs0 bs) {t : TypeId} {x : Option SX} {y : Sh × E × Nat} (hs : markX P bs0 t x = some y) : markX P bs t x = some y := by
  unfold markX at hs ⊢
  split at hs
  · split at hs
    · rename_i hu hb
      rw [hu, ownRow_sub' h hb]
      exact hs
    · simp at hs
  · simp at hs
theorem opwC_sub {bs0 bs : List Blk} (h : BsSub bs0 bs) (hd : ∀ d, o.dst = some d → bs0[d]? = bs[d]?) {y : SX × List Cmd × List Ob} (hs : opwC P cfg o ev bs0 = some y) : opwC P cfg o ev bs = some y := by
  unfold opwC at hs ⊢
  split at hs
  · split at hs
    · rename_i hst
      rw [storeC_sub h hst]
      exact hs
    · simp at hs
  · split at hs
    · rename_i hdst
      exact appendC_sub h (hd _ hdst) hs
    · simp at hs
  · split at hs
    · split at hs
      · rename_i hc
        rw [copyC_sub h hc]
        exact hs
      · simp at hs
    · simp at hs
  · split at hs
    · rename_i hsd
      rw [if_pos hsd]
      split at hs
      · rename_i hb
        rw [markX_sub h hb]
        exact hs
      · simp at hs
    · simp at hs
  · split at hs
    · rename_i hb
      rw [mputX_sub h hb]
      exact hs
    · simp at hs
  · split at hs
    · rename_i hb
      rw [nextX_sub h hb]
      exact hs
    · simp at hs
  · simp at hs
theorem cutTo_get (F : List Nat) (bs : List Blk) (r : Nat) : (cutTo F bs)[r]? = (bs[r]?).map fun b => if F.contains r then b else noBlk := by
  simp [cutTo, List.getElem?_mapIdx]
theorem cutTo_sub (F : List Nat) (bs : List Blk) : BsSub (cutTo F bs) bs := by
  intro r k hk hn
  rw [cutTo_get] at hk
  cases hb : bs[r]? with
  | none => simp [hb] at hk
  | some b =>
    simp only [hb, Option.map_some, Option.some.injEq] at hk
    split at hk
    · rw [hk]
    · subst hk; exact absurd rfl hn
theorem coreC_local {F : List Nat} {bs : List Blk} (hd : ∀ d, o.dst = some d → F.contains d = true) {y : SX × List Cmd × Nat × List Ob} (h : coreC P cfg o pc ev (cutTo F bs) nv = some y) : coreC P cfg o pc ev bs nv = some y := by
  have hdd : ∀ d, o.dst = some d → (cutTo F bs)[d]? = bs[d]? := by
    intro d e
    rw [cutTo_get, hd d e]
    cases bs[d]? <;> rfl
  unfold coreC at h ⊢
  split at h
  · rename_i hc
    rw [if_pos hc]
    split at h
    · rename_i hp
      rw [if_pos hp]
      cases hw : opwC P cfg o ev (cutTo F bs) with
      | none => simp [hw] at h
      | some z => rw [hw] at h; rw [opwC_sub (cutTo_sub F bs) hdd hw]; exact h
    · simp at h
  · rename_i hc
    rw [if_neg hc]
    split at h
    · simp at h
    · rename_i hg
      rw [if_neg hg]
      cases hx : opx P cfg o pc ev (rbOf (cutTo F bs)) nv with
      | none => simp [hx] at h
      | some out =>
        rw [hx] at h
        rw [opx_le (cutTo_sub F bs).rb (fun d e hn => by unfold isNew rbOf at hn ⊢; rw [hdd d e] at hn; exact hn) hx]
        exact h
/-- The step by commands is the step. -/
theorem core_of_C {bs : List Blk} {x : SX} {cs : List Cmd} {n : Nat} {ob : List Ob} (h : coreC P cfg o pc ev bs nv = some (x, cs, n, ob)) : core P cfg o pc ev bs nv = some (x, runCmds cs bs, n, ob) := by
  unfold coreC at h
  unfold core
  split at h
  · rename_i hc
    rw [if_pos hc]
    split at h
    · rename_i hp
      rw [if_pos hp]
      rw [opw_cmds]
      cases hw : opwC P cfg o ev bs with
      | none => simp [hw] at h
      | some z =>
        obtain ⟨x', cs', ob'⟩ := z
        simp only [hw] at h
        simp only [Option.map_some]
        split at h
        · rename_i hv
          simp at h
          obtain ⟨rfl, rfl, rfl, rfl⟩ := h
          rw [if_pos hv]
        · simp at h
    · simp at h
  · rename_i hc
    rw [if_neg hc]
    split at h
    · simp at h
    · rename_i hg
      rw [if_neg hg]
      cases hx : opx P cfg o pc ev (rbOf bs) nv with
      | none => simp [hx] at h
      | some out =>
        simp only [hx] at h ⊢
        split at h
        · rename_i hv
          simp at h
          obtain ⟨rfl, rfl, rfl, rfl⟩ := h
          rw [if_pos hv]
        · simp at h
theorem stepF_astep {φ : Oper → FP} {ops : List Oper} {S : SS} {y : SS × List Ob} (h : stepF P cfg φ ops o S = some y) : astep P cfg ops o S = some y := by
  unfold stepF at h
  split at h
  · simp at h
  · rename_i pc hg
    cases hc : coreC P cfg o pc (S.ev P) (cutTo (φ o).F S.blks) S.nv with
    | none => simp [hc] at h
    | some z =>
      obtain ⟨x, cs, n, ob⟩ := z
      simp only [hc] at h
      by_cases hok : (cs.all (cmdIn (φ o)) && dstIn (φ o) o) = true
      · rw [if_pos hok] at h
        simp only [Bool.and_eq_true] at hok
        simp only [Option.some.injEq] at h
        subst h
        refine astep_core.2 ⟨pc, x, _, n, hg, core_of_C (coreC_local (fun d e => ?_) hc), rfl⟩
        have := hok.2
        simp only [dstIn, e] at this
        exact this
      · rw [if_neg hok] at h
        cases h
/-! Two that do not meet change places. -/
theorem cmd_comm (c d : Cmd) (h : (match c, d with | .put r _, .put q _ => r ≠ q | .put r _, .frz q => r ≠ q | .frz r, .put q _ => r ≠ q | .frz _, .frz _ => True)) (bs : List Blk) : c.run (d.run bs) = d.run (c.run bs) := by
  apply List.ext_getElem?
  intro i
  cases c with
  | put r b => cases d with
    | put q b' =>
      simp only [Cmd.run]
      simp only at h
      rw [List.set_comm _ _ (fun e => h e.symm)]
    | frz q =>
      simp only [Cmd.run, List.getElem?_set, List.getElem?_modify, List.length_modify]
      simp only at h
      by_cases h1 : r = i <;> by_cases h2 : q = i <;> simp_all
  | frz r => cases d with
    | put q b' =>
      simp only [Cmd.run, List.getElem?_set, List.getElem?_modify, List.length_modify]
      simp only at h
      by_cases h1 : r = i <;> by_cases h2 : q = i <;> simp_all
    | frz q =>
      simp only [Cmd.run, List.getElem?_modify]
      by_cases h1 : r = i <;> by_cases h2 : q = i <;> simp_all
theorem cmds_comm_one (c : Cmd) : ∀ (ds : List Cmd) (bs : List Blk), (∀ d ∈ ds, ∀ bs, c.run (d.run bs) = d.run (c.run bs)) → c.run (runCmds ds bs) = runCmds ds (c.run bs)
  | [], bs, _ => rfl
  | d :: ds, bs, h => by
    show c.run (runCmds ds (d.run bs)) = runCmds ds (d.run (c.run bs))
    rw [cmds_comm_one c ds (d.run bs) (fun d' hd' => h d' (by simp [hd'])), h d (by simp) bs]
theorem cmds_comm_all : ∀ (cs ds : List Cmd) (bs : List Blk), (∀ c ∈ cs, ∀ d ∈ ds, ∀ bs, c.run (d.run bs) = d.run (c.run bs)) → runCmds cs (runCmds ds bs) = runCmds ds (runCmds cs bs)
  | [], ds, bs, _ => rfl
  | c :: cs, ds, bs, h => by
    show runCmds cs (c.run (runCmds ds bs)) = runCmds ds (runCmds cs (c.run bs))
    rw [cmds_comm_one c ds bs (h c (by simp)), cmds_comm_all cs ds (c.run bs) (fun c' hc' => h c' (by simp [hc']))]
theorem apart_ne {a b : List Nat} (h : apart a b = true) {r q : Nat} (hr : r ∈ a) (hq : q ∈ b) : r ≠ q := by
  intro e
  subst e
  simp only [apart, List.all_eq_true, Bool.not_eq_true'] at h
  have := h r hr
  simp [hq] at this
/-- What lies outside the blocks that are turned stays. -/
theorem runCmds_get : ∀ (cs : List Cmd) (bs : List Blk) (r : Nat), (∀ c ∈ cs, (match c with | .put q _ => q ≠ r | .frz q => q ≠ r)) → (runCmds cs bs)[r]? = bs[r]?
  | [], _, _, _ => rfl
  | c :: cs, bs, r, h => by
    show (runCmds cs (c.run bs))[r]? = _
    rw [runCmds_get cs _ r (fun c' hc' => h c' (by simp [hc']))]
    have := h c (by simp)
    cases c with
    | put q b => simp only [Cmd.run]; exact List.getElem?_set_ne this
    | frz q => simp only [Cmd.run, List.getElem?_modify]; simp only at this; simp [this]
theorem runCmds_rb : ∀ (cs : List Cmd) (bs : List Blk) (r : Nat), (∀ c ∈ cs, (match c with | .put q _ => q ≠ r | .frz _ => True)) → rbOf (runCmds cs bs) r = rbOf bs r
  | [], _, _, _ => rfl
  | c :: cs, bs, r, h => by
    show rbOf (runCmds cs (c.run bs)) r = _
    rw [runCmds_rb cs _ r (fun c' hc' => h c' (by simp [hc']))]
    have := h c (by simp)
    cases c with
    | put q b => simp only [Cmd.run, rbOf]; rw [List.getElem?_set_ne this]
    | frz q =>
      simp only [Cmd.run, rbOf, List.getElem?_modify]
      cases bs[r]? with
      | none => rfl
      | some k => by_cases hq : q = r <;> simp [hq]
theorem cutTo_congr {F : List Nat} {bs bs' : List Blk} (h : ∀ r, r ∈ F → bs'[r]? = bs[r]?) (hl : bs'.length = bs.length) : cutTo F bs' = cutTo F bs := by
  apply List.ext_getElem?
  intro r
  rw [cutTo_get, cutTo_get]
  by_cases hr : r ∈ F
  · rw [h r hr]
  · have hc : F.contains r = false := by simpa using hr
    simp only [hc]
    by_cases hlt : r < bs.length
    · rw [List.getElem?_eq_getElem hlt, List.getElem?_eq_getElem (by omega)]; rfl
    · rw [List.getElem?_eq_none (by omega), List.getElem?_eq_none (by omega)]
theorem runCmds_length : ∀ (cs : List Cmd) (bs : List Blk), (runCmds cs bs).length = bs.length
  | [], _ => rfl
  | c :: cs, bs => by
    show (runCmds cs (c.run bs)).length = _
    rw [runCmds_length cs]
    cases c <;> simp [Cmd.run]
theorem rbOf_cut {F : List Nat} {bs bs' : List Blk} (h : ∀ r, r ∈ F → rbOf bs' r = rbOf bs r) (hl : bs'.length = bs.length) : rbOf (cutTo F bs') = rbOf (cutTo F bs) := by
  funext r
  unfold rbOf at h ⊢
  rw [cutTo_get, cutTo_get]
  by_cases hr : r ∈ F
  · have hc : F.contains r = true := by simpa using hr
    have := h r hr
    simp only [hc, if_true]
    cases h1 : bs'[r]? <;> cases h2 : bs[r]? <;> simp [h1, h2] at this ⊢ <;> exact this
  · have hc : F.contains r = false := by simpa using hr
    simp only [hc]
    by_cases hlt : r < bs.length
    · rw [List.getElem?_eq_getElem hlt, List.getElem?_eq_getElem (by omega)]; rfl
    · rw [List.getElem?_eq_none (by omega), List.getElem?_eq_none (by omega)]
theorem coreC_congr {bs : List Blk} {ev' : Ev} (h : EvEq o.op.operands.toList ev ev') : coreC P cfg o pc ev bs nv = coreC P cfg o pc ev' bs nv := by
  have hw : opwC P cfg o ev bs = opwC P cfg o ev' bs := by
    unfold opwC
    generalize o.op = op at h
    cases op <;> simp only [Op.operands] at h <;> (try rfl)
    case store t a x =>
      simp only
      rw [h a (by simp), h x (by simp)]
    case call c =>
      obtain ⟨callee, args, ts⟩ := c
      have ha : EvEq args.toList ev ev' := fun x hx => h x (by simp [Call.operands]; exact .inr (by simpa using hx))
      cases callee with
      | builtin b =>
        cases b <;> simp only
        · split
          · rename_i x y d hl hd
            rw [ha x (by simp [hl]), ha y (by simp [hl])]
          · rfl
        · split
          · rename_i x y hl
            rw [ha x (by simp [hl]), ha y (by simp [hl])]
          · rfl
      | value f => rfl
      | invoke r m => rfl
    case convert src dst x =>
      simp only
      rw [h x (by simp)]
    case mapUpdate t m k x =>
      simp only
      rw [h m (by simp), h k (by simp), h x (by simp)]
    case next it b =>
      cases b with
      | true => simp only; rw [h it (by simp)]
      | false => rfl
  unfold coreC
  rw [hw, opx_congr h]
/-- After commands that do not meet the footprint, and with other variables ahead, the step is as it was. -/
theorem coreC_after {F : List Nat} {bs : List Blk} {cs : List Cmd} {nv' : Nat} (hput : ∀ c ∈ cs, ∀ r ∈ F, (match c with | .put q _ => q ≠ r | .frz q => cls cfg o = .W → q ≠ r)) (hn : nv' = nv ∨ cls cfg o ≠ .call) :
    coreC P cfg o pc ev (cutTo F (runCmds cs bs)) nv' = coreC P cfg o pc ev (cutTo F bs) nv := by
  unfold coreC
  by_cases hw : cls cfg o = .W
  · have e : cutTo F (runCmds cs bs) = cutTo F bs := by
      refine cutTo_congr (fun r hr => runCmds_get cs bs r fun c hc => ?_) (runCmds_length cs bs)
      have := hput c hc r hr
      cases c with
      | put q b => exact this
      | frz q => exact this hw
    rw [if_pos hw, if_pos hw, e]
  · have e : rbOf (cutTo F (runCmds cs bs)) = rbOf (cutTo F bs) := by
      refine rbOf_cut (fun r hr => runCmds_rb cs bs r fun c hc => ?_) (runCmds_length cs bs)
      have := hput c hc r hr
      cases c with
      | put q b => exact this
      | frz q => trivial
    rw [if_neg hw, if_neg hw, e]
    have e2 : opx P cfg o pc ev (rbOf (cutTo F bs)) nv' = opx P cfg o pc ev (rbOf (cutTo F bs)) nv := by
      rcases hn with h | h
      · rw [h]
      · exact opx_nv h
    rw [e2]
/-! A store leaves the rows' shapes; a place asks for no more. -/
def rsh (b : RB) : Option (Sh × Pres) := match b with | ⟨.row s _, p⟩ => some (s, p) | _ => none
theorem rowOf_rsh {rb rb' : Rb} (h : ∀ r, (rb r).bind rsh = (rb' r).bind rsh) (r : Nat) : (rowOf rb pc r).map (·.1) = (rowOf rb' pc r).map (·.1) := by
  have h := h r
  have key : ∀ rb : Rb, (rowOf rb pc r).map (·.1) = ((rb r).bind rsh).bind fun y => if presSub y.2 pc then some y.1 else none := by
    intro rb
    unfold rowOf
    cases rb r with
    | none => rfl
    | some k =>
      obtain ⟨lb, p⟩ := k
      cases lb with
      | row s e =>
        simp only [rsh, Option.bind_some]
        split <;> rfl
      | _ => rfl
  rw [key, key, h]
theorem iaddrX_rsh {rb rb' : Rb} (h : ∀ r, (rb r).bind rsh = (rb' r).bind rsh) (t : TypeId) (x : Option SX) (i : Option (IntKind × E)) : iaddrX P rb pc t x i = iaddrX P rb' pc t x i := by
  unfold iaddrX
  cases elemT P t with
  | none => rfl
  | some et =>
    cases x with
    | none => rfl
    | some x =>
      cases i with
      | none => cases x <;> first | rfl | (rename_i sh _; cases sh <;> rfl)
      | some i =>
        cases x with
        | dat sh e => cases sh <;> rfl
        | full r n =>
          have h1 := rowOf_rsh (pc := pc) h r
          simp only
          cases h2 : rowOf rb pc r <;> cases h3 : rowOf rb' pc r <;> simp only [h2, h3, Option.map_none, Option.map_some, reduceCtorEq, Option.some.injEq] at h1 ⊢
          rw [h1]
        | view r off n =>
          have h1 := rowOf_rsh (pc := pc) h r
          simp only
          cases h2 : rowOf rb pc r <;> cases h3 : rowOf rb' pc r <;> simp only [h2, h3, Option.map_none, Option.map_some, reduceCtorEq, Option.some.injEq] at h1 ⊢
          rw [h1]
        | _ => rfl
theorem coreC_IA {bs bs' : List Blk} {nv' : Nat} (ho : isIA o = true) (h : ∀ r, (rbOf bs' r).bind rsh = (rbOf bs r).bind rsh) : coreC P cfg o pc ev bs' nv' = coreC P cfg o pc ev bs nv := by
  unfold isIA at ho
  split at ho
  · rename_i t x i hop
    have hc : cls cfg o = .R := by simp [cls, hop]
    unfold coreC
    simp only [hc, reduceCtorEq, if_false, opx, opx0, preX, hop, iaddrX_rsh h]
  · cases ho
theorem store_cmds {bs : List Blk} {y : SX × List Cmd × Nat × List Ob} (ho : isSt o = true) (h : coreC P cfg o pc ev bs nv = some y) : ∃ (f : List Nat) (r : Nat) (k k' : Blk), y.2.1 = f.map .frz ++ [.put r k'] ∧ bs[r]? = some k ∧ k.lb ≠ .none ∧ rsh ⟨k'.lb, k'.pres⟩ = rsh ⟨k.lb, k.pres⟩ := by
  unfold isSt at ho
  split at ho
  · rename_i t a x hop
    have hc : cls cfg o = .W := by simp [cls, hop]
    unfold coreC at h
    rw [if_pos hc] at h
    split at h
    · have key : ∀ cs, storeC P bs t (ev [] a 0) (ev [] x t) = some cs → ∃ (f : List Nat) (r : Nat) (k k' : Blk), cs = f.map .frz ++ [.put r k'] ∧ bs[r]? = some k ∧ k.lb ≠ .none ∧ rsh ⟨k'.lb, k'.pres⟩ = rsh ⟨k.lb, k.pres⟩ := by
        intro cs hs
        unfold storeC at hs
        split at hs
        · split at hs
          · split at hs
            · rename_i hb
              unfold storeRowC at hs
              split at hs
              · split at hs
                · split at hs
                  · split at hs
                    · simp at hs; exact ⟨_, _, _, _, hs.symm, hb, by simp, rfl⟩
                    · simp at hs
                  · split at hs
                    · simp at hs; exact ⟨_, _, _, _, hs.symm, hb, by simp, rfl⟩
                    · simp at hs
                · simp at hs
              · simp at hs
            · rename_i hb
              unfold storeBoxC at hs
              split at hs
              · split at hs
                · simp at hs; exact ⟨[], _, _, _, hs.symm, hb, by simp, rfl⟩
                · simp at hs
              · split at hs
                · split at hs
                  · simp at hs; exact ⟨[], _, _, _, hs.symm, hb, by simp, rfl⟩
                  · simp at hs
                · simp at hs
              · simp at hs
            · simp at hs
          · simp at hs
        · simp at hs
      simp only [opwC, hop] at h
      cases hs : storeC P bs t (ev [] a 0) (ev [] x t) with
      | none => simp [hs] at h
      | some cs =>
        simp only [hs] at h
        split at h
        · simp at h
          subst h
          exact key cs hs
        · simp at h
    · simp at h
  · cases ho
/-- Behind a store the rows' shapes are what they were. -/
theorem store_rsh {F : List Nat} {bs : List Blk} {f : List Nat} {r : Nat} {k k' : Blk} (hk : bs[r]? = some k) (hs : rsh ⟨k'.lb, k'.pres⟩ = rsh ⟨k.lb, k.pres⟩) :
    ∀ q, (rbOf (cutTo F (runCmds (f.map .frz ++ [.put r k']) bs)) q).bind rsh = (rbOf (cutTo F bs) q).bind rsh := by
  intro q
  unfold rbOf
  rw [cutTo_get, cutTo_get, runCmds_app]
  have e1 : runCmds [Cmd.put r k'] (runCmds (f.map .frz) bs) = (runCmds (f.map .frz) bs).set r k' := rfl
  rw [e1]
  have hfr : ∀ q, rbOf (runCmds (f.map .frz) bs) q = rbOf bs q := fun q => by rw [rbOf_frz]
  have hlen : (runCmds (f.map .frz) bs).length = bs.length := runCmds_length _ _
  have hr : r < bs.length := (List.getElem?_eq_some_iff.1 hk).1
  by_cases hq : r = q
  · subst hq
    rw [List.getElem?_set_self (by omega), hk]
    cases F.contains r <;> simp [hs]
  · rw [List.getElem?_set_ne hq]
    have := hfr q
    unfold rbOf at this
    cases h1 : (runCmds (f.map .frz) bs)[q]? with
    | none => cases h2 : bs[q]? with
      | none => rfl
      | some y => simp [h1, h2] at this
    | some x => cases h2 : bs[q]? with
      | none => simp [h1, h2] at this
      | some y =>
        simp only [h1, h2, Option.some.injEq, RB.mk.injEq] at this
        simp only [Option.map_some]
        cases F.contains q <;> simp [this.1, this.2]
theorem stepF_iff {φ : Oper → FP} {ops : List Oper} {S S' : SS} {obs : List Ob} : stepF P cfg φ ops o S = some (S', obs) ↔
    ∃ pc x cs n, guardPres S ops o = some pc ∧ coreC P cfg o pc (S.ev P) (cutTo (φ o).F S.blks) S.nv = some (x, cs, n, obs) ∧ cs.all (cmdIn (φ o)) = true ∧ dstIn (φ o) o = true ∧
      S' = { tmps := putT S.tmps o.dst ⟨pc, x⟩, blks := runCmds cs S.blks, nv := S.nv + n } := by
  unfold stepF
  cases hg : guardPres S ops o with
  | none => simp
  | some pc =>
    simp only [Option.some.injEq]
    cases hc : coreC P cfg o pc (S.ev P) (cutTo (φ o).F S.blks) S.nv with
    | none =>
      simp
      intro _ _ _ h
      simp [hc] at h
    | some z =>
      obtain ⟨x, cs, n, ob⟩ := z
      simp only
      by_cases hok : (cs.all (cmdIn (φ o)) && dstIn (φ o) o) = true
      · rw [if_pos hok]
        simp only [Bool.and_eq_true] at hok
        constructor
        · intro h
          simp only [Option.some.injEq, Prod.mk.injEq] at h
          obtain ⟨rfl, rfl⟩ := h
          exact ⟨pc, x, cs, n, rfl, hc, hok.1, hok.2, rfl⟩
        · rintro ⟨_, _, _, _, rfl, h, _, _, rfl⟩
          rw [hc] at h
          simp only [Option.some.injEq, Prod.mk.injEq] at h
          obtain ⟨rfl, rfl, rfl, rfl⟩ := h
          rfl
      · rw [if_neg hok]
        constructor
        · intro h; cases h
        · rintro ⟨_, _, _, _, rfl, h, h1, h2, _⟩
          rw [hc] at h
          simp only [Option.some.injEq, Prod.mk.injEq] at h
          obtain ⟨rfl, rfl, rfl, rfl⟩ := h
          exact absurd (by rw [h1, h2]; rfl) hok
theorem stepF_nv {φ : Oper → FP} {ops : List Oper} {S S' : SS} {obs : List Ob} (h : stepF P cfg φ ops o S = some (S', obs)) : S'.nv = S.nv + (obs.map Ob.vars).sum := astep_nv (stepF_astep h)
theorem coreC_call {bs : List Blk} {x : SX} {cs : List Cmd} {n : Nat} {ob : List Ob} (h : coreC P cfg o pc ev bs nv = some (x, cs, n, ob)) (hc : cls cfg o ≠ .call) : n = 0 := by
  unfold coreC at h
  split at h
  · split at h
    · split at h
      · split at h
        · simp at h; exact h.2.2.1.symm
        · simp at h
      · simp at h
    · simp at h
  · split at h
    · simp at h
    · split at h
      · rename_i out hx
        split at h
        · simp at h
          rw [← h.2.2.1]
          exact (opx_cls hx).1 hc
        · simp at h
      · simp at h
/-- Two steps change places. -/
theorem stepF_comm {φ : Oper → FP} {ops : List Oper} {a x : Oper} {S S1 S2 : SS} {ob1 ob2 : List Ob} (hi : indepF cfg φ ops a x = true) (h1 : stepF P cfg φ ops a S = some (S1, ob1)) (h2 : stepF P cfg φ ops x S1 = some (S2, ob2)) :
    ∃ S1', stepF P cfg φ ops x S = some (S1', ob2) ∧ stepF P cfg φ ops a S1' = some (S2, ob1) ∧ (obVars ob1 = 0 ∨ obVars ob2 = 0) := by
  have hv1 := stepF_nv h1
  have hv2 := stepF_nv h2
  obtain ⟨pc, x1, cs1, n1, hg, hc1, hm1, hd1, rfl⟩ := stepF_iff.1 h1
  obtain ⟨pc', x2, cs2, n2, hg', hc2, hm2, hd2, rfl⟩ := stepF_iff.1 h2
  simp only [indepF, Bool.and_eq_true, Bool.or_eq_true, bne_iff_ne, ne_eq] at hi
  obtain ⟨hi1, hi2, e1, e2, e3, e4, e5, e6, e7, e8⟩ := hi
  have hlx : ∀ t ∈ looks ops x, a.dst ≠ some t := by
    intro t ht e
    rw [e] at hi1
    simp at hi1
    exact hi1.1 ht
  have hdd : ∀ d, a.dst = some d → x.dst ≠ some d := by
    intro d e
    rw [e] at hi1
    simp at hi1
    exact hi1.2
  have hla : ∀ t ∈ looks ops a, x.dst ≠ some t := by
    intro t ht e
    rw [e] at hi2
    simp at hi2
    exact hi2 ht
  have ax : ∀ t ∈ looks ops x, (putT S.tmps a.dst ⟨pc, x1⟩)[t]? = S.tmps[t]? := fun t ht => tmps_putT (hlx t ht)
  have aa : ∀ t ∈ looks ops a, (putT S.tmps x.dst ⟨pc', x2⟩)[t]? = S.tmps[t]? := fun t ht => tmps_putT (hla t ht)
  rw [guardPres_congr (S := S) ax] at hg'
  rw [coreC_congr (ev_congr (S := S) ax)] at hc2
  simp only [List.all_eq_true] at hm1 hm2
  have in1 : ∀ c ∈ cs1, (match c with | .put r _ => r ∈ (φ a).W | .frz r => r ∈ (φ a).Z) := by
    intro c hc
    have := hm1 c hc
    cases c with
    | put r b => simpa [cmdIn] using this
    | frz r => simpa [cmdIn] using this
  have in2 : ∀ c ∈ cs2, (match c with | .put r _ => r ∈ (φ x).W | .frz r => r ∈ (φ x).Z) := by
    intro c hc
    have := hm2 c hc
    cases c with
    | put r b => simpa [cmdIn] using this
    | frz r => simpa [cmdIn] using this
  have hn : n1 = 0 ∨ n2 = 0 := by
    rcases e8 with h | h
    · exact .inl (coreC_call hc1 h)
    · exact .inr (coreC_call hc2 h)
  have hx : coreC P cfg x pc' (S.ev P) (cutTo (φ x).F S.blks) S.nv = some (x2, cs2, n2, ob2) := by
    rw [← hc2]
    rcases e1 with e1 | e1
    rotate_left
    · obtain ⟨f, r, k, k', q1, q2, q3, q4⟩ := store_cmds e1.1 hc1
      simp only at q1
      subst q1
      exact (coreC_IA e1.2 (store_rsh (cutTo_sub _ _ r k q2 q3) q4)).symm
    refine (coreC_after (fun c hc r hr => ?_) ?_).symm
    · have := in1 c hc
      cases c with
      | put q b => exact apart_ne e1 this hr
      | frz q =>
        intro hw
        rcases e6 with h | h
        · exact absurd hw h
        · exact apart_ne h this hr
    · by_cases hcx : cls cfg x = .call
      · left
        have : n1 = 0 := by
          rcases e8 with h | h
          · exact coreC_call hc1 h
          · exact absurd hcx h
        simp [this]
      · exact .inr hcx
  refine ⟨{ tmps := putT S.tmps x.dst ⟨pc', x2⟩, blks := runCmds cs2 S.blks, nv := S.nv + n2 }, stepF_iff.2 ⟨pc', x2, cs2, n2, hg', hx, by simpa [List.all_eq_true] using hm2, hd2, rfl⟩,
    stepF_iff.2 ⟨pc, x1, cs1, n1, ?_, ?_, by simpa [List.all_eq_true] using hm1, hd1, ?_⟩, ?_⟩
  · rw [guardPres_congr (S := S) aa]; exact hg
  · rw [coreC_congr (ev_congr (S := S) aa), ← hc1]
    rcases e2 with e2 | e2
    rotate_left
    · obtain ⟨f, r, k, k', q1, q2, q3, q4⟩ := store_cmds e2.1 hx
      simp only at q1
      subst q1
      exact coreC_IA e2.2 (store_rsh (cutTo_sub _ _ r k q2 q3) q4)
    refine coreC_after (fun c hc r hr => ?_) ?_
    · have := in2 c hc
      cases c with
      | put q b => exact apart_ne e2 this hr
      | frz q =>
        intro hw
        rcases e7 with h | h
        · exact absurd hw h
        · exact apart_ne h this hr
    · by_cases hca : cls cfg a = .call
      · left
        have : n2 = 0 := by
          rcases e8 with h | h
          · exact absurd hca h
          · exact coreC_call hc2 h
        simp [this]
      · exact .inr hca
  · rw [SS.mk.injEq]
    refine ⟨putT_comm hdd, ?_, by simp only; omega⟩
    refine (cmds_comm_all cs1 cs2 S.blks fun c hc d hd bs => cmd_comm c d ?_ bs).symm
    have i1 := in1 c hc
    have i2 := in2 d hd
    cases c with
    | put r b => cases d with
      | put q b' => exact apart_ne e3 i1 i2
      | frz q => exact apart_ne e4 i1 i2
    | frz r => cases d with
      | put q b' => exact fun e => apart_ne e5 i2 i1 e.symm
      | frz q => trivial
  · simp only [obVars] at *
    rcases hn with h | h
    · left; omega
    · right; omega
/-- An operation goes ahead. -/
theorem runF_move {ρ : List C} {φ : Oper → FP} {ops : List Oper} {x : Oper} {post : List Oper} : ∀ {pre : List Oper} {S S' : SS} {obs : List Ob}, (∀ a ∈ pre, indepF cfg φ ops a x = true) →
    runF (stepF P cfg φ ops) (pre ++ x :: post) S = some (S', obs) → obsHold P ρ S.nv obs →
    ∃ S1 ob1 ob2, stepF P cfg φ ops x S = some (S1, ob1) ∧ runF (stepF P cfg φ ops) (pre ++ post) S1 = some (S', ob2) ∧ obsHold P ρ S.nv ob1 ∧ obsHold P ρ S1.nv ob2
  | [], S, S', obs, _, h, ho => by
    simp only [List.nil_append, runF] at h
    split at h
    · simp at h
    · rename_i S1 ob1 h1
      split at h
      · simp at h
      · rename_i S2 ob2 h2
        simp at h
        obtain ⟨rfl, rfl⟩ := h
        rw [obsHold_app] at ho
        exact ⟨S1, ob1, ob2, h1, h2, ho.1, by rw [stepF_nv h1]; exact ho.2⟩
  | a :: pre, S, S', obs, hi, h, ho => by
    simp only [List.cons_append, runF] at h
    split at h
    · simp at h
    · rename_i Sa oba ha
      split at h
      · simp at h
      · rename_i S2 ob2 h2
        simp at h
        obtain ⟨rfl, rfl⟩ := h
        rw [obsHold_app] at ho
        obtain ⟨S3, ob3, ob4, h3, h4, ho3, ho4⟩ := runF_move (fun a' ha' => hi a' (by simp [ha'])) h2 (by rw [stepF_nv ha]; exact ho.2)
        obtain ⟨S1', e1, e2, e3⟩ := stepF_comm (hi a (by simp)) ha h3
        have n1 := stepF_nv ha
        have n2 := stepF_nv h3
        have n3 := stepF_nv e1
        have n4 := stepF_nv e2
        simp only [obVars] at e3
        refine ⟨S1', ob3, oba ++ ob4, e1, ?_, ?_, ?_⟩
        · simp only [List.cons_append, runF, e2, h4]
        · rcases e3 with e | e
          · rw [show S.nv = Sa.nv by omega]; exact ho3
          · exact obsHold_any _ _ _ e ho3
        · rw [obsHold_app]
          refine ⟨?_, by rw [← n4]; exact ho4⟩
          rcases e3 with e | e
          · exact obsHold_any _ _ _ e ho.1
          · rw [show S1'.nv = S.nv by omega]; exact ho.1
theorem runF_runOps {φ : Oper → FP} {ops : List Oper} : ∀ {l : List Oper} {S : SS} {y : SS × List Ob}, runF (stepF P cfg φ ops) l S = some y → runOps P cfg ops l S = some y
  | [], _, _, h => h
  | o :: l, S, y, h => by
    simp only [runF] at h
    split at h
    · simp at h
    · rename_i S1 ob1 h1
      split at h
      · simp at h
      · rename_i S2 ob2 h2
        simp only [runOps, stepF_astep h1, runF_runOps h2]
        exact h
end
section
variable {P : Program} {cfg : Cfg} {N0 : Nat → Prop} {w0 : Wb} {ρ : List C} {Q : Exit → Act → World → Prop}
/-- Any order that the region allows. -/
theorem any_soundF {ops : List Oper} {φ : Oper → FP} (hback : backOk ops = true) (hpairs : pairsOkF cfg φ ops (ancs ops []) = true) {S' : SS} (hq : ∀ a' w', (∃ hv', RelH P N0 w0 ρ S' hv' a' w') → Q .normal a' w') :
    ∀ (fuel : Nat) (listed : Array Bool) (S : SS) (hv : Nat → Value) (a : Act) (w : World) (obs : List Ob), RelH P N0 w0 ρ S hv a w →
      runF (stepF P cfg φ ops) (rem listed 0 ops) S = some (S', obs) → obsHold P ρ S.nv obs → listed.size = ops.length → (rem listed 0 ops).length ≤ fuel →
      (∀ i, listed.getD i false = true → ∀ j, ((ancs ops []).getD i 0).testBit j = true → listed.getD j false = true) → wpAny P .any ops.toArray Q fuel listed a w := by
  have hgd : ∀ (listed : Array Bool) (i : Nat), listed.size = ops.length → i < ops.length → listed.getD i true = listed.getD i false := by
    intro listed i h1 h2
    have : i < listed.size := by omega
    simp [Array.getD, this]
  have hnil : ∀ listed : Array Bool, listed.size = ops.length → Region.ready .any ops.toArray listed = [] → rem listed 0 ops = [] := by
    intro listed hs hr
    apply rem_nil
    intro j hj
    rw [Nat.zero_add]
    induction j using Nat.strongRecOn with
    | _ j ih =>
      cases hb : listed.getD j true with
      | true => rfl
      | false =>
        exfalso
        have hm : j ∈ Region.ready .any ops.toArray listed := by
          rw [mem_ready]
          refine ⟨hb, ops[j], by simp [hj], fun e he hbe => ?_⟩
          have h1 := zipIdx_all hback (List.getElem?_eq_getElem hj)
          simp only [List.all_eq_true] at h1
          have h2 := h1 e (by simpa using he)
          simp [hbe] at h2
          rw [← hgd listed e.on hs (by omega)]
          exact ih e.on h2 (by omega)
        rw [hr] at hm
        cases hm
  intro fuel
  induction fuel with
  | zero =>
    intro listed S hv a w obs hrel hrun ho hs hf hcl
    have h0 : rem listed 0 ops = [] := List.length_eq_zero_iff.1 (by omega)
    refine ⟨?_, ?_⟩
    · cases hr : Region.ready .any ops.toArray listed with
      | nil => rfl
      | cons i r =>
        have hm : i ∈ Region.ready .any ops.toArray listed := by rw [hr]; simp
        obtain ⟨h1, o, h2, _⟩ := mem_ready.1 hm
        rw [rem_split (listed := listed) (l := ops) (k := 0) (i := i) (x := o) (by simpa using h2) (by simpa using h1)] at h0
        simp at h0
    · rw [h0] at hrun
      simp [runF] at hrun
      obtain ⟨rfl, rfl⟩ := hrun
      exact hq a w ⟨hv, hrel⟩
  | succ fuel ih =>
    intro listed S hv a w obs hrel hrun ho hs hf hcl
    refine ⟨fun hr => ?_, fun i hi => ?_⟩
    · rw [hnil listed hs hr] at hrun
      simp [runF] at hrun
      obtain ⟨rfl, rfl⟩ := hrun
      exact hq a w ⟨hv, hrel⟩
    · obtain ⟨h1, x, h2, hall⟩ := mem_ready.1 hi
      have hx : ops[i]? = some x := by simpa using h2
      have hlt : i < ops.length := (List.getElem?_eq_some_iff.1 hx).1
      have hanc : ∀ j, ((ancs ops []).getD i 0).testBit j = true → listed.getD j false = true := by
        intro j hj
        obtain ⟨e, he, hb, h3⟩ := ancs_spec ops [] i x j hx (by simpa using hj)
        have hl := hall e (by simpa using he) hb
        rcases h3 with rfl | h3
        · exact hl
        · exact hcl e.on hl j h3
      have hsp := rem_split (listed := listed) (l := ops) (k := 0) (i := i) (x := x) hx (by simpa using h1)
      have hst := rem_set (listed := listed) (l := ops) (k := 0) (i := i) (x := x) hx (by simpa using h1) (by omega)
      rw [Nat.zero_add] at hst hsp
      rw [hsp] at hrun
      have hind : ∀ b ∈ rem listed 0 (ops.take i), indepF cfg φ ops b x = true := by
        intro b hb
        obtain ⟨j, hj, hjl⟩ := mem_rem hb
        rw [Nat.zero_add] at hjl
        rw [List.getElem?_take] at hj
        split at hj
        · rename_i hji
          have h3 := zipIdx_all (zipIdx_all hpairs hx) hj
          simp only [Bool.or_eq_true, Bool.not_eq_true', decide_eq_false_iff_not] at h3
          rcases h3 with (h3 | h3) | h3
          · exact absurd hji h3
          · have := hanc j h3
            rw [← hgd listed j hs (by omega), hjl] at this
            cases this
          · exact h3
        · cases hj
      obtain ⟨S1, ob1, ob2, e1, e2, o1, o2⟩ := runF_move hind hrun ho
      have next : ∀ a' w', (∃ hv', RelH P N0 w0 ρ S1 hv' a' w') → wpAny P .any ops.toArray Q fuel (listed.setIfInBounds i true) a' w' := by
        rintro a' w' ⟨hv', hr'⟩
        refine ih _ S1 hv' a' w' ob2 hr' (by rw [hst]; exact e2) o2 (by simpa using hs) ?_ ?_
        · rw [hst]
          rw [hsp] at hf
          simp at hf ⊢
          omega
        · intro q hq' j hj
          by_cases hqi : i = q
          · subst hqi
            exact getD_set_true (hanc j hj)
          · rw [getD_set_ne false hqi] at hq'
            exact getD_set_true (hcl q hq' j hj)
      unfold wpOp
      simp only [h2]
      have hss := astep_sound (Q := Q) hrel (stepF_astep e1) o1
      split
      · rename_i hw
        rw [if_pos hw] at hss
        exact .inl (Oper.wp_mono next hss)
      · rename_i hw
        rw [if_neg hw] at hss
        exact next _ _ hss
/-- A region, by classes or by footprints. -/
theorem region_sound2 {id : Nat} {ops : Array Oper} {draw : Bool} {S S' : SS} {hv : Nat → Value} {a : Act} {w : World} {obs : List Ob} (hrel : RelH P N0 w0 ρ S hv a w)
    (hd : (draw && !(regionOk P cfg ops.toList || regionOkF P cfg ops.toList S)) = false) (h : runOps P cfg ops.toList ops.toList S = some (S', obs)) (ho : obsHold P ρ S.nv obs)
    (hq : ∀ a' w', (∃ hv', RelH P N0 w0 ρ S' hv' a' w') → Q .normal a' w') : (Code.region id ops draw).wp P Q a w := by
  by_cases hr : (draw && !regionOk P cfg ops.toList) = false
  · exact region_sound hrel hr h ho hq
  · cases draw with
    | false => simp at hr
    | true =>
      simp at hr
      simp [hr] at hd
      unfold regionOkF at hd
      simp only [Bool.and_eq_true] at hd
      obtain ⟨hm, hback, hpairs, hsome⟩ := hd
      obtain ⟨y, hy⟩ := Option.isSome_iff_exists.1 hsome
      have hy2 := runF_runOps hy
      rw [h] at hy2
      injection hy2 with hy2
      subst hy2
      refine wp_region_any hm ?_
      have key : ∀ (l : List Oper) (k n : Nat), k + l.length ≤ n → rem (Array.replicate n false) k l = l := by
        intro l
        induction l with
        | nil => intros; rfl
        | cons o l ih =>
          intro k n hk
          simp at hk
          have : (Array.replicate n false).getD k true = false := by simp [Array.getD, show k < n by omega]
          simp only [rem, this]
          rw [ih (k + 1) n (by omega)]
          simp
      have hk := key ops.toList 0 ops.size (by simp)
      have := any_soundF (Q := Q) hback hpairs hq ops.size (Array.replicate ops.size false) S hv a { w with drawn := w.drawn + 1 } obs (hrel.drew _) (by rw [hk]; exact hy) ho (by simp) (by rw [hk]; simp)
        (fun i hi => by exfalso; by_cases hlt : i < ops.size <;> simp [Array.getD, hlt] at hi)
      simpa using this
end
end Go.Vc

/-
  Part S: more variables; other names for them; what holds at a loop's head.
-/
namespace Go.Vc
section
variable {P : Program} {N0 : Nat → Prop} {w0 : Wb} {ρ ρ' : List C} {S : SS} {hv : Nat → Value} {a : Act} {w : World} {N : Nat → Prop} {bs : List Blk}
/-- On expressions of n variables both answer the same. -/
def EnvEq (n : Nat) (ρ ρ' : List C) : Prop := ∀ e : E, e.bd n = true → e.eval ρ' = e.eval ρ
theorem EnvEq.app (ρ σ : List C) : EnvEq ρ.length ρ (ρ ++ σ) := fun e h => E.eval_app ρ σ e h
theorem EnvEq.pres {n : Nat} (h : EnvEq n ρ ρ') {p : Pres} (hp : presBd n p = true) : presTrue ρ' p ↔ presTrue ρ p := by
  unfold presBd at hp
  rw [List.all_eq_true] at hp
  exact ⟨fun H x hx => by rw [← h _ (hp x hx)]; exact H x hx, fun H x hx => by rw [h _ (hp x hx)]; exact H x hx⟩
theorem EnvEq.args {n : Nat} (h : EnvEq n ρ ρ') {l : List (Sh × E)} (hl : l.all (fun x => x.2.bd n) = true) : evalArgs ρ' l = evalArgs ρ l := by
  rw [List.all_eq_true] at hl
  exact List.map_congr_left fun x hx => by rw [h _ (hl x hx)]
def bsBd (n : Nat) (bs : List Blk) : Prop := ∀ (r : Nat) (k : Blk), bs[r]? = some k → presBd n k.pres = true ∧ k.lb.bd n = true
theorem bsBd.row {n : Nat} (h : bsBd n bs) {r : Nat} {s : Sh} {e : E} {p : Pres} (hr : rowIn bs r = some (s, e, p)) : presBd n p = true ∧ e.bd n = true := by
  unfold rowIn at hr
  split at hr
  · rename_i hk; simp at hr; obtain ⟨rfl, rfl, rfl⟩ := hr; exact h r _ hk
  · simp at hr
theorem bsBd.box {n : Nat} (h : bsBd n bs) {r : Nat} {cs : List SX} {p : Pres} (hr : boxIn bs r = some (cs, p)) : presBd n p = true := by
  unfold boxIn at hr
  split at hr
  · rename_i hk; simp at hr; obtain ⟨rfl, rfl⟩ := hr; exact (h r _ hk).1
  · simp at hr
theorem RdX.env {n : Nat} (h : EnvEq n ρ ρ') (hb : bsBd n bs) {x : SX} (hx : x.bd n = true) {v : Value} (H : RdX w N ρ bs hv x v) : RdX w N ρ' bs hv x v := by
  cases x with
  | none => trivial
  | dat s e => simp only [SX.bd] at hx; simp only [RdX] at H ⊢; rw [h e hx]; exact H
  | res l => simp only [SX.bd] at hx; simp only [RdX] at H ⊢; rw [h.args hx]; exact H
  | resO r m l =>
    simp only [SX.bd, Bool.and_eq_true] at hx
    obtain ⟨H1, v1, vr, H2, H3, H4, H5⟩ := H
    refine ⟨H1, v1, vr, H2, fun s e p hr hp => ?_, by rw [h.args hx.2]; exact H4, H5⟩
    obtain ⟨h1, h2⟩ := hb.row hr
    rw [h m hx.1, h e h2]
    exact H3 s e p hr ((h.pres h1).1 hp)
  | full r m =>
    simp only [SX.bd] at hx
    refine ⟨H.1, fun s e p hr hp => ?_⟩
    obtain ⟨h1, h2⟩ := hb.row hr
    rw [h m hx, h e h2]
    exact H.2 s e p hr ((h.pres h1).1 hp)
  | view r off m =>
    simp only [SX.bd, Bool.and_eq_true] at hx
    refine ⟨H.1, fun s e p hr hp => ?_⟩
    obtain ⟨h1, h2⟩ := hb.row hr
    rw [h off hx.1, h m hx.2, h e h2]
    exact H.2 s e p hr ((h.pres h1).1 hp)
  | ref r i fo s fld =>
    simp only [SX.bd] at hx
    refine ⟨H.1, fun es e p hr hp => ?_, fun cs p hr hp => ?_⟩
    · obtain ⟨h1, h2⟩ := hb.row hr
      rw [h i hx, h e h2]
      exact H.2.1 es e p hr ((h.pres h1).1 hp)
    · exact H.2.2 cs p hr ((h.pres (hb.box hr)).1 hp)
  | ptr s e => simp only [SX.bd] at hx; simp only [RdX] at H ⊢; rw [h e hx]; exact H
  | fn f => exact H
  | nilq e => simp only [SX.bd] at hx; simp only [RdX] at H ⊢; rw [h e hx]; exact H
  | meth t s n => exact H
  | mpo r => exact H
  | ito r => exact H
  | nxt s p => simp only [SX.bd, Bool.and_eq_true] at hx; simp only [RdX] at H ⊢; rw [h s hx.1, h p hx.2]; exact H
  | okF => exact H
theorem RdXs.env {n : Nat} (h : EnvEq n ρ ρ') (hb : bsBd n bs) : ∀ {l : List SX} {vs : List Value}, l.all (·.bd n) = true → RdXs w N ρ bs hv l vs → RdXs w N ρ' bs hv l vs
  | [], _, _, H => H
  | x :: l, _, hl, ⟨v, r, h1, h2, h3⟩ => by
    simp only [List.all_cons, Bool.and_eq_true] at hl
    exact ⟨v, r, h1, h2.env h hb hl.1, RdXs.env h hb hl.2 h3⟩
theorem BlkOk.env {n : Nat} {B : Nat → Prop} (h : EnvEq n ρ ρ') (hb : bsBd n bs) {r : Nat} {lb : LB} (hl : lb.bd n = true) (H : BlkOk w B N ρ bs hv r lb) : BlkOk w B N ρ' bs hv r lb := by
  cases lb with
  | none => trivial
  | dead => trivial
  | row s e => simp only [LB.bd] at hl; simp only [BlkOk] at H ⊢; rw [h e hl]; exact H
  | box cs =>
    simp only [LB.bd] at hl
    obtain ⟨g, bt, arr, h1, h2, h3, h4⟩ := H
    exact ⟨g, bt, arr, h1, h2, h3, h4.env h hb hl⟩
  | mp k s e => simp only [LB.bd] at hl; simp only [BlkOk] at H ⊢; rw [h e hl]; exact H
  | sit s p => simp only [LB.bd, Bool.and_eq_true] at hl; simp only [BlkOk] at H ⊢; rw [h s hl.1, h p hl.2]; exact H
theorem NN.env {n : Nat} {B : Nat → Prop} (h : EnvEq n ρ ρ') (hb : bsBd n bs) : NN N0 B ρ' bs hv = NN N0 B ρ bs hv := by
  funext b
  apply propext
  constructor
  · exact fun H => ⟨H.1, fun r k hr hl hf hp => H.2 r k hr hl hf ((h.pres (hb r k hr).1).2 hp)⟩
  · exact fun H => ⟨H.1, fun r k hr hl hf hp => H.2 r k hr hl hf ((h.pres (hb r k hr).1).1 hp)⟩
theorem SS.bd_tmps {n : Nat} (h : S.bd n = true) {t : Nat} {ts : TS} (ht : S.tmps[t]? = some ts) : presBd n ts.pres = true ∧ ts.sx.bd n = true := by
  simp only [SS.bd, Bool.and_eq_true, List.all_eq_true] at h
  exact h.1 ts (List.mem_of_getElem? ht)
theorem SS.bd_blks {n : Nat} (h : S.bd n = true) : bsBd n S.blks := by
  simp only [SS.bd, Bool.and_eq_true, List.all_eq_true] at h
  exact fun r k hk => h.2 k (List.mem_of_getElem? hk)
theorem RelH.env {n : Nat} (h : EnvEq n ρ ρ') (hb : S.bd n = true) (H : RelH P N0 w0 ρ S hv a w) : RelH P N0 w0 ρ' S hv a w := by
  have hbs := SS.bd_blks hb
  refine ⟨H.defers, H.tsz, H.below, fun t ts ht hp => ?_, fun t ts ht hp => ?_, fun r k hr hp => ?_, fun r r' k k' g hr hr' hne hl hl' hp hp' => ?_⟩
  · obtain ⟨h1, h2⟩ := SS.bd_tmps hb ht
    rw [NN.env h hbs]
    exact (H.tmps t ts ht ((h.pres h1).1 hp)).env h hbs h2
  · exact H.und t ts ht fun hq => hp ((h.pres (SS.bd_tmps hb ht).1).2 hq)
  · rw [NN.env h hbs]
    exact (H.blks r k hr ((h.pres (hbs r k hr).1).1 hp)).env h hbs (hbs r k hr).2
  · exact H.dist r r' k k' g hr hr' hne hl hl' ((h.pres (hbs r k hr).1).1 hp) ((h.pres (hbs r' k' hr').1).1 hp')

/-- Obligations ahead of a condition. -/
theorem obsVC_sound {Post : List (Sh × C) → Prop} {Bs : List (List C → Prop)} {k : VC} : ∀ {obs : List Ob} {ρ : List C}, obsBd ρ.length obs = true → (obsVC obs k).holds P Post Bs ρ →
    ∃ σ, obsHold P (ρ ++ σ) ρ.length obs ∧ k.holds P Post Bs (ρ ++ σ) ∧ σ.length = obVars obs
  | [], ρ, _, h => ⟨[], trivial, by rw [List.append_nil]; exact h, rfl⟩
  | .asrt p e :: l, ρ, hb, h => by
    simp only [obsBd, Ob.bd, Ob.vars, Nat.add_zero, Bool.and_eq_true] at hb
    obtain ⟨h1, h2⟩ := h
    obtain ⟨σ, e1, e2, e3⟩ := obsVC_sound (obs := l) hb.2 h2
    refine ⟨σ, ⟨fun hp => ?_, e1⟩, e2, by simpa [obVars, Ob.vars] using e3⟩
    have henv := EnvEq.app ρ σ
    rw [henv e hb.1.2]
    exact h1 ((henv.pres hb.1.1).1 hp)
  | .call p f args rets :: l, ρ, hb, h => by
    simp only [obsBd, Ob.bd, Ob.vars, Bool.and_eq_true] at hb
    obtain ⟨res, h0, h1, h2⟩ := h
    obtain ⟨σ, e1, e2, e3⟩ := obsVC_sound (obs := l) (ρ := ρ ++ res) (by rw [List.length_append, h0]; exact hb.2) h2
    refine ⟨res ++ σ, ⟨fun hp => ?_, ?_⟩, by rw [← List.append_assoc]; exact e2, ?_⟩
    · have henv := EnvEq.app ρ (res ++ σ)
      refine ⟨?_, .inr (by simp [h0])⟩
      rw [henv.args hb.1.2]
      have e4 : ((ρ ++ (res ++ σ)).drop ρ.length).take rets.length = res := by simp [← h0]
      rw [e4]
      exact h1 ((henv.pres hb.1.1).1 hp)
    · rw [← List.append_assoc]
      rw [List.length_append, h0] at e1
      exact e1
    · simp only [obVars, List.map_cons, List.sum_cons, Ob.vars, List.length_append] at e3 ⊢
      omega
theorem E.eval_subst {base : Nat} {es : List E} (hb : base ≤ ρ.length) : ∀ e : E, e.bd (base + es.length) = true → e.eval (ρ.take base ++ es.map (·.eval ρ)) = (e.subst base es).eval ρ := by
  intro e
  induction e with
  | var i =>
    intro h
    simp only [E.bd, decide_eq_true_eq] at h
    simp only [E.subst, E.eval]
    by_cases hi : i < base
    · rw [if_pos hi]
      simp only [E.eval, List.getD]
      rw [List.getElem?_append_left (by simp; omega), List.getElem?_take_of_lt hi]
    · rw [if_neg hi]
      simp only [List.getD]
      rw [List.getElem?_append_right (by simp; omega)]
      have hl : (ρ.take base).length = base := by simp; omega
      rw [hl]
      have h2 : i - base < es.length := by omega
      simp [h2]
  | _ => intro h; simp_all [E.bd, E.eval, E.subst]
end
end Go.Vc

/-
  Part T: what holds at a loop's head.
-/
namespace Go.Vc
section
variable {P : Program} {N0 : Nat → Prop} {w0 : Wb} {ρ : List C} {S H : SS} {hv : Nat → Value} {a : Act} {w : World} {base : Nat} {es : List E} {π : Ren}
theorem Exact_subst : ∀ {s : Sh} {e : E} {vs : List Value}, Exact s (e.subst base es) vs → Exact s e vs
  | .sl s, e, vs, h => by cases e <;> first | trivial | exact h
  | .pair x y, e, vs, h => by
    cases e with
    | cons p q =>
      obtain ⟨va, vb, h1, h2, h3, h4⟩ := h
      exact ⟨va, vb, h1, h2, Exact_subst h3, Exact_subst h4⟩
    | _ => trivial
  | .int k, e, vs, _ => by cases e <;> trivial
  | .bool, e, vs, _ => by cases e <;> trivial
  | .str, e, vs, _ => by cases e <;> trivial
  | .unit, e, vs, _ => by cases e <;> trivial
  | .ifc _ _, e, vs, _ => by cases e <;> trivial
  | .nili, e, vs, _ => by cases e <;> trivial
  | .fun_ _, e, vs, _ => by cases e <;> trivial
  | .mp _ _, e, vs, _ => by cases e <;> trivial
/-- The values of the rows at the head. -/
def headHv (π : Ren) (H : SS) (hv : Nat → Value) (r : Nat) : Value :=
  match rowAt H r with
  | some _ => match ren π r with
    | some (some q) => hv q
    | _ => .slice none 0 0
  | none => hv r
theorem rowAt_in {r : Nat} {s : Sh} {e : E} {f : Bool} (h : rowAt S r = some (s, e, f)) : S.blks[r]? = some ⟨.row s e, f, []⟩ := by
  unfold rowAt at h
  split at h
  · rename_i hk; simp at h; obtain ⟨rfl, rfl, rfl⟩ := h; exact hk
  · simp at h
theorem boxAt_in {r : Nat} {cs : List SX} {f : Bool} (h : boxAt S r = some (cs, f)) : S.blks[r]? = some ⟨.box cs, f, []⟩ := by
  unfold boxAt at h
  split at h
  · rename_i hk; simp at h; obtain ⟨rfl, rfl⟩ := h; exact hk
  · simp at h
theorem weakBs_at : ∀ {l : List Blk} {k : Nat}, weakBs base es π H S k l = true → ∀ {i : Nat} {b : Blk}, l[i]? = some b → weakB base es π H S (k + i) b = true
  | [], _, _, _, _, h => by simp at h
  | x :: l, k, hw, 0, b, h => by simp at h; subst h; simp only [weakBs, Bool.and_eq_true] at hw; exact hw.1
  | x :: l, k, hw, i + 1, b, h => by
    simp only [weakBs, Bool.and_eq_true] at hw
    have := weakBs_at hw.2 (i := i) (b := b) (by simpa using h)
    rwa [show k + 1 + i = k + (i + 1) by omega] at this
theorem weakTs_at : ∀ {l m : List TS}, weakTs base es π H l m = true → l.length = m.length ∧ ∀ {i : Nat} {x : TS}, l[i]? = some x →
    x.pres = [] ∧ (x.sx = .none ∨ ∃ y, m[i]? = some y ∧ y.pres = [] ∧ weakX base es π H x.sx y.sx = true)
  | [], [], _ => ⟨rfl, fun h => by simp at h⟩
  | [], _ :: _, h => by simp [weakTs] at h
  | _ :: _, [], h => by simp [weakTs] at h
  | x :: l, y :: m, h => by
    simp only [weakTs, Bool.and_eq_true, Bool.or_eq_true, decide_eq_true_eq] at h
    obtain ⟨h1, h2⟩ := weakTs_at h.2
    refine ⟨by simp [h1], fun {i z} hz => ?_⟩
    cases i with
    | zero =>
      simp at hz
      subst hz
      exact ⟨h.1.1, h.1.2.imp id fun h3 => ⟨y, by simp, h3.1, h3.2⟩⟩
    | succ i => simpa using h2 (by simpa using hz)
theorem renInj_spec : ∀ {π : Ren}, renInj π = true → ∀ {r r' q : Nat}, ren π r = some (some q) → ren π r' = some (some q) → r = r'
  | [], _, _, _, _, h, _ => by simp [ren] at h
  | (k, x) :: π, hi, r, r', q, h, h' => by
    simp only [renInj, Bool.and_eq_true] at hi
    have mem : ∀ {r q : Nat}, ren π r = some (some q) → ∃ z ∈ π, z.2 = some q := by
      intro r q h
      unfold ren at h
      cases hf : π.find? fun x => x.1 == r with
      | none => simp [hf] at h
      | some z => simp [hf] at h; exact ⟨z, List.mem_of_find?_eq_some hf, h⟩
    have cons : ∀ r, ren ((k, x) :: π) r = if k = r then some x else ren π r := by
      intro r
      unfold ren
      by_cases e : k = r <;> simp [e]
    rw [cons] at h h'
    by_cases e : k = r <;> by_cases e' : k = r'
    · omega
    · rw [if_pos e] at h
      rw [if_neg e'] at h'
      injection h with h
      subst h
      obtain ⟨z, hz, hz2⟩ := mem h'
      have := hi.1
      simp only [List.all_eq_true] at this
      have := this z hz
      rw [hz2] at this
      simp at this
    · rw [if_neg e] at h
      rw [if_pos e'] at h'
      injection h' with h'
      subst h'
      obtain ⟨z, hz, hz2⟩ := mem h
      have := hi.1
      simp only [List.all_eq_true] at this
      have := this z hz
      rw [hz2] at this
      simp at this
    · rw [if_neg e] at h
      rw [if_neg e'] at h'
      exact renInj_spec hi.2 h h'
theorem mapAt_in {r : Nat} {k : IntKind} {s : Sh} {e : E} {f : Bool} (h : mapAt S r = some (k, s, e, f)) : S.blks[r]? = some ⟨.mp k s e, f, []⟩ := by
  unfold mapAt at h
  split at h
  · rename_i hk; simp at h; obtain ⟨rfl, rfl, rfl, rfl⟩ := h; exact hk
  · simp at h
theorem sitAt_in {r : Nat} {s p : E} {f : Bool} (h : sitAt S r = some (s, p, f)) : S.blks[r]? = some ⟨.sit s p, f, []⟩ := by
  unfold sitAt at h
  split at h
  · rename_i hk; simp at h; obtain ⟨rfl, rfl, rfl⟩ := h; exact hk
  · simp at h
/-- What the check of a head gives, block by block. -/
structure Weak (base : Nat) (es : List E) (π : Ren) (H S : SS) : Prop where
  len : H.tmps.length = S.tmps.length
  tmps : ∀ (t : Nat) (x : TS), H.tmps[t]? = some x → x.pres = [] ∧ (x.sx = .none ∨ ∃ y, S.tmps[t]? = some y ∧ y.pres = [] ∧ weakX base es π H x.sx y.sx = true)
  row : ∀ (r : Nat) (s : Sh) (e : E) (f : Bool) (p : Pres), H.blks[r]? = some ⟨.row s e, f, p⟩ → p = [] ∧
    ((∃ q e' f', ren π r = some (some q) ∧ S.blks[q]? = some ⟨.row s e', f', []⟩ ∧ e.subst base es = e' ∧ (f = false → f' = false)) ∨ (ren π r = some none ∧ e.subst base es = .nil ∧ s.size ≠ 0))
  box : ∀ (r : Nat) (cs : List SX) (f : Bool) (p : Pres), H.blks[r]? = some ⟨.box cs, f, p⟩ → p = [] ∧ ∃ cs' f', S.blks[r]? = some ⟨.box cs', f', []⟩ ∧ (f = false → f' = false) ∧ weakXs base es π H cs cs' = true
  mp : ∀ (r : Nat) (k : IntKind) (s : Sh) (e : E) (f : Bool) (p : Pres), H.blks[r]? = some ⟨.mp k s e, f, p⟩ → p = [] ∧ ∃ e' f', S.blks[r]? = some ⟨.mp k s e', f', []⟩ ∧ (f = false → f' = false) ∧ e.subst base es = e'
  sit : ∀ (r : Nat) (s q : E) (f : Bool) (p : Pres), H.blks[r]? = some ⟨.sit s q, f, p⟩ → p = [] ∧ ∃ s' q' f', S.blks[r]? = some ⟨.sit s' q', f', []⟩ ∧ (f = false → f' = false) ∧ s.subst base es = s' ∧ q.subst base es = q'
  inj : ∀ {r r' q : Nat}, ren π r = some (some q) → ren π r' = some (some q) → r = r'
theorem weak_of (h : weakOk base es π H S = true) : Weak base es π H S := by
  simp only [weakOk, Bool.and_eq_true] at h
  obtain ⟨h1, h2, h3⟩ := h
  obtain ⟨hl, ht⟩ := weakTs_at h1
  refine ⟨hl, fun t x hx => ht hx, fun r s e f p hr => ?_, fun r cs f p hr => ?_, fun r k s e f p hr => ?_, fun r s q f p hr => ?_, fun h h' => renInj_spec h3 h h'⟩
  · have := weakBs_at h2 hr
    rw [Nat.zero_add] at this
    cases p with
    | cons _ _ => simp [weakB] at this
    | nil =>
      refine ⟨rfl, ?_⟩
      simp only [weakB] at this
      split at this
      · rename_i q hq
        split at this
        · rename_i s' e' f' hs
          simp only [Bool.and_eq_true, decide_eq_true_eq] at this
          obtain ⟨⟨rfl, h5⟩, h6⟩ := this
          exact .inl ⟨q, e', f', hq, rowAt_in hs, h5, fun hf => by simpa [hf] using h6⟩
        · simp at this
      · rename_i hq
        simp only [Bool.and_eq_true, decide_eq_true_eq, bne_iff_ne] at this
        exact .inr ⟨hq, this.1, this.2⟩
      · simp at this
  · have := weakBs_at h2 hr
    rw [Nat.zero_add] at this
    cases p with
    | cons _ _ => simp [weakB] at this
    | nil =>
      refine ⟨rfl, ?_⟩
      simp only [weakB] at this
      split at this
      · rename_i cs' f' hs
        simp only [Bool.and_eq_true] at this
        exact ⟨cs', f', boxAt_in hs, fun hf => by simpa [hf] using this.1, this.2⟩
      · simp at this
  · have := weakBs_at h2 hr
    rw [Nat.zero_add] at this
    cases p with
    | cons _ _ => simp [weakB] at this
    | nil =>
      refine ⟨rfl, ?_⟩
      simp only [weakB] at this
      split at this
      · rename_i k' s' e' f' hs
        simp only [Bool.and_eq_true, decide_eq_true_eq] at this
        obtain ⟨rfl, rfl, h5, h6⟩ := this
        exact ⟨e', f', mapAt_in hs, fun hf => by simpa [hf] using h6, h5⟩
      · simp at this
  · have := weakBs_at h2 hr
    rw [Nat.zero_add] at this
    cases p with
    | cons _ _ => simp [weakB] at this
    | nil =>
      refine ⟨rfl, ?_⟩
      simp only [weakB] at this
      split at this
      · rename_i s' q' f' hs
        simp only [Bool.and_eq_true, decide_eq_true_eq] at this
        obtain ⟨h4, h5, h6⟩ := this
        exact ⟨s', q', f', sitAt_in hs, fun hf => by simpa [hf] using h6, h4, h5⟩
      · simp at this
theorem row_rowAt {r : Nat} {s : Sh} {e : E} {f : Bool} (h : S.blks[r]? = some ⟨.row s e, f, []⟩) : rowAt S r = some (s, e, f) := by unfold rowAt; rw [h]
theorem row_rowIn {bs : List Blk} {r : Nat} {s : Sh} {e : E} {f : Bool} {p : Pres} (h : bs[r]? = some ⟨.row s e, f, p⟩) : rowIn bs r = some (s, e, p) := by unfold rowIn; rw [h]
theorem box_boxIn {bs : List Blk} {r : Nat} {cs : List SX} {f : Bool} {p : Pres} (h : bs[r]? = some ⟨.box cs, f, p⟩) : boxIn bs r = some (cs, p) := by unfold boxIn; rw [h]
theorem rowIn_row {bs : List Blk} {r : Nat} {s : Sh} {e : E} {p : Pres} (h : rowIn bs r = some (s, e, p)) : ∃ f, bs[r]? = some ⟨.row s e, f, p⟩ := by
  unfold rowIn at h
  split at h
  · rename_i hk; simp at h; obtain ⟨rfl, rfl, rfl⟩ := h; exact ⟨_, hk⟩
  · simp at h
theorem boxIn_box {bs : List Blk} {r : Nat} {cs : List SX} {p : Pres} (h : boxIn bs r = some (cs, p)) : ∃ f, bs[r]? = some ⟨.box cs, f, p⟩ := by
  unfold boxIn at h
  split at h
  · rename_i hk; simp at h; obtain ⟨rfl, rfl⟩ := h; exact ⟨_, hk⟩
  · simp at h
theorem headHv_row {r q : Nat} {s : Sh} {e : E} {f : Bool} (h : H.blks[r]? = some ⟨.row s e, f, []⟩) (hq : ren π r = some (some q)) : headHv π H hv r = hv q := by
  unfold headHv; rw [row_rowAt h, hq]
theorem headHv_nil {r : Nat} {s : Sh} {e : E} {f : Bool} (h : H.blks[r]? = some ⟨.row s e, f, []⟩) (hq : ren π r = some none) : headHv π H hv r = .slice none 0 0 := by
  unfold headHv; rw [row_rowAt h, hq]
theorem headHv_box {r : Nat} {cs : List SX} {f : Bool} {p : Pres} (h : H.blks[r]? = some ⟨.box cs, f, p⟩) : headHv π H hv r = hv r := by
  unfold headHv
  have : rowAt H r = none := by unfold rowAt; rw [h]
  rw [this]

theorem headHv_obj {r : Nat} {lb : LB} {f : Bool} {p : Pres} (h : H.blks[r]? = some ⟨lb, f, p⟩) (hn : ∀ s e, lb ≠ .row s e) : headHv π H hv r = hv r := by
  unfold headHv
  have : rowAt H r = none := by
    unfold rowAt
    rw [h]
    cases lb with
    | row s e => exact absurd rfl (hn s e)
    | _ => rfl
  rw [this]
theorem weakX_sound (hw : Weak base es π H S) (hb : base ≤ ρ.length) (hbd : H.bd (base + es.length) = true) {N : Nat → Prop} {x y : SX} {v : Value} (hx : x.bd (base + es.length) = true)
    (h : weakX base es π H x y = true) (hr : RdX w N ρ S.blks hv y v) : RdX w N (ρ.take base ++ es.map (·.eval ρ)) H.blks (headHv π H hv) x v := by
  have hbs := SS.bd_blks hbd
  have hev : ∀ e : E, e.bd (base + es.length) = true → e.eval (ρ.take base ++ es.map (·.eval ρ)) = (e.subst base es).eval ρ := fun e he => E.eval_subst hb e he
  unfold weakX at h
  split at h
  · trivial
  · rename_i s e s' e'
    simp only [Bool.and_eq_true, decide_eq_true_eq] at h
    obtain ⟨rfl, rfl⟩ := h
    simp only [SX.bd] at hx
    obtain ⟨vs, h1, h2, h3⟩ := hr
    exact ⟨vs, by rw [hev e hx]; exact h1, h2, Exact_subst h3⟩
  · rename_i r n r' n'
    simp only [Bool.and_eq_true, decide_eq_true_eq, Bool.or_eq_true, Option.isSome_iff_exists] at h
    obtain ⟨⟨⟨⟨s, e, f⟩, hH⟩, hren⟩, hlen⟩ := h
    have hHr := rowAt_in hH
    simp only [SX.bd] at hx
    refine ⟨⟨_, hHr, by simp⟩, fun s1 e1 p1 hr1 _ => ?_⟩
    rw [row_rowIn hHr] at hr1
    simp at hr1
    obtain ⟨rfl, rfl, rfl⟩ := hr1
    obtain ⟨_, hcase⟩ := hw.row r s e f [] hHr
    rcases hcase with ⟨q, e', f', hq, hS, he, _⟩ | ⟨hq, _, _⟩
    · rw [hren] at hq
      injection hq with hq
      injection hq with hq
      subst hq
      obtain ⟨h1, h2⟩ := hr.2 s e' [] (row_rowIn hS) (presTrue_nil ρ)
      rw [headHv_row hHr hren]
      have hbe := (hbs r _ hHr).2
      simp only [LB.bd] at hbe
      refine ⟨h1, ?_⟩
      rcases hlen with hlen | hlen
      · rw [hev n hx, hev e hbe, hlen, he]
        exact h2
      · unfold isLen at hlen
        rw [hH] at hlen
        simp at hlen
        rw [hlen]
        simp [E.eval]
    · rw [hren] at hq; simp at hq
  · rename_i r n s
    simp only [Bool.and_eq_true, decide_eq_true_eq] at h
    obtain ⟨hren, hs, hlen⟩ := h
    cases hH : rowAt H r with
    | none => rw [hH] at hs; simp at hs
    | some y =>
      obtain ⟨s', e, f⟩ := y
      rw [hH] at hs
      simp at hs
      subst hs
      have hHr := rowAt_in hH
      refine ⟨⟨_, hHr, by simp⟩, fun s1 e1 p1 hr1 _ => ?_⟩
      rw [row_rowIn hHr] at hr1
      simp at hr1
      obtain ⟨rfl, rfl, rfl⟩ := hr1
      rw [headHv_nil hHr hren]
      obtain ⟨vs, h1, h2, h3⟩ := hr
      simp only [Exact] at h3
      subst h3
      refine ⟨by rw [h2]; simp [Sh.mk, Sh.isAgg], ?_⟩
      unfold isLen at hlen
      rw [hH] at hlen
      simp at hlen
      rw [hlen]
      simp [E.eval]
  · rename_i r off n r' off' n'
    simp only [Bool.and_eq_true, decide_eq_true_eq, Option.isSome_iff_exists] at h
    obtain ⟨⟨⟨⟨s, e, f⟩, hH⟩, hren⟩, hoff, hn⟩ := h
    have hHr := rowAt_in hH
    simp only [SX.bd, Bool.and_eq_true] at hx
    refine ⟨⟨_, hHr, by simp⟩, fun s1 e1 p1 hr1 _ => ?_⟩
    rw [row_rowIn hHr] at hr1
    simp at hr1
    obtain ⟨rfl, rfl, rfl⟩ := hr1
    obtain ⟨_, hcase⟩ := hw.row r s e f [] hHr
    rcases hcase with ⟨q, e', f', hq, hS, he, _⟩ | ⟨hq, _, _⟩
    · rw [hren] at hq
      injection hq with hq
      injection hq with hq
      subst hq
      have h1 := hr.2 s e' [] (row_rowIn hS) (presTrue_nil ρ)
      rw [headHv_row hHr hren]
      have hbe := (hbs r _ hHr).2
      simp only [LB.bd] at hbe
      rw [hev off hx.1, hev n hx.2, hev e hbe, hoff, hn, he]
      exact h1
    · rw [hren] at hq; simp at hq
  · rename_i r i fo s fld r' i' fo' s' fld'
    simp only [Bool.and_eq_true, decide_eq_true_eq, Option.isSome_iff_exists] at h
    obtain ⟨⟨rfl, ⟨cs, f⟩, hH⟩, hi, rfl, rfl, rfl⟩ := h
    have hHr := boxAt_in hH
    refine ⟨⟨_, hHr, by simp⟩, fun es1 e1 p1 hr1 _ => ?_, fun cs1 p1 hr1 _ => ?_⟩
    · obtain ⟨f1, hf1⟩ := rowIn_row hr1
      rw [hHr] at hf1
      simp at hf1
    · obtain ⟨_, cs', f', hS, _, _⟩ := hw.box r cs f [] hHr
      rw [headHv_box hHr]
      exact hr.2.2 cs' [] (box_boxIn hS) (presTrue_nil ρ)
  · rename_i f f'
    simp only [decide_eq_true_eq] at h
    subst h
    exact hr
  · simp only [Bool.and_eq_true, decide_eq_true_eq] at h
    obtain ⟨rfl, rfl, rfl⟩ := h
    exact hr
  · simp only [Bool.and_eq_true, decide_eq_true_eq, Option.isSome_iff_exists] at h
    obtain ⟨rfl, ⟨k, s, e, f⟩, hH⟩ := h
    have hHr := mapAt_in hH
    exact ⟨⟨_, hHr, by simp⟩, by rw [headHv_obj hHr (by simp)]; exact hr.2⟩
  · simp only [Bool.and_eq_true, decide_eq_true_eq, Option.isSome_iff_exists] at h
    obtain ⟨rfl, ⟨s, e, f⟩, hH⟩ := h
    have hHr := sitAt_in hH
    exact ⟨⟨_, hHr, by simp⟩, by rw [headHv_obj hHr (by simp)]; exact hr.2⟩
  · simp at h
theorem weakXs_sound (hw : Weak base es π H S) (hb : base ≤ ρ.length) (hbd : H.bd (base + es.length) = true) {N : Nat → Prop} : ∀ {l m : List SX} {vs : List Value}, l.all (·.bd (base + es.length)) = true →
    weakXs base es π H l m = true → RdXs w N ρ S.blks hv m vs → RdXs w N (ρ.take base ++ es.map (·.eval ρ)) H.blks (headHv π H hv) l vs
  | [], [], _, _, _, hr => hr
  | [], _ :: _, _, _, h, _ => by simp [weakXs] at h
  | _ :: _, [], _, _, h, _ => by simp [weakXs] at h
  | x :: l, y :: m, _, hl, h, ⟨v, r, h1, h2, h3⟩ => by
    simp only [weakXs, Bool.and_eq_true] at h
    simp only [List.all_cons, Bool.and_eq_true] at hl
    exact ⟨v, r, h1, weakX_sound hw hb hbd hl.1 h.1 h2, weakXs_sound hw hb hbd hl.2 h.2 h3⟩
/-- At a loop's head. -/
theorem weak_sound (hrel : RelH P N0 w0 ρ S hv a w) (hok : weakOk base es π H S = true) (hb : base ≤ ρ.length) (hbd : H.bd (base + es.length) = true) :
    RelH P N0 w0 (ρ.take base ++ es.map (·.eval ρ)) H (headHv π H hv) a w := by
  have hw := weak_of hok
  have hbs := SS.bd_blks hbd
  have hev : ∀ e : E, e.bd (base + es.length) = true → e.eval (ρ.take base ++ es.map (·.eval ρ)) = (e.subst base es).eval ρ := fun e he => E.eval_subst hb e he
  -- a live block of the head is a live block here
  have live : ∀ r k g, H.blks[r]? = some k → liveB k = true → blkNo (headHv π H hv r) = some g →
      ∃ q k', S.blks[q]? = some k' ∧ liveB k' = true ∧ k'.pres = [] ∧ blkNo (hv q) = some g ∧ (k.froz = false → k'.froz = false) ∧ ((∃ s e, k.lb = .row s e) → ren π r = some (some q) ∧ ∃ s e, k'.lb = .row s e) ∧ ((∀ s e, k.lb ≠ .row s e) → q = r ∧ ∀ s e, k'.lb ≠ .row s e) := by
    intro r k g hk hl hg
    obtain ⟨lb, f, p⟩ := k
    cases lb with
    | none => cases hl
    | dead => cases hl
    | row s e =>
      obtain ⟨rfl, hcase⟩ := hw.row r s e f p hk
      rcases hcase with ⟨q, e', f', hq, hS, he, hf⟩ | ⟨hq, _, _⟩
      · rw [headHv_row hk hq] at hg
        exact ⟨q, _, hS, rfl, rfl, hg, hf, fun _ => ⟨hq, s, e', rfl⟩, fun h => absurd rfl (h s e)⟩
      · rw [headHv_nil hk hq] at hg; cases hg
    | box cs =>
      obtain ⟨rfl, cs', f', hS, hf, _⟩ := hw.box r cs f p hk
      rw [headHv_box hk] at hg
      exact ⟨r, _, hS, rfl, rfl, hg, hf, fun ⟨_, _, h⟩ => (by cases h), fun _ => ⟨rfl, by simp⟩⟩
    | mp k s e =>
      obtain ⟨rfl, e', f', hS, hf, _⟩ := hw.mp r k s e f p hk
      rw [headHv_obj hk (by simp)] at hg
      exact ⟨r, _, hS, rfl, rfl, hg, hf, fun ⟨_, _, h⟩ => (by cases h), fun _ => ⟨rfl, by simp⟩⟩
    | sit s q =>
      obtain ⟨rfl, s', q', f', hS, hf, _⟩ := hw.sit r s q f p hk
      rw [headHv_obj hk (by simp)] at hg
      exact ⟨r, _, hS, rfl, rfl, hg, hf, fun ⟨_, _, h⟩ => (by cases h), fun _ => ⟨rfl, by simp⟩⟩
  have hNN : ∀ b, NN N0 w0.own ρ S.blks hv b → NN N0 w0.own (ρ.take base ++ es.map (·.eval ρ)) H.blks (headHv π H hv) b := by
    intro b hbn
    refine ⟨hbn.1, fun r k hk hl hf hp hg => ?_⟩
    obtain ⟨q, k', h1, h2, h3, h4, h5, _, _⟩ := live r k b hk hl hg
    exact hbn.2 q k' h1 h2 (h5 hf) (by rw [h3]; exact presTrue_nil ρ) h4
  have hk : ∀ b, NN N0 w0.own ρ S.blks hv b → b < w.heap.size → w.heap[b]? = w.heap[b]? ∧ NN N0 w0.own (ρ.take base ++ es.map (·.eval ρ)) H.blks (headHv π H hv) b := fun b h _ => ⟨rfl, hNN b h⟩
  have monoX : ∀ {x : SX} {v : Value}, RdX w (NN N0 w0.own ρ S.blks hv) ρ S.blks hv x v → RdX w (NN N0 w0.own (ρ.take base ++ es.map (·.eval ρ)) H.blks (headHv π H hv)) ρ S.blks hv x v :=
    fun h => h.le (Nat.le_refl _) hk (BsLe.refl _ _ _)
  refine ⟨hrel.defers, by rw [hrel.tsz, hw.len], hrel.below, fun t x ht hp => ?_, fun t x ht hp => ?_, fun r k hr hp => ?_, fun r r' k k' g hr hr' hne hl hl' hp hp' hg hg' => ?_⟩
  · obtain ⟨_, h1⟩ := hw.tmps t x ht
    rcases h1 with h1 | ⟨y, hy, hyp, h1⟩
    · rw [h1]; trivial
    · exact weakX_sound hw hb hbd (SS.bd_tmps hbd ht).2 h1 (monoX (hrel.tmps t y hy (by rw [hyp]; exact presTrue_nil ρ)))
  · exact absurd (by rw [(hw.tmps t x ht).1]; exact presTrue_nil _) hp
  · obtain ⟨lb, f, p⟩ := k
    cases lb with
    | none => trivial
    | dead => trivial
    | row s e =>
      obtain ⟨rfl, hcase⟩ := hw.row r s e f p hr
      have hbe := (hbs r _ hr).2
      simp only [LB.bd] at hbe
      rcases hcase with ⟨q, e', f', hq, hS, he, _⟩ | ⟨hq, he, h0⟩
      · obtain ⟨et, xs, h1, h2, h3⟩ := hrel.blks q _ hS (presTrue_nil ρ)
        refine ⟨et, xs, ?_, ?_, h3⟩
        · rw [headHv_row hr hq, hev e hbe, he]; exact h1
        · rw [hev e hbe, he]; exact h2.mono (Nat.le_refl _) hk
      · refine ⟨0, [], ?_, ?_, by omega⟩
        · rw [headHv_nil hr hq, hev e hbe, he]
          exact ⟨by simp [E.eval], .inl ⟨rfl, by simp [E.eval]⟩⟩
        · rw [hev e hbe, he]; simp [E.eval, RdRow]
    | box cs =>
      obtain ⟨rfl, cs', f', hS, _, hx⟩ := hw.box r cs f p hr
      obtain ⟨g, bt, arr, h1, h2, h3, h4⟩ := hrel.blks r _ hS (presTrue_nil ρ)
      have hbe := (hbs r _ hr).2
      simp only [LB.bd] at hbe
      refine ⟨g, bt, arr, by rw [headHv_box hr]; exact h1, h2, h3, weakXs_sound hw hb hbd hbe hx (h4.le (Nat.le_refl _) hk (BsLe.refl _ _ _))⟩
    | mp k s e =>
      obtain ⟨rfl, e', f', hS, _, he⟩ := hw.mp r k s e f p hr
      obtain ⟨g, l, h1, h2, h3, h4⟩ := hrel.blks r _ hS (presTrue_nil ρ)
      have hbe := (hbs r _ hr).2
      simp only [LB.bd] at hbe
      refine ⟨g, l, by rw [headHv_obj hr (by simp)]; exact h1, h2, h3, ?_⟩
      rw [hev e hbe, he]
      exact h4.imp fun _ _ h => h.mono (Nat.le_refl _) hk
    | sit s q =>
      obtain ⟨rfl, s', q', f', hS, _, he, he'⟩ := hw.sit r s q f p hr
      obtain ⟨g, n, h1, h2, h3, h4⟩ := hrel.blks r _ hS (presTrue_nil ρ)
      have hbe := (hbs r _ hr).2
      simp only [LB.bd, Bool.and_eq_true] at hbe
      refine ⟨g, n, by rw [headHv_obj hr (by simp)]; exact h1, h2, ?_, ?_⟩
      · rw [hev q hbe.2, he']; exact h3
      · rw [hev s hbe.1, he]; exact h4
  · obtain ⟨q, k1, a1, a2, a3, a4, _, a6, a7⟩ := live r k g hr hl hg
    obtain ⟨q', k1', b1, b2, b3, b4, _, b6, b7⟩ := live r' k' g hr' hl' hg'
    refine hrel.dist q q' k1 k1' g a1 b1 ?_ a2 b2 (by rw [a3]; exact presTrue_nil ρ) (by rw [b3]; exact presTrue_nil ρ) a4 b4
    intro e
    subst e
    rw [a1] at b1
    injection b1 with b1
    subst b1
    by_cases h1 : ∃ s e, k.lb = .row s e
    · by_cases h2 : ∃ s e, k'.lb = .row s e
      · exact hne (hw.inj (a6 h1).1 (b6 h2).1)
      · obtain ⟨_, s1, e1, e2⟩ := a6 h1
        exact (b7 (fun s e h => h2 ⟨s, e, h⟩)).2 _ _ e2
    · have a8 := a7 fun s e h => h1 ⟨s, e, h⟩
      by_cases h2 : ∃ s e, k'.lb = .row s e
      · obtain ⟨_, s1, e1, e2⟩ := b6 h2
        exact a8.2 _ _ e2
      · exact hne (a8.1.symm.trans (b7 fun s e h => h2 ⟨s, e, h⟩).1)
end
end Go.Vc

/-
  Part U: the ways of an 'if' that meet again.
-/
namespace Go.Vc
section
variable {P : Program} {cfg : Cfg} {N0 : Nat → Prop} {w0 : Wb} {ρ : List C} {S M : SS} {hv : Nat → Value} {a : Act} {w : World} {Q : Exit → Act → World → Prop}
def LikeX (ρ : List C) (x m : SX) : Prop := m = x ∨ ∃ s e e', x = .dat s e ∧ m = .dat s e' ∧ e'.eval ρ = e.eval ρ ∧ ∀ vs, Exact s e' vs
inductive LikeXs (ρ : List C) : List SX → List SX → Prop
  | nil : LikeXs ρ [] []
  | cons {x m : SX} {l k : List SX} : LikeX ρ x m → LikeXs ρ l k → LikeXs ρ (x :: l) (m :: k)
theorem LikeXs.refl : ∀ l : List SX, LikeXs ρ l l
  | [] => .nil
  | _ :: l => .cons (.inl rfl) (LikeXs.refl l)
def LikeB (ρ : List C) (k0 k : Blk) : Prop := k = k0 ∨ ∃ cs0 cs f, k0 = ⟨.box cs0, f, []⟩ ∧ k = ⟨.box cs, f, []⟩ ∧ LikeXs ρ cs0 cs
structure Like (ρ : List C) (S M : SS) : Prop where
  len : M.tmps.length = S.tmps.length
  tmps : ∀ (t : Nat) (m : TS), M.tmps[t]? = some m → m.pres = [] ∧ (m.sx = .none ∨ ∃ x, S.tmps[t]? = some x ∧ x.pres = [] ∧ LikeX ρ x.sx m.sx)
  fwd : ∀ (r : Nat) (k : Blk), S.blks[r]? = some k → ∃ k', M.blks[r]? = some k' ∧ LikeB ρ k k'
  bwd : ∀ (r : Nat) (k : Blk), M.blks[r]? = some k → ∃ k', S.blks[r]? = some k' ∧ LikeB ρ k' k
theorem LikeX.rd {N : Nat → Prop} {bs : List Blk} {x m : SX} {v : Value} (h : LikeX ρ x m) (hr : RdX w N ρ bs hv x v) : RdX w N ρ bs hv m v := by
  rcases h with rfl | ⟨s, e, e', rfl, rfl, h1, h2⟩
  · exact hr
  · obtain ⟨vs, h3, h4, _⟩ := hr
    exact ⟨vs, by rw [h1]; exact h3, h4, h2 vs⟩
theorem LikeXs.rd {N : Nat → Prop} {bs : List Blk} : ∀ {l k : List SX} {vs : List Value}, LikeXs ρ l k → RdXs w N ρ bs hv l vs → RdXs w N ρ bs hv k vs
  | [], _, _, .nil, hr => hr
  | _ :: _, _, _, .cons h1 h2, ⟨v, r, e, h3, h4⟩ => ⟨v, r, e, h1.rd h3, LikeXs.rd h2 h4⟩
theorem LikeB.same {k0 k : Blk} (h : LikeB ρ k0 k) : liveB k = liveB k0 ∧ k.froz = k0.froz ∧ k.pres = k0.pres ∧ (k0.lb ≠ .none → k.lb ≠ .none) := by
  rcases h with rfl | ⟨cs0, cs, f, rfl, rfl, _⟩
  · exact ⟨rfl, rfl, rfl, id⟩
  · exact ⟨rfl, rfl, rfl, fun _ => by simp⟩
theorem Like.le (h : Like ρ S M) : BsLe ρ S.blks M.blks hv hv := by
  refine ⟨fun r ⟨k, h1, h2⟩ => ⟨?_, rfl⟩, fun r s e p _ hr => ?_, fun r cs p _ hr => ?_⟩
  · obtain ⟨k', h3, h4⟩ := h.fwd r k h1
    exact ⟨k', h3, h4.same.2.2.2 h2⟩
  · obtain ⟨f, hf⟩ := rowIn_row hr
    obtain ⟨k', h3, h4⟩ := h.bwd r _ hf
    rcases h4 with h4 | ⟨_, _, _, _, h4, _⟩
    · subst h4; exact ⟨e, row_rowIn h3, rfl⟩
    · simp at h4
  · obtain ⟨f, hf⟩ := boxIn_box hr
    obtain ⟨k', h3, h4⟩ := h.bwd r _ hf
    rcases h4 with h4 | ⟨cs0, _, f', h5, h4, _⟩
    · subst h4; exact ⟨cs, box_boxIn h3⟩
    · subst h5
      simp at h4
      obtain ⟨rfl, rfl, rfl⟩ := h4
      exact ⟨cs0, box_boxIn h3⟩
theorem Like.rel (h : Like ρ S M) (hrel : RelH P N0 w0 ρ S hv a w) : RelH P N0 w0 ρ M hv a w := by
  have hNN : ∀ b, NN N0 w0.own ρ S.blks hv b → NN N0 w0.own ρ M.blks hv b := by
    intro b hb
    refine ⟨hb.1, fun r k hk hl hf hp => ?_⟩
    obtain ⟨k', h1, h2⟩ := h.bwd r k hk
    obtain ⟨e1, e2, e3, _⟩ := h2.same
    exact hb.2 r k' h1 (by rw [← e1]; exact hl) (by rw [← e2]; exact hf) (by rw [← e3]; exact hp)
  have hk : ∀ b, NN N0 w0.own ρ S.blks hv b → b < w.heap.size → w.heap[b]? = w.heap[b]? ∧ NN N0 w0.own ρ M.blks hv b := fun b hb _ => ⟨rfl, hNN b hb⟩
  refine ⟨hrel.defers, by rw [hrel.tsz, h.len], hrel.below, fun t m ht hp => ?_, fun t m ht hp => ?_, fun r k hr hp => ?_, fun r r' k k' g hr hr' hne hl hl' hp hp' => ?_⟩
  · obtain ⟨_, h1⟩ := h.tmps t m ht
    rcases h1 with h1 | ⟨x, hx, hxp, h1⟩
    · rw [h1]; trivial
    · exact h1.rd ((hrel.tmps t x hx (by rw [hxp]; exact presTrue_nil ρ)).le (Nat.le_refl _) hk h.le)
  · exact absurd (by rw [(h.tmps t m ht).1]; exact presTrue_nil _) hp
  · obtain ⟨k', h1, h2⟩ := h.bwd r k hr
    obtain ⟨e1, e2, e3, _⟩ := h2.same
    have h3 := (hrel.blks r k' h1 (by rw [← e3]; exact hp)).le (Nat.le_refl _) hk (h.le (hv := hv)) rfl fun _ _ => rfl
    rcases h2 with h2 | ⟨cs0, cs, f, h4, h5, h6⟩
    · subst h2; exact h3
    · subst h4 h5
      obtain ⟨g, bt, arr, i1, i2, i3, i4⟩ := h3
      exact ⟨g, bt, arr, i1, i2, i3, h6.rd i4⟩
  · obtain ⟨k1, h1, h2⟩ := h.bwd r k hr
    obtain ⟨k2, h3, h4⟩ := h.bwd r' k' hr'
    obtain ⟨e1, _, e3, _⟩ := h2.same
    obtain ⟨e1', _, e3', _⟩ := h4.same
    exact hrel.dist r r' k1 k2 g h1 h3 hne (by rw [← e1]; exact hl) (by rw [← e1']; exact hl') (by rw [← e3]; exact hp) (by rw [← e3']; exact hp')

theorem ite_like {c e e' : E} {s : Sh} : (∀ vs, Exact s (.ite c e e') vs) := Exact_leaf (by simp) (by simp)
theorem mergeX_like {c : E} {b : Bool} (hc : (c.eval ρ).toBool = b) (x y : SX) : mergeX c x y = .none ∨ LikeX ρ (if b then x else y) (mergeX c x y) := by
  unfold mergeX
  split
  · rename_i s e s' e'
    split
    · rename_i hs
      subst hs
      split
      · rename_i he; subst he; right; left; cases b <;> rfl
      · right; right
        cases b
        · exact ⟨s, e', _, rfl, rfl, by simp [E.eval, hc], ite_like⟩
        · exact ⟨s, e, _, rfl, rfl, by simp [E.eval, hc], ite_like⟩
    · exact .inl rfl
  · split
    · rename_i h; subst h; right; left; cases b <;> rfl
    · exact .inl rfl
theorem mergeTs_like {c : E} {b : Bool} (hc : (c.eval ρ).toBool = b) : ∀ {l m : List TS}, l.length = m.length → (mergeTs c l m).length = l.length ∧ ∀ {t : Nat} {z : TS}, (mergeTs c l m)[t]? = some z →
    z.pres = [] ∧ (z.sx = .none ∨ ∃ x, (if b then l else m)[t]? = some x ∧ x.pres = [] ∧ LikeX ρ x.sx z.sx)
  | [], [], _ => ⟨rfl, fun h => by simp [mergeTs] at h⟩
  | [], _ :: _, h => by simp at h
  | _ :: _, [], h => by simp at h
  | x :: l, y :: m, h => by
    obtain ⟨h1, h2⟩ := mergeTs_like hc (l := l) (m := m) (by simpa using h)
    refine ⟨by simp [mergeTs, h1], fun {t z} hz => ?_⟩
    cases t with
    | zero =>
      simp only [mergeTs, List.getElem?_cons_zero, Option.some.injEq] at hz
      split at hz
      · rename_i hp
        subst hz
        refine ⟨rfl, ?_⟩
        rcases mergeX_like hc x.sx y.sx with h3 | h3
        · exact .inl h3
        · right
          cases b
          · exact ⟨y, rfl, hp.2, h3⟩
          · exact ⟨x, rfl, hp.1, h3⟩
      · subst hz; exact ⟨rfl, .inl rfl⟩
    | succ t =>
      have := h2 (t := t) (z := z) (by simpa [mergeTs] using hz)
      cases b <;> simpa using this
theorem mergeCs_like {c : E} {b : Bool} (hc : (c.eval ρ).toBool = b) : ∀ {l m r : List SX}, mergeCs c l m = some r → LikeXs ρ (if b then l else m) r
  | [], [], r, h => by simp [mergeCs] at h; subst h; cases b <;> exact .nil
  | [], _ :: _, _, h => by simp [mergeCs] at h
  | _ :: _, [], _, h => by simp [mergeCs] at h
  | x :: l, y :: m, r, h => by
    simp only [mergeCs] at h
    split at h
    · rename_i r' hr
      have ih := mergeCs_like hc hr
      split at h
      · rename_i he
        subst he
        simp at h
        subst h
        cases b <;> exact .cons (.inl rfl) ih
      · split at h
        · rename_i s e s' e' _
          split at h
          · rename_i hs
            subst hs
            simp at h
            subst h
            cases b
            · exact .cons (.inr ⟨s, e', _, rfl, rfl, by simp [E.eval, hc], ite_like⟩) ih
            · exact .cons (.inr ⟨s, e, _, rfl, rfl, by simp [E.eval, hc], ite_like⟩) ih
          · simp at h
        · simp at h
    · simp at h
theorem mergeB_like {c : E} {b : Bool} (hc : (c.eval ρ).toBool = b) {x y k : Blk} (h : mergeB c x y = some k) : LikeB ρ (if b then x else y) k := by
  unfold mergeB at h
  split at h
  · rename_i he; subst he; simp at h; subst h; cases b <;> exact .inl rfl
  · split at h
    · rename_i cs f cs' f' _
      split at h
      · rename_i hf
        subst hf
        split at h
        · rename_i r hr
          simp at h
          subst h
          have := mergeCs_like hc hr
          cases b
          · exact .inr ⟨cs', r, f, rfl, rfl, this⟩
          · exact .inr ⟨cs, r, f, rfl, rfl, this⟩
        · simp at h
      · simp at h
    · simp at h
theorem mergeBs_like {c : E} {b : Bool} (hc : (c.eval ρ).toBool = b) : ∀ {l m bs : List Blk}, mergeBs c l m = some bs → bs.length = (if b then l else m).length ∧
    ∀ (r : Nat) (k : Blk), bs[r]? = some k → ∃ k', (if b then l else m)[r]? = some k' ∧ LikeB ρ k' k
  | [], [], bs, h => by simp [mergeBs] at h; subst h; cases b <;> exact ⟨rfl, fun r k hk => by simp at hk⟩
  | [], _ :: _, _, h => by simp [mergeBs] at h
  | _ :: _, [], _, h => by simp [mergeBs] at h
  | x :: l, y :: m, bs, h => by
    simp only [mergeBs] at h
    split at h
    · rename_i k' r' h1 h2
      simp at h
      subst h
      obtain ⟨i1, i2⟩ := mergeBs_like hc h2
      refine ⟨by cases b <;> simpa using i1, fun r k hk => ?_⟩
      cases r with
      | zero =>
        simp at hk
        subst hk
        have := mergeB_like hc h1
        cases b
        · exact ⟨y, rfl, this⟩
        · exact ⟨x, rfl, this⟩
      | succ r =>
        have := i2 r k (by simpa using hk)
        cases b <;> simpa using this
    · simp at h
theorem mergeS_like {c : E} {b : Bool} (hc : (c.eval ρ).toBool = b) {S1 S2 : SS} (h : mergeS c S1 S2 = some M) : Like ρ (if b then S1 else S2) M ∧ M.nv = S1.nv := by
  unfold mergeS at h
  split at h
  · rename_i hl
    split at h
    · rename_i bs hb
      simp at h
      subst h
      obtain ⟨t1, t2⟩ := mergeTs_like hc hl.1
      obtain ⟨b1, b2⟩ := mergeBs_like hc hb
      have fwd : ∀ (r : Nat) (k : Blk), (if b then S1 else S2).blks[r]? = some k → ∃ k', bs[r]? = some k' ∧ LikeB ρ k k' := by
        intro r k hk
        have hlt : r < bs.length := by
          rw [b1]
          have := (List.getElem?_eq_some_iff.1 hk).1
          cases b <;> exact this
        obtain ⟨k', h1, h2⟩ := b2 r bs[r] (by simp [hlt])
        have : k' = k := by
          have e : (if b then S1.blks else S2.blks)[r]? = some k := by cases b <;> exact hk
          rw [e] at h1
          injection h1 with h1
          exact h1.symm
        subst this
        exact ⟨bs[r], by simp [hlt], h2⟩
      refine ⟨⟨?_, fun t m ht => ?_, fwd, fun r k hk => ?_⟩, rfl⟩
      · cases b
        · exact t1.trans hl.1
        · exact t1
      · have := t2 ht
        cases b <;> exact this
      · have := b2 r k hk
        cases b <;> exact this
    · simp at h
  · simp at h
theorem under_vars (p : Pres) (o : Ob) : (o.under p).vars = o.vars := by cases o <;> rfl
theorem under_hold {p : Pres} (hp : presTrue ρ p) : ∀ {l : List Ob} {nv : Nat}, obsHold P ρ nv (l.map (Ob.under p)) → obsHold P ρ nv l
  | [], _, _ => trivial
  | o :: l, nv, h => by
    obtain ⟨h1, h2⟩ := h
    rw [under_vars] at h2
    refine ⟨?_, under_hold hp h2⟩
    cases o with
    | asrt q e => exact fun hq => h1 (presTrue_app.2 ⟨hp, hq⟩)
    | call q f args rets => exact fun hq => h1 (presTrue_app.2 ⟨hp, hq⟩)
theorem prun_nv : ∀ {c : Code} {S M : SS} {obs : List Ob}, prun P cfg c S = some (M, obs) → M.nv = S.nv ∧ obVars obs = 0
  | .skip, S, M, obs, h => by simp [prun] at h; obtain ⟨rfl, rfl⟩ := h; exact ⟨rfl, rfl⟩
  | .region _ ops draw, S, M, obs, h => by
    simp only [prun] at h
    split at h
    · simp at h
    · split at h
      · rename_i S' ob hr
        split at h
        · rename_i hn
          simp at h
          obtain ⟨rfl, rfl⟩ := h
          have := runOps_nv hr
          exact ⟨hn, by omega⟩
        · simp at h
      · simp at h
  | .seq x y, S, M, obs, h => by
    simp only [prun] at h
    split at h
    · rename_i h1
      split at h
      · rename_i h2
        simp at h
        obtain ⟨rfl, rfl⟩ := h
        obtain ⟨e1, e2⟩ := prun_nv h1
        obtain ⟨e3, e4⟩ := prun_nv h2
        simp only [obVars, List.map_append, List.sum_append] at *
        exact ⟨by omega, by omega⟩
      · simp at h
    · simp at h
  | .cond c x y, S, M, obs, h => by
    simp only [prun] at h
    split at h
    · rename_i e he
      split at h
      · rename_i h1 h2
        split at h
        · rename_i M' hm
          simp at h
          obtain ⟨rfl, rfl⟩ := h
          obtain ⟨e1, e2⟩ := prun_nv h1
          obtain ⟨e3, e4⟩ := prun_nv h2
          have hu : ∀ (p : Pres) (l : List Ob), ((l.map (Ob.under p)).map Ob.vars).sum = (l.map Ob.vars).sum := by
            intro p l
            rw [List.map_map]
            congr 1
            exact List.map_congr_left fun o _ => under_vars p o
          have hnv : M'.nv = _ := (mergeS_like (ρ := []) (c := e) rfl hm).2
          simp only [obVars, List.map_append, List.sum_append, hu] at *
          exact ⟨by omega, by omega⟩
        · simp at h
      · simp at h
    · simp at h
  | .block .., _, _, _, h | .exit _, _, _, _, h | .ret, _, _, _, h | .loop _, _, _, _, h | .scope .., _, _, _, h | .label _, _, _, _, h | .goto _, _, _, _, h => by simp [prun] at h
theorem prun_sound : ∀ {c : Code} {S M : SS} {obs : List Ob} {hv : Nat → Value} {a : Act} {w : World} {Q : Exit → Act → World → Prop}, RelH P N0 w0 ρ S hv a w → prun P cfg c S = some (M, obs) → obsHold P ρ S.nv obs →
    (∀ a' w', (∃ hv', RelH P N0 w0 ρ M hv' a' w') → Q .normal a' w') → c.wp P Q a w
  | .skip, S, M, obs, hv, a, w, Q, hrel, h, _, hq => by simp [prun] at h; obtain ⟨rfl, rfl⟩ := h; exact wp_skip (hq _ _ ⟨hv, hrel⟩)
  | .region _ ops draw, S, M, obs, hv, a, w, Q, hrel, h, ho, hq => by
    simp only [prun] at h
    split at h
    · simp at h
    · rename_i hd
      split at h
      · rename_i S' ob hr
        split at h
        · simp at h
          obtain ⟨rfl, rfl⟩ := h
          exact region_sound hrel (by simpa using hd) hr ho hq
        · simp at h
      · simp at h
  | .seq x y, S, M, obs, hv, a, w, Q, hrel, h, ho, hq => by
    simp only [prun] at h
    split at h
    · rename_i S1 o1 h1
      split at h
      · rename_i S2 o2 h2
        simp at h
        obtain ⟨rfl, rfl⟩ := h
        obtain ⟨e1, e2⟩ := prun_nv h1
        rw [obsHold_app] at ho
        refine wp_seq (prun_sound hrel h1 ho.1 fun a' w' ⟨hv', hr'⟩ => ?_)
        refine prun_sound hr' h2 ?_ hq
        have := ho.2
        simp only [obVars] at e2
        rw [e2, Nat.add_zero] at this
        rw [e1]
        exact this
      · simp at h
    · simp at h
  | .cond c x y, S, M, obs, hv, a, w, Q, hrel, h, ho, hq => by
    simp only [prun] at h
    split at h
    · rename_i e he
      split at h
      · rename_i S1 o1 S2 o2 h1 h2
        split at h
        · rename_i M' hm
          simp at h
          obtain ⟨rfl, rfl⟩ := h
          have hc := ev_sound hrel (presTrue_nil ρ) he
          rw [RdX_bool] at hc
          rw [obsHold_app] at ho
          obtain ⟨e1, e2⟩ := prun_nv h1
          have hu : ((o1.map (Ob.under [(e, true)])).map Ob.vars).sum = 0 := by
            rw [List.map_map]
            simp only [obVars] at e2
            rw [← e2]
            congr 1
            exact List.map_congr_left fun o _ => under_vars _ o
          refine wp_cond_split hc (fun ht => ?_) (fun hf => ?_)
          · refine prun_sound hrel h1 (under_hold (presTrue_one.2 ht) ho.1) fun a' w' ⟨hv', hr'⟩ => hq a' w' ⟨hv', ?_⟩
            exact (mergeS_like ht hm).1.rel hr'
          · have h3 := ho.2
            rw [hu, Nat.add_zero] at h3
            refine prun_sound hrel h2 (under_hold (presTrue_one.2 hf) h3) fun a' w' ⟨hv', hr'⟩ => hq a' w' ⟨hv', ?_⟩
            exact (mergeS_like hf hm).1.rel hr'
        · simp at h
      · simp at h
    · simp at h
  | .block .., _, _, _, _, _, _, _, _, h, _, _ | .exit _, _, _, _, _, _, _, _, _, h, _, _ | .ret, _, _, _, _, _, _, _, _, h, _, _ | .loop _, _, _, _, _, _, _, _, _, h, _, _
  | .scope .., _, _, _, _, _, _, _, _, h, _, _ | .label _, _, _, _, _, _, _, _, _, h, _, _ | .goto _, _, _, _, _, _, _, _, _, h, _, _ => by simp [prun] at h
end
end Go.Vc

/-
  Part V: code; a function.
-/
namespace Go.Vc
section
variable {P : Program} {cfg : Cfg} {hints : List Hint} {N0 : Nat → Prop} {w0 : Wb} {Post : List (Sh × C) → Prop}
def XE.toExit : XE → Exit
  | .normal => .normal
  | .exit id => .exit id
  | .ret => .ret
/-- What holds where code is left. -/
def Goes (P : Program) (N0 : Nat → Prop) (w0 : Wb) (Post : List (Sh × C) → Prop) (K : XE → SS → Nat → VC) (Q : Exit → Act → World → Prop) (ρ : List C) (Bs : List (List C → Prop)) : Prop :=
  ∀ e S' l' ρ' Bs' hv' a' w', ρ <+: ρ' → Bs <+: Bs' → Bs'.length = l' → ρ'.length = S'.nv → RelH P N0 w0 ρ' S' hv' a' w' → (K e S' l').holds P Post Bs' ρ' → Q e.toExit a' w'
theorem Goes.mono {K : XE → SS → Nat → VC} {Q : Exit → Act → World → Prop} {ρ ρ' : List C} {Bs Bs' : List (List C → Prop)} (h : Goes P N0 w0 Post K Q ρ Bs) (h1 : ρ <+: ρ') (h2 : Bs <+: Bs') : Goes P N0 w0 Post K Q ρ' Bs' :=
  fun e S' l' ρ2 Bs2 hv' a' w' g1 g2 => h e S' l' ρ2 Bs2 hv' a' w' (h1.trans g1) (h2.trans g2)
theorem prefix_take {α : Type} {l m : List α} (h : l <+: m) : m.take l.length = l := by
  obtain ⟨t, rfl⟩ := h
  simp
theorem prefix_getD {Bs Bs' : List (List C → Prop)} {x d : List C → Prop} (h : Bs ++ [x] <+: Bs') : Bs'.getD Bs.length d = x := by
  obtain ⟨t, rfl⟩ := h
  simp [List.getD]
theorem sx_sound : ∀ (c : Code) {S : SS} {l : Nat} {K : XE → SS → Nat → VC} {ρ : List C} {Bs : List (List C → Prop)} {hv : Nat → Value} {a : Act} {w : World} {Q : Exit → Act → World → Prop},
    RelH P N0 w0 ρ S hv a w → ρ.length = S.nv → Bs.length = l → (sx P cfg hints c S l K).holds P Post Bs ρ → Goes P N0 w0 Post K Q ρ Bs → c.wp P Q a w := by
  intro c
  induction c with
  | skip =>
    intro S l K ρ Bs hv a w Q hrel hn hl h hq
    exact wp_skip (hq .normal S l ρ Bs hv a w (List.prefix_refl _) (List.prefix_refl _) hl hn hrel h)
  | region id ops draw =>
    intro S l K ρ Bs hv a w Q hrel hn hl h hq
    simp only [sx] at h
    split at h
    · exact h.elim
    · rename_i hd
      split at h
      · rename_i S' obs hr
        split at h
        · rename_i hb
          simp only [Bool.and_eq_true] at hb
          rw [← hn] at hb
          obtain ⟨σ, o1, o2, o3⟩ := obsVC_sound hb.2 h
          have hrel' := hrel.env (EnvEq.app ρ σ) hb.1
          have hnv := runOps_nv hr
          refine region_sound2 hrel' (by simpa using hd) hr (by rw [← hn]; exact o1) fun a' w' ⟨hv', hr'⟩ => ?_
          exact hq .normal S' l (ρ ++ σ) Bs hv' a' w' (List.prefix_append _ _) (List.prefix_refl _) hl (by rw [List.length_append, o3, hnv, hn]) hr' o2
        · exact h.elim
      · exact h.elim
  | seq x y ihx ihy =>
    intro S l K ρ Bs hv a w Q hrel hn hl h hq
    simp only [sx] at h
    refine wp_seq (ihx hrel hn hl h fun e S' l' ρ' Bs' hv' a' w' g1 g2 g3 g4 g5 g6 => ?_)
    cases e with
    | normal => exact ihy g5 g4 g3 g6 (hq.mono g1 g2)
    | exit id => exact hq (.exit id) S' l' ρ' Bs' hv' a' w' g1 g2 g3 g4 g5 g6
    | ret => exact hq .ret S' l' ρ' Bs' hv' a' w' g1 g2 g3 g4 g5 g6
  | cond c x y ihx ihy =>
    intro S l K ρ Bs hv a w Q hrel hn hl h hq
    simp only [sx] at h
    split at h
    · rename_i e he
      have hc := ev_sound hrel (presTrue_nil ρ) he
      rw [RdX_bool] at hc
      split at h
      · exact wp_cond_true (by simpa [E.eval] using hc) (ihx hrel hn hl h hq)
      · exact wp_cond_false (by simpa [E.eval] using hc) (ihy hrel hn hl h hq)
      · split at h
        · rename_i M obs hp
          split at h
          · rename_i hb
            simp only [Bool.and_eq_true] at hb
            rw [← hn] at hb
            obtain ⟨σ, o1, o2, o3⟩ := obsVC_sound hb.2 h
            have hrel' := hrel.env (EnvEq.app ρ σ) hb.1
            obtain ⟨e1, e2⟩ := prun_nv hp
            refine prun_sound hrel' hp (by rw [← hn]; exact o1) fun a' w' ⟨hv', hr'⟩ => ?_
            exact hq .normal M l (ρ ++ σ) Bs hv' a' w' (List.prefix_append _ _) (List.prefix_refl _) hl (by rw [List.length_append, o3, e2, e1, hn, Nat.add_zero]) hr' o2
          · exact h.elim
        · split at h
          · generalize mkHead _ (writes (.cond c x y)) S = m at h
            obtain ⟨H, es, π⟩ := m
            simp only at h
            split at h
            · rename_i hok
              simp only [Bool.and_eq_true, decide_eq_true_eq] at hok
              obtain ⟨hnv, hbH⟩ := hok
              obtain ⟨I, hbody, hrest⟩ := h
              rw [hnv] at hbH
              have land : ∀ (n : Nat) (e : XE) (S' : SS) (l' : Nat) (ρ' : List C) (Bs' : List (List C → Prop)) (hv' : Nat → Value) (a' : Act) (w' : World), ρ <+: ρ' → Bs ++ [I] <+: Bs' → Bs'.length = l' → ρ'.length = S'.nv → RelH P N0 w0 ρ' S' hv' a' w' →
                  ((match e with
                    | .normal => match guess S.nv es.length H S' with
                      | (es', π') => if weakOk S.nv es' π' H S' && es'.length = es.length then .back l es' else .fail n
                    | e => K e S' l' : VC)).holds P Post Bs' ρ' → Q e.toExit a' w' := by
                intro n e S' l' ρ' Bs' hv' a' w' p1 g2 g3 g4 g5 g6
                have p2 : Bs <+: Bs' := (List.prefix_append Bs _).trans g2
                cases e with
                | normal =>
                  simp only at g6
                  generalize guess S.nv es.length H S' = gs at g6
                  obtain ⟨es', π'⟩ := gs
                  simp only at g6
                  split at g6
                  · rename_i hok'
                    simp only [Bool.and_eq_true, decide_eq_true_eq] at hok'
                    simp only [VC.holds] at g6
                    rw [← hl, prefix_getD g2] at g6
                    have hlen : S.nv ≤ ρ'.length := by rw [← hn]; exact p1.length_le
                    have h2 := weak_sound g5 hok'.1 hlen (by rw [hok'.2]; exact hbH)
                    rw [← hn, prefix_take p1] at h2
                    have hvs : (es'.map (·.eval ρ')).length = es.length := by simp [hok'.2]
                    exact hq .normal H l (ρ ++ es'.map (·.eval ρ')) Bs _ a' w' (List.prefix_append _ _) (List.prefix_refl _) hl (by rw [List.length_append, hvs, hnv, hn]) h2 (hrest _ hvs g6)
                  · exact g6.elim
                | exit id => exact hq (.exit id) S' l' ρ' Bs' hv' a' w' p1 p2 g3 g4 g5 g6
                | ret => exact hq .ret S' l' ρ' Bs' hv' a' w' p1 p2 g3 g4 g5 g6
              have hl1 : (Bs ++ [I]).length = l + 1 := by rw [List.length_append, hl]; rfl
              exact wp_cond_split hc (fun ht => ihx hrel hn hl1 (hbody.1 ht) (land _)) (fun hf => ihy hrel hn hl1 (hbody.2 hf) (land _))
            · exact h.elim
          · exact wp_cond_split hc (fun ht => ihx hrel hn hl (h.1 ht) hq) (fun hf => ihy hrel hn hl (h.2 hf) hq)
    · rename_i e he
      obtain ⟨b, hb, hz⟩ := ev_sound hrel (presTrue_nil ρ) he
      exact wp_cond_split hb (fun ht => ihx hrel hn hl (h.1 (hz ht)) hq) (fun hf => ihy hrel hn hl h.2 hq)
    · exact h.elim
  | block id c ih =>
    intro S l K ρ Bs hv a w Q hrel hn hl h hq
    simp only [sx] at h
    refine wp_block (ih hrel hn hl h fun e S' l' ρ' Bs' hv' a' w' g1 g2 g3 g4 g5 g6 => ?_)
    cases e with
    | normal => exact hq .normal S' l' ρ' Bs' hv' a' w' g1 g2 g3 g4 g5 g6
    | exit id' =>
      simp only [XE.toExit, Exit.inBlock]
      simp only at g6
      split at g6
      · rename_i hid
        rw [if_pos hid]
        exact hq .normal S' l' ρ' Bs' hv' a' w' g1 g2 g3 g4 g5 g6
      · rename_i hid
        rw [if_neg hid]
        exact hq (.exit id') S' l' ρ' Bs' hv' a' w' g1 g2 g3 g4 g5 g6
    | ret => exact hq .ret S' l' ρ' Bs' hv' a' w' g1 g2 g3 g4 g5 g6
  | exit id =>
    intro S l K ρ Bs hv a w Q hrel hn hl h hq
    exact wp_exit (hq (.exit id) S l ρ Bs hv a w (List.prefix_refl _) (List.prefix_refl _) hl hn hrel h)
  | ret =>
    intro S l K ρ Bs hv a w Q hrel hn hl h hq
    exact wp_ret (hq .ret S l ρ Bs hv a w (List.prefix_refl _) (List.prefix_refl _) hl hn hrel h)
  | loop c ih =>
    intro S l K ρ Bs hv a w Q hrel hn hl h hq
    simp only [sx] at h
    generalize mkHead _ (writes c) S = m at h
    obtain ⟨H, es, π⟩ := m
    simp only at h
    split at h
    · rename_i hok
      simp only [Bool.and_eq_true, decide_eq_true_eq] at hok
      obtain ⟨hw, hnv, hbH, hbS⟩ := hok
      obtain ⟨I, μ, h0, hstep⟩ := h
      rw [hnv] at hbH
      have h1 := weak_sound hrel hw (by omega) hbH
      have ht : ρ.take S.nv = ρ := by rw [← hn]; simp
      rw [ht] at h1
      refine wp_loop_ghost (fun n a w => ∃ vs hv, vs.length = es.length ∧ I vs ∧ μ vs = n ∧ RelH P N0 w0 (ρ ++ vs) H hv a w) _ ⟨_, _, by simp, h0, rfl, h1⟩ ?_
      rintro n a1 w1 ⟨vs, hv1, hvs, hI, rfl, hr1⟩
      refine ih hr1 (by rw [List.length_append, hvs, hnv, hn]) (by rw [List.length_append, hl]; rfl) (hstep vs hvs hI) fun e S' l' ρ' Bs' hv' a' w' g1 g2 g3 g4 g5 g6 => ?_
      have p1 : ρ <+: ρ' := (List.prefix_append ρ vs).trans g1
      have p2 : Bs <+: Bs' := (List.prefix_append Bs _).trans g2
      cases e with
      | normal =>
        simp only at g6
        generalize guess S.nv es.length H S' = gs at g6
        obtain ⟨es', π'⟩ := gs
        simp only at g6
        split at g6
        · rename_i hok'
          simp only [Bool.and_eq_true, decide_eq_true_eq] at hok'
          simp only [VC.holds] at g6
          rw [← hl, prefix_getD g2] at g6
          have hlen : S.nv ≤ ρ'.length := by rw [← hn]; exact p1.length_le
          have h2 := weak_sound g5 hok'.1 hlen (by rw [hok'.2]; exact hbH)
          rw [← hn, prefix_take p1] at h2
          exact ⟨_, g6.2, _, _, by simp [hok'.2], g6.1, rfl, h2⟩
        · exact g6.elim
      | exit id => exact hq (.exit id) S' l' ρ' Bs' hv' a' w' p1 p2 g3 g4 g5 g6
      | ret => exact hq .ret S' l' ρ' Bs' hv' a' w' p1 p2 g3 g4 g5 g6
    · exact h.elim
  | _ => intro S l K ρ Bs hv a w Q hrel hn hl h hq; exact h.elim
end
end Go.Vc

/-
  Part W: a function's contract out of its condition.
-/
namespace Go.Vc
open Go.RowKit
section
variable {P : Program} {cfg : Cfg} {hints : List Hint} {N0 : Nat → Prop} {w0 : Wb} {ρ : List C} {S : SS} {hv : Nat → Value} {a : Act} {w : World}
def Out0 (N0 : Nat → Prop) (w0 : Wb) (b : Nat) : Prop := N0 b ∨ w0.own b
theorem load_as {t : TypeId} {v u : Value} (h : (Instr.loadAt t v).run P w = .ok u w) : (do loadVar t (← asAddr v) : Sem Value).run P w = .ok u w := by
  cases v with
  | pointer p =>
    cases p with
    | some b => simpa [Instr.loadAt, Instr.sureAddr, asAddr] using h
    | none => simp [Instr.loadAt, Instr.sureAddr, stuck] at h
  | _ => simp [Instr.loadAt, Instr.sureAddr, stuck] at h
theorem nf_out (hrel : RelH P N0 w0 ρ S hv a w) {f : List Nat} (hf : ∀ r ∈ f, LiveAt S.blks ρ r) {N : Nat → Prop} (hN : ∀ b, N b → Out0 N0 w0 b) {b : Nat} (h : NF N hv f b) : Out0 N0 w0 b := by
  rcases h with h | ⟨r, hr, hg⟩
  · exact hN b h
  · obtain ⟨k, h3, hl, h2⟩ := hf r hr
    exact .inr (hrel.lt h3 hl h2 hg).2
theorem RelH.rowsOut (hrel : RelH P N0 w0 ρ S hv a w) : RowsOk w w0.own (Out0 N0 w0) ρ S.blks hv := by
  refine ⟨fun r s e p hr hp => ?_, fun r k s e p hr hp => ?_⟩
  · obtain ⟨et, xs, h1, h2, h3⟩ := hrel.rows.row r s e p hr hp
    exact ⟨et, xs, h1, h2.mono (Nat.le_refl _) fun b hb _ => ⟨rfl, hb.1⟩, h3⟩
  · obtain ⟨g, l, h1, h2, h3, h4⟩ := hrel.rows.map r k s e p hr hp
    exact ⟨g, l, h1, h2, h3, h4.imp fun _ _ h => h.mono (Nat.le_refl _) fun b hb _ => ⟨rfl, hb.1⟩⟩
theorem dat_out (hrel : RelH P N0 w0 ρ S hv a w) {x : SX} {s : Sh} {e : E} {f : List Nat} {v : Value} (h : datOf S.rb [] x = some (s, e, f)) (hx : RdX w (Out0 N0 w0) ρ S.blks hv x v) :
    RdV w (Out0 N0 w0) s v (e.eval ρ) := by
  have h1 := RdX_dat (datOf_sound hrel.rowsOut (presTrue_nil ρ) h hx)
  exact h1.mono (Nat.le_refl _) fun b hb _ => ⟨rfl, nf_out hrel (datOf_rows (presTrue_nil ρ) h) (fun _ h => h) hb⟩
def resOf (tmps : Array Value) : ResultVar → Sem Value
  | .tmp t => pure (tmps.getD t undef)
  | .cell b t => do loadVar t (← asAddr (tmps.getD b undef))
/-- What a function hands back. -/
theorem retX_sound (hrel : RelH P N0 w0 ρ S hv a w) : ∀ {l : List ResultVar} {rs : List (Sh × E)}, retX P S l = some rs →
    ∃ vs, (l.mapM (resOf a.tmps)).run P w = .ok vs w ∧ RdVs w (Out0 N0 w0) (evalArgs ρ rs) vs
  | [], rs, h => by
    simp [retX] at h
    subst h
    exact ⟨[], by simp, rfl⟩
  | .tmp t :: l, rs, h => by
    simp only [retX] at h
    split at h
    · rename_i s e f r h1 h2
      simp at h
      subst h
      obtain ⟨vs, i1, i2⟩ := retX_sound hrel h2
      obtain ⟨x, hx, hd⟩ := Option.bind_eq_some_iff.1 h1
      have h3 := ev_sound hrel (presTrue_nil ρ) hx
      have h4 := dat_out hrel hd (h3.le (Nat.le_refl _) (fun b hb _ => ⟨rfl, hb.1⟩) (BsLe.refl _ _ _))
      refine ⟨a.tmps.getD t undef :: vs, by simp only [List.mapM_cons, resOf]; simp [i1], _, _, rfl, ?_, i2⟩
      simpa [Act.eval] using h4
    · simp at h
  | .cell t ty :: l, rs, h => by
    simp only [retX] at h
    split at h
    · rename_i s e f r h1 h2
      simp at h
      subst h
      obtain ⟨vs, i1, i2⟩ := retX_sound hrel h2
      obtain ⟨o, ho, hd⟩ := Option.bind_eq_some_iff.1 h1
      obtain ⟨f1, e1, e2, _, _, u, e3, e4⟩ := loadX_sound hrel.rows hrel.boxes (presTrue_nil ρ) ho (v := a.eval (.tmp t)) fun y hy => ev_sound hrel (presTrue_nil ρ) hy
      have h4 := dat_out hrel hd (e4.le (Nat.le_refl _) (fun b hb _ => ⟨rfl, nf_out hrel e2 (fun _ h => h.1) hb⟩) (BsLe.refl _ _ _))
      have h5 := load_as e3
      refine ⟨u :: vs, ?_, _, _, rfl, h4, i2⟩
      have h6 : a.eval (.tmp t) = a.tmps.getD t undef := by simp [Act.eval]
      rw [h6] at h5
      have h7 : (resOf a.tmps (.cell t ty)).run P w = .ok u w := h5
      rw [List.mapM_cons]
      simp [h7, i1]
    · simp at h
theorem results_run {fn : Func} {tmps : Array Value} {vs : List Value} (h : (fn.results.toList.mapM (resOf tmps)).run P w = .ok vs w) :
    (results fn tmps).run P w = .ok (if h : vs.length = 1 then vs[0] else .tuple vs.toArray) w := by
  have e : results fn tmps = (do let vs ← fn.results.mapM (resOf tmps); pure (if h : vs.size = 1 then vs[0] else .tuple vs) : Sem Value) := by
    unfold results
    congr 1
  rw [e, Array.mapM_eq_mapM_toList]
  simp [h]
theorem start_vars : ∀ (l : List Sh) (k i : Nat) (s : Sh) (e : E), (retVars k l)[i]? = some (s, e) → l[i]? = some s ∧ e = .var (k + i)
  | [], _, _, _, _, h => by simp [retVars] at h
  | x :: l, k, 0, s, e, h => by simp [retVars] at h; obtain ⟨rfl, rfl⟩ := h; simp
  | x :: l, k, i + 1, s, e, h => by
    simp only [retVars, List.getElem?_cons_succ] at h
    obtain ⟨h1, h2⟩ := start_vars l (k + 1) i s e h
    exact ⟨by simpa using h1, by rw [h2]; congr 1; omega⟩
theorem retVars_length : ∀ (l : List Sh) (k : Nat), (retVars k l).length = l.length
  | [], _ => rfl
  | _ :: l, k => by simp [retVars, retVars_length l]
theorem RdVs_get {N : Nat → Prop} : ∀ {l : List (Sh × C)} {vs : List Value} {i : Nat} {s : Sh} {c : C}, RdVs w N l vs → l[i]? = some (s, c) → ∃ v, vs[i]? = some v ∧ RdV w N s v c
  | [], _, _, _, _, _, h => by simp at h
  | (s, c) :: l, _, 0, _, _, ⟨v, r, h1, h2, h3⟩, h => by simp at h; obtain ⟨rfl, rfl⟩ := h; exact ⟨v, by simp [h1], h2⟩
  | (s, c) :: l, _, i + 1, _, _, ⟨v, r, h1, h2, h3⟩, h => by
    obtain ⟨u, h4, h5⟩ := RdVs_get h3 (by simpa using h)
    exact ⟨u, by simp [h1, h4], h5⟩
/-- At a call's start. -/
theorem start_sound {args : List (Sh × C)} {vs : List Value} (hkw : KW P w) (h : RdVs w N0 args vs) (n : Nat) :
    RelH P N0 ⟨w, fun _ => False⟩ (args.map (·.2)) (startSS (args.map (·.1)) n) (fun _ => undef) { tmps := vs.toArray ++ Array.replicate (n - vs.toArray.size) undef, defers := [] } w := by
  have hlen := RdVs_length h
  have hnone : ∀ (r : Nat) (k : Blk), (startSS (args.map (·.1)) n).blks[r]? = some k → k.lb = .none := by
    intro r k hk
    simp only [startSS, List.getElem?_replicate] at hk
    split at hk
    · injection hk with hk; subst hk; rfl
    · cases hk
  have hlive : ∀ (r : Nat) (k : Blk), (startSS (args.map (·.1)) n).blks[r]? = some k → liveB k = true → False := by
    intro r k hk hl
    unfold liveB at hl
    rw [hnone r k hk] at hl
    cases hl
  have htm : ∀ (t : Nat) (ts : TS), (startSS (args.map (·.1)) n).tmps[t]? = some ts → ts.pres = [] ∧ (ts.sx = .none ∨ ∃ s c, args[t]? = some (s, c) ∧ ts.sx = .dat s (.var t)) := by
    intro t ts ht
    simp only [startSS] at ht
    rw [List.getElem?_append] at ht
    split at ht
    · rw [List.getElem?_map] at ht
      cases hr : (retVars 0 (args.map (·.1)))[t]? with
      | none => simp [hr] at ht
      | some x =>
        obtain ⟨s, e⟩ := x
        simp [hr] at ht
        subst ht
        obtain ⟨h1, h2⟩ := start_vars _ 0 t s e hr
        rw [List.getElem?_map] at h1
        cases ha : args[t]? with
        | none => simp [ha] at h1
        | some y =>
          obtain ⟨s', c⟩ := y
          simp [ha] at h1
          subst h1
          rw [Nat.zero_add] at h2
          subst h2
          exact ⟨rfl, .inr ⟨s', c, rfl, rfl⟩⟩
    · rw [List.getElem?_replicate] at ht
      split at ht
      · injection ht with ht; subst ht; exact ⟨rfl, .inl rfl⟩
      · cases ht
  refine ⟨rfl, ?_, ⟨rfl, rfl, rfl, Nat.le_refl _, fun _ _ _ => rfl, hkw, fun _ _ h => h⟩, fun t ts ht hp => ?_, fun t ts ht hp => ?_, fun r k hr hp => ?_, fun r r' k k' g hr hr' hne hl => ?_⟩
  · simp [startSS, retVars_length, hlen]
  · rcases (htm t ts ht).2 with h1 | ⟨s, c, h1, h2⟩
    · rw [h1]; trivial
    · rw [h2]
      obtain ⟨v, h3, h4⟩ := RdVs_get h h1
      have hlt : t < vs.length := (List.getElem?_eq_some_iff.1 h3).1
      have hv : (vs.toArray ++ Array.replicate (n - vs.toArray.size) undef).getD t undef = v := by
        have : (vs.toArray ++ Array.replicate (n - vs.toArray.size) undef)[t]? = some v := by
          rw [Array.getElem?_append_left (by simpa using hlt)]
          simpa using h3
        rw [Array.getD_eq_getD_getElem?, this]
        rfl
      simp only [hv]
      refine RdX_of ?_ (Exact_leaf (by simp) (by simp))
      have he : (E.var t).eval (args.map (·.2)) = c := by simp [E.eval, List.getD, h1]
      rw [he]
      exact h4.mono (Nat.le_refl _) fun b hb _ => ⟨rfl, .inl hb, fun r k hr hl => (hlive r k hr hl).elim⟩
  · exact absurd (by rw [(htm t ts ht).1]; exact presTrue_nil _) hp
  · rw [hnone r k hr]; trivial
  · exact (hlive r k hr hl).elim
/-- THE CONTRACT OUT OF THE CONDITION. -/
theorem PC.of_vc {f : FuncId} {fn : Func} (hlt : f < 1000000) (hf : P.funcs[f]? = some fn) (hname : (fn.name == "runtime.NumGoroutine") = false) {shs : List Sh} {vc : VC} (hvc : fnVC P cfg hints fn shs = vc)
    {args rets : List (Sh × C)} (hs : args.map (·.1) = shs) (h : vc.holds P (fun r => r = rets) [] (args.map (·.2))) : PC P f args rets := by
  apply PC.of0 hlt
  subst hvc hs
  unfold fnVC at h
  cases hb : fn.body with
  | none => simp only [hb] at h; exact h.elim
  | some c =>
    simp only [hb] at h
    refine ⟨⟨fn, hf, by simp [hb], hname⟩, fun w N vs hkw hrd => calls_of_wp hf hb ?_⟩
    have hst := start_sound hkw hrd fn.ntmps
    refine sx_sound c hst (by simp [startSS]) rfl h fun e S' l' ρ' Bs' hv' a' w' g1 g2 g3 g4 g5 g6 => ?_
    have key : (∃ rs, retX P S' fn.results.toList = some rs ∧ evalArgs ρ' rs = rets) →
        a'.defers = [] ∧ ∃ v, (results fn a'.tmps).run P w' = .ok v w' ∧ ∃ v', Ending.returned v = .returned v' ∧ RdRes w' (fun b => N b ∨ w.heap.size ≤ b) rets v' ∧ Below w.heap.size w w' := by
      rintro ⟨rs, h1, h2⟩
      obtain ⟨us, i1, i2⟩ := retX_sound g5 h1
      rw [h2] at i2
      refine ⟨g5.defers, _, results_run i1, _, rfl, ⟨us, i2.mono (Nat.le_refl _) fun b hb _ => ⟨rfl, ?_⟩, rfl⟩, g5.below.os, g5.below.tape, g5.below.output, g5.below.size, fun k hk => g5.below.block k hk (fun h => h)⟩
      rcases hb with hb | hb | hb
      · exact .inl hb
      · exact .inr hb
      · exact hb.elim
    cases e with
    | exit id => exact g6.elim
    | normal =>
      refine key ?_
      simp only at g6
      split at g6
      · rename_i rs h1; exact ⟨rs, h1, g6⟩
      · exact g6.elim
    | ret =>
      refine key ?_
      simp only at g6
      split at g6
      · rename_i rs h1; exact ⟨rs, h1, g6⟩
      · exact g6.elim
/-! All slices nil. -/
theorem NilL_prim {N : Nat → Prop} : ∀ {s : Sh} {us : List Value} {c : C}, s.prim = true → Rd w N s us c → NilL s us
  | .int _, _, _, _, _ | .bool, _, _, _, _ | .str, _, _, _, _ | .unit, _, _, _, _ => trivial
  | .sl _, _, _, hp, _ | .ifc _ _, _, _, hp, _ | .mp _ _, _, _, hp, _ => by cases hp
  | .nili, _, _, _, _ | .fun_ _, _, _, _, _ => trivial
  | .pair a b, _, _, hp, ⟨_, va, vb, h1, h2, h3⟩ => by
    simp only [Sh.prim, Bool.and_eq_true] at hp
    exact ⟨va, vb, h1, h2.length, NilL_prim hp.1 h2, NilL_prim hp.2 h3⟩
theorem nilOk_sound {N : Nat → Prop} : ∀ {s : Sh} {e : E} {us : List Value}, nilOk s e = true → Rd w N s us (e.eval ρ) → Exact s e us → NilL s us
  | .int _, _, _, _, _, _ | .bool, _, _, _, _, _ | .str, _, _, _, _, _ | .unit, _, _, _, _, _ | .nili, _, _, _, _, _ | .fun_ _, _, _, _, _, _ => trivial
  | .ifc _ _, e, _, h, _, _ => by cases e <;> simp [nilOk] at h
  | .mp _ _, e, _, h, _, _ => by cases e <;> simp [nilOk] at h
  | .sl s, e, us, h, _, hx => by
    cases e <;> simp [nilOk] at h
    exact hx
  | .pair a b, e, us, h, hr, hx => by
    cases e with
    | cons x y =>
      simp only [nilOk, Bool.and_eq_true] at h
      obtain ⟨h0, va, vb, h1, h2, h3⟩ := hr
      obtain ⟨na, nb, n1, n2, n3, n4⟩ := hx
      obtain ⟨rfl, rfl⟩ : va = na ∧ vb = nb := List.append_inj (h1.symm.trans n1) (by rw [h2.length, n2])
      exact ⟨va, vb, h1, n2, nilOk_sound h.1 (by simpa [E.eval] using h2) n3, nilOk_sound h.2 (Rd.of_list h0 (by simp [E.eval]) h3) n4⟩
    | _ => exact NilL_prim (by simpa [nilOk, Sh.prim] using h) hr
theorem NC.of_vc {f : FuncId} {fn : Func} (hf : P.funcs[f]? = some fn) (hname : (fn.name == "runtime.NumGoroutine") = false) {shs : List Sh} {vc : VC} (hvc : fnVCN P cfg hints fn shs = vc)
    {s : Sh} {c1 : C} {args : List (Sh × C)} (hs : args.map (·.1) = shs) (h : vc.holds P (fun r => r = [(s, c1)]) [] (args.map (·.2))) : NC P f args [(s, c1)] := by
  subst hvc hs
  unfold fnVCN at h
  cases hb : fn.body with
  | none => simp only [hb] at h; exact h.elim
  | some c =>
    simp only [hb] at h
    refine ⟨s, c1, rfl, ⟨fn, hf, by simp [hb], hname⟩, fun w N vs hkw hrd => calls_of_wp hf hb ?_⟩
    have hst := start_sound hkw hrd fn.ntmps
    refine sx_sound c hst (by simp [startSS]) rfl h fun e S' l' ρ' Bs' hv' a' w' g1 g2 g3 g4 g5 g6 => ?_
    have key : ((match fn.results.toList with
      | [.tmp t] => match S'.ev P [] (.tmp t) 0 with
        | some (.dat s e) => if nilOk s e then VC.ret [(s, e)] else .fail 8000004
        | _ => .fail 8000002
      | [.cell t ty] => match loadX P S'.rb [] ty (S'.ev P [] (.tmp t) 0) with
        | some ⟨.dat s e, _, _, _⟩ => if nilOk s e then VC.ret [(s, e)] else .fail 8000004
        | _ => .fail 8000002
      | _ => .fail 8000002) : VC).holds P (fun r => r = [(s, c1)]) Bs' ρ' →
        a'.defers = [] ∧ ∃ v, (results fn a'.tmps).run P w' = .ok v w' ∧ ∃ us, Ending.returned v = .returned (s.mk us) ∧ Rd w' (fun b => N b ∨ w.heap.size ≤ b) s us c1 ∧ NilL s us ∧ Below w.heap.size w w' := by
      intro g6
      split at g6
      · rename_i t hres
        split at g6
        · rename_i s' e' hx
          split at g6
          · rename_i hok
            simp only [VC.holds, evalArgs, List.map_cons, List.map_nil, List.cons.injEq, Prod.mk.injEq, and_true] at g6
            obtain ⟨rfl, rfl⟩ := g6
            obtain ⟨us, i1, i2, i3⟩ := ev_sound g5 (presTrue_nil ρ') hx
            have hrun : (fn.results.toList.mapM (resOf a'.tmps)).run P w' = .ok [s'.mk us] w' := by
              rw [hres]
              have : a'.tmps.getD t undef = s'.mk us := by rw [← i2]; simp [Act.eval]
              simp only [List.mapM_cons, List.mapM_nil, resOf, this]
              simp
            have hr := results_run hrun
            simp only [List.length_singleton, dif_pos] at hr
            refine ⟨g5.defers, _, hr, us, rfl, i1.mono (Nat.le_refl _) fun b hb _ => ⟨rfl, ?_⟩, nilOk_sound hok i1 i3, g5.below.os, g5.below.tape, g5.below.output, g5.below.size, fun k hk => g5.below.block k hk (fun h => h)⟩
            rcases hb.1 with hb | hb | hb
            · exact .inl hb
            · exact .inr hb
            · exact hb.elim
          · exact g6.elim
        · exact g6.elim
      · rename_i t ty hres
        split at g6
        · rename_i s' e' cm nv' ob' hx
          split at g6
          · rename_i hok
            simp only [VC.holds, evalArgs, List.map_cons, List.map_nil, List.cons.injEq, Prod.mk.injEq, and_true] at g6
            obtain ⟨rfl, rfl⟩ := g6
            obtain ⟨f1, e1, e2, _, _, u, e3, e4⟩ := loadX_sound g5.rows g5.boxes (presTrue_nil ρ') hx (v := a'.eval (.tmp t)) fun y hy => ev_sound g5 (presTrue_nil ρ') hy
            obtain ⟨us, i1, i2, i3⟩ := e4
            have h5 := load_as e3
            have h6 : a'.eval (.tmp t) = a'.tmps.getD t undef := by simp [Act.eval]
            rw [h6] at h5
            have h7 : (resOf a'.tmps (.cell t ty)).run P w' = .ok u w' := h5
            have hrun : (fn.results.toList.mapM (resOf a'.tmps)).run P w' = .ok [s'.mk us] w' := by
              rw [hres]
              rw [List.mapM_cons]
              simp [h7, i2]
            have hr := results_run hrun
            simp only [List.length_singleton, dif_pos] at hr
            refine ⟨g5.defers, _, hr, us, rfl, i1.mono (Nat.le_refl _) fun b hb _ => ⟨rfl, ?_⟩, nilOk_sound hok i1 i3, g5.below.os, g5.below.tape, g5.below.output, g5.below.size, fun k hk => g5.below.block k hk (fun h => h)⟩
            rcases nf_out g5 e2 (fun _ h => h.1) hb with hb | hb | hb
            · exact .inl hb
            · exact .inr hb
            · exact hb.elim
          · exact g6.elim
        · exact g6.elim
      · exact g6.elim
    cases e with
    | exit id => exact g6.elim
    | normal => exact key g6
    | ret => exact key g6
/-! A row of the caller's own comes in, or a new one goes out. -/
theorem retF_sound (hrel : RelH P N0 w0 ρ S hv a w) : ∀ {l : List ResultVar} {rs : List (Sh × E)} {fz : List Nat}, retF P S l = some (rs, fz) →
    (∀ q ∈ fz, LiveAt S.blks ρ q) ∧
    ∃ vs, (l.mapM (resOf a.tmps)).run P w = .ok vs w ∧ RdVs w (NF (NN N0 w0.own ρ S.blks hv) hv fz) (evalArgs ρ rs) vs
  | [], rs, fz, h => by
    simp [retF] at h
    obtain ⟨rfl, rfl⟩ := h
    exact ⟨fun q hq => by simp at hq, [], by simp, rfl⟩
  | .tmp t :: l, rs, fz, h => by
    simp only [retF] at h
    split at h
    · rename_i s e f r g h1 h2
      simp at h
      obtain ⟨rfl, rfl⟩ := h
      obtain ⟨i0, vs, i1, i2⟩ := retF_sound hrel h2
      obtain ⟨x, hx, hd⟩ := Option.bind_eq_some_iff.1 h1
      have h3 := ev_sound hrel (presTrue_nil ρ) hx
      have h4 := RdX_dat (datOf_sound hrel.rows (presTrue_nil ρ) hd h3)
      have h5 := datOf_rows (presTrue_nil ρ) hd
      refine ⟨fun q hq => ?_, a.tmps.getD t undef :: vs, by simp only [List.mapM_cons, resOf]; simp [i1], _, _, rfl, ?_, ?_⟩
      · rcases List.mem_append.1 hq with hq | hq
        · exact h5 q hq
        · exact i0 q hq
      · have e6 : a.eval (.tmp t) = a.tmps.getD t undef := by simp [Act.eval]
        rw [e6] at h4
        refine h4.mono (Nat.le_refl _) fun b hb _ => ⟨rfl, ?_⟩
        rcases hb with hb | ⟨q, hq, hg⟩
        · exact .inl hb
        · exact .inr ⟨q, List.mem_append.2 (.inl hq), hg⟩
      · refine i2.mono (Nat.le_refl _) fun b hb _ => ⟨rfl, ?_⟩
        rcases hb with hb | ⟨q, hq, hg⟩
        · exact .inl hb
        · exact .inr ⟨q, List.mem_append.2 (.inr hq), hg⟩
    · simp at h
  | .cell _ _ :: _, rs, fz, h => by simp [retF] at h
/-- What is handed back with a row of the call's own ahead. -/
theorem retO_sound {N : Nat → Prop} {G : Nat → Prop} {wi : World} (hrel : RelH P N ⟨wi, G⟩ ρ S hv a w) {v0 : Value} (hG : ∀ g, G g ↔ blkNo v0 = some g) {l : List ResultVar} {rs : List (Sh × E)} (h : retO P S l = some rs) :
    ∃ s e rs' v1 vr et xs, rs = (.sl s, e) :: rs' ∧ (l.mapM (resOf a.tmps)).run P w = .ok (v1 :: vr) w ∧ w.ownsR (fun g => wi.heap.size ≤ g ∨ blkNo v0 = some g) et s.size v1 (e.eval ρ).toList.length xs ∧
      RdRow w (Behind N wi v0 v1) s xs (e.eval ρ).toList ∧ RdVs w (Behind N wi v0 v1) (evalArgs ρ rs') vr := by
  have own_of : ∀ {b}, (Wb.own ⟨wi, G⟩ b) → wi.heap.size ≤ b ∨ blkNo v0 = some b := fun hb => hb.imp id (hG _).1
  unfold retO at h
  split at h
  · rename_i t l
    have e6 : a.eval (.tmp t) = a.tmps.getD t undef := by simp [Act.eval]
    split at h
    · rename_i r n hx
      split at h
      · rename_i s e rs1 fz hor hrf
        split at h
        · rename_i hnr
          have hnr : r ∉ fz := by simpa using hnr
          simp at h
          subst h
          obtain ⟨hfz, vs, i1, i2⟩ := retF_sound hrel hrf
          have hr := ownRow_blk hor
          have hin0 : rowIn S.blks r = some (s, e, []) := by simp [rowIn, hr]
          obtain ⟨hv0, _⟩ := (ev_sound hrel (presTrue_nil ρ) hx).2 s e [] hin0 (presTrue_nil ρ)
          obtain ⟨et, xs, hown, hrd, _⟩ := hrel.rows.row r s e [] hin0 (presTrue_nil ρ)
          have hNN : ∀ b, NN N (Wb.own ⟨wi, G⟩) ρ S.blks hv b → Behind N wi v0 (hv r) b := by
            intro b hb
            refine ⟨hb.1.imp id own_of, hb.2 r _ hr rfl rfl (presTrue_nil ρ)⟩
          refine ⟨s, e, rs1, hv r, vs, et, xs, rfl, ?_, ownsR_mono hown fun g _ hg => own_of hg, hrd.mono (Nat.le_refl _) fun b hb _ => ⟨rfl, hNN b hb⟩, i2.mono (Nat.le_refl _) fun b hb _ => ⟨rfl, ?_⟩⟩
          · rw [e6] at hv0
            simp only [List.mapM_cons, resOf]
            simp [i1, hv0]
          · rcases hb with hb | ⟨q, hq, hg⟩
            · exact hNN b hb
            · obtain ⟨k2, e5, el, e4⟩ := hfz q hq
              exact ⟨.inr (own_of (hrel.lt e5 el e4 hg).2), fun hc => hrel.dist r q _ _ b hr e5 (fun e => hnr (e ▸ hq)) rfl el (presTrue_nil ρ) e4 hc hg⟩
        · simp at h
      · simp at h
    · rename_i s hx
      split at h
      · rename_i rs1 fz hrf
        simp at h
        subst h
        obtain ⟨hfz, vs, i1, i2⟩ := retF_sound hrel hrf
        obtain ⟨us, e1, e2, e3⟩ := ev_sound hrel (presTrue_nil ρ) hx
        simp only [Exact] at e3
        subst e3
        have hv0 : a.tmps.getD t undef = .slice none 0 0 := by rw [← e6, e2]; simp [Sh.mk, Sh.isAgg]
        refine ⟨s, .nilS, rs1, .slice none 0 0, vs, 0, [], rfl, ?_, ⟨by simp [E.eval], .inl ⟨rfl, by simp [E.eval]⟩⟩, by simp [E.eval, RdRow], i2.mono (Nat.le_refl _) fun b hb _ => ⟨rfl, ?_, by simp [blkNo]⟩⟩
        · simp only [List.mapM_cons, resOf]
          simp [i1, hv0]
        · rcases hb with hb | ⟨q, hq, hg⟩
          · exact hb.1.imp id own_of
          · obtain ⟨k2, e5, el, e4⟩ := hfz q hq
            exact .inr (own_of (hrel.lt e5 el e4 hg).2)
      · simp at h
    · simp at h
  · simp at h
/-- At the start of a call that is handed a row. -/
theorem startG_sound {s : Sh} {c0 : C} {args : List (Sh × C)} {et : TypeId} {xs : List Value} {v0 : Value} {vs : List Value} (hs0 : 0 < s.size) (hown : w.ownsR (fun _ => True) et s.size v0 c0.toList.length xs)
    (hrow : RdRow w N0 s xs c0.toList) (hne : ∀ g, blkNo v0 = some g → ¬ N0 g) (hkw : KW P w) (hkb : ∀ g, blkNo v0 = some g → ¬ KWb P g) (h : RdVs w N0 args vs) (n : Nat) :
    RelH P N0 ⟨w, fun g => blkNo v0 = some g⟩ (c0 :: args.map (·.2)) (startG s (args.map (·.1)) n) (fun _ => v0) { tmps := (v0 :: vs).toArray ++ Array.replicate (n - (v0 :: vs).toArray.size) undef, defers := [] } w := by
  have hlen := RdVs_length h
  have hblk : ∀ (r : Nat) (k : Blk), (startG s (args.map (·.1)) n).blks[r]? = some k → k.lb = .none ∨ (r = n + 16 ∧ k = ⟨.row s (.var 0), false, []⟩) := by
    intro r k hk
    simp only [startG] at hk
    rw [List.getElem?_append] at hk
    split at hk
    · rw [List.getElem?_replicate] at hk
      split at hk
      · injection hk with hk; subst hk; exact .inl rfl
      · cases hk
    · rename_i hge
      have hlt := (List.getElem?_eq_some_iff.1 hk).1
      simp only [List.length_replicate, List.length_singleton] at hlt hge
      have hr : r = n + 16 := by omega
      subst hr
      simp at hk
      exact .inr ⟨rfl, hk.symm⟩
  have hq : (startG s (args.map (·.1)) n).blks[n + 16]? = some ⟨.row s (.var 0), false, []⟩ := by
    simp [startG]
  have hNN : ∀ b, N0 b → NN N0 (Wb.own ⟨w, fun g => blkNo v0 = some g⟩) (c0 :: args.map (·.2)) (startG s (args.map (·.1)) n).blks (fun _ => v0) b :=
    fun b hb => ⟨.inl hb, fun r k _ _ _ _ hc => hne b hc hb⟩
  have htm : ∀ (t : Nat) (ts : TS), (startG s (args.map (·.1)) n).tmps[t]? = some ts → ts.pres = [] ∧ (ts.sx = .none ∨ (t = 0 ∧ ts.sx = .full (n + 16) (.len (.var 0))) ∨ ∃ j s c, t = j + 1 ∧ args[j]? = some (s, c) ∧ ts.sx = .dat s (.var t)) := by
    intro t ts ht
    simp only [startG] at ht
    rw [List.getElem?_append] at ht
    split at ht
    · cases t with
      | zero =>
        simp at ht
        subst ht
        exact ⟨rfl, .inr (.inl ⟨rfl, rfl⟩)⟩
      | succ j =>
        rw [List.getElem?_cons_succ, List.getElem?_map] at ht
        cases hr : (retVars 1 (args.map (·.1)))[j]? with
        | none => simp [hr] at ht
        | some x =>
          obtain ⟨s', e⟩ := x
          simp [hr] at ht
          subst ht
          obtain ⟨h1, h2⟩ := start_vars _ 1 j s' e hr
          rw [List.getElem?_map] at h1
          cases ha : args[j]? with
          | none => simp [ha] at h1
          | some y =>
            obtain ⟨s2, c⟩ := y
            simp [ha] at h1
            subst h1
            rw [Nat.add_comm] at h2
            subst h2
            exact ⟨rfl, .inr (.inr ⟨j, s2, c, rfl, ha, rfl⟩)⟩
    · rw [List.getElem?_replicate] at ht
      split at ht
      · injection ht with ht; subst ht; exact ⟨rfl, .inl rfl⟩
      · cases ht
  refine ⟨rfl, ?_, ⟨rfl, rfl, rfl, Nat.le_refl _, fun _ _ _ => rfl, hkw, fun g hg hb => hkb g hb hg⟩, fun t ts ht hp => ?_, fun t ts ht hp => ?_, fun r k hr hp => ?_, fun r r' k k' g hr hr' hne' hl hl' _ _ _ => ?_⟩
  · simp [startG, retVars_length, hlen]; omega
  · rcases (htm t ts ht).2 with h1 | ⟨rfl, h1⟩ | ⟨j, s', c, rfl, h1, h2⟩
    · rw [h1]; trivial
    · rw [h1]
      refine ⟨⟨_, hq, by simp⟩, fun s' e p hr _ => ?_⟩
      simp [rowIn, hq] at hr
      obtain ⟨rfl, rfl, rfl⟩ := hr
      refine ⟨?_, rfl⟩
      have : ((v0 :: vs).toArray ++ Array.replicate (n - (v0 :: vs).toArray.size) undef)[0]? = some v0 := by
        rw [Array.getElem?_append_left (by simp)]
        simp
      rw [Array.getD_eq_getD_getElem?, this]
      rfl
    · rw [h2]
      obtain ⟨v, h3, h4⟩ := RdVs_get h h1
      have hlt : j < vs.length := (List.getElem?_eq_some_iff.1 h3).1
      have hv : ((v0 :: vs).toArray ++ Array.replicate (n - (v0 :: vs).toArray.size) undef).getD (j + 1) undef = v := by
        have : ((v0 :: vs).toArray ++ Array.replicate (n - (v0 :: vs).toArray.size) undef)[j + 1]? = some v := by
          rw [Array.getElem?_append_left (by simpa using hlt)]
          simpa using h3
        rw [Array.getD_eq_getD_getElem?, this]
        rfl
      simp only [hv]
      refine RdX_of ?_ (Exact_leaf (by simp) (by simp))
      have he : (E.var (j + 1)).eval (c0 :: args.map (·.2)) = c := by simp [E.eval, List.getD, h1]
      rw [he]
      exact h4.mono (Nat.le_refl _) fun b hb _ => ⟨rfl, hNN b hb⟩
  · exact absurd (by rw [(htm t ts ht).1]; exact presTrue_nil _) hp
  · rcases hblk r k hr with h1 | ⟨rfl, rfl⟩
    · rw [h1]; trivial
    · exact ⟨et, xs, ownsR_mono hown fun g hg _ => .inr hg, hrow.mono (Nat.le_refl _) fun b hb _ => ⟨rfl, hNN b hb⟩, hs0⟩
  · rcases hblk r k hr with h1 | ⟨rfl, rfl⟩
    · simp [liveB, h1] at hl
    · rcases hblk r' k' hr' with h1 | ⟨rfl, rfl⟩
      · simp [liveB, h1] at hl'
      · exact absurd rfl hne'
theorem GC.of_vc {f : FuncId} {fn : Func} (hf : P.funcs[f]? = some fn) (hname : (fn.name == "runtime.NumGoroutine") = false) {s : Sh} {shs : List Sh} {vc : VC} (hvc : fnVCG P cfg hints fn s shs = vc)
    {c0 c1 : C} {args rets : List (Sh × C)} (hs : args.map (·.1) = shs) (h : vc.holds P (fun r => r = (.sl s, c1) :: rets) [] (c0 :: args.map (·.2))) : GC P f ((.sl s, c0) :: args) ((.sl s, c1) :: rets) := by
  subst hvc hs
  unfold fnVCG at h
  split at h
  · rename_i hs0
    have hs0 : 0 < s.size := by simp at hs0; omega
    cases hb : fn.body with
    | none => simp only [hb] at h; exact h.elim
    | some c =>
      simp only [hb] at h
      refine ⟨s, c0, args, c1, rets, rfl, rfl, ⟨fn, hf, by simp [hb], hname⟩, fun w N et xs v0 vs hkw hkb h1 h2 h3 h4 => calls_of_wp hf hb ?_⟩
      have hst := startG_sound hs0 h1 h2 h3 hkw hkb h4 fn.ntmps
      refine sx_sound c hst (by simp [startG]) rfl h fun e S' l' ρ' Bs' hv' a' w' g1 g2 g3 g4 g5 g6 => ?_
      have key : (∃ rs, retO P S' fn.results.toList = some rs ∧ evalArgs ρ' rs = (.sl s, c1) :: rets) →
          a'.defers = [] ∧ ∃ v, (results fn a'.tmps).run P w' = .ok v w' ∧ ∃ v1 vr et' xs', Ending.returned v = .returned (pack (v1 :: vr)) ∧ w.grownBy w' (blkNo v0) ∧
            w'.ownsR (fun g => w.heap.size ≤ g ∨ blkNo v0 = some g) et' s.size v1 c1.toList.length xs' ∧ RdRow w' (Behind N w v0 v1) s xs' c1.toList ∧ RdVs w' (Behind N w v0 v1) rets vr := by
        rintro ⟨rs, i1, i2⟩
        obtain ⟨s', e', rs', v1, vr, et', xs', rfl, j1, j2, j3, j4⟩ := retO_sound g5 (fun g => Iff.rfl) i1
        simp only [evalArgs, List.map_cons, List.cons.injEq, Prod.mk.injEq, Sh.sl.injEq] at i2
        obtain ⟨⟨rfl, rfl⟩, rfl⟩ := i2
        exact ⟨g5.defers, _, results_run j1, v1, vr, et', xs', rfl, ⟨g5.below.os, g5.below.tape, g5.below.output, g5.below.size, fun k hk hn => g5.below.block k hk fun hc => hn hc.symm⟩, j2, j3, j4⟩
      cases e with
      | exit id => exact g6.elim
      | normal =>
        refine key ?_
        simp only at g6
        split at g6
        · rename_i rs h1; exact ⟨rs, h1, g6⟩
        · exact g6.elim
      | ret =>
        refine key ?_
        simp only at g6
        split at g6
        · rename_i rs h1; exact ⟨rs, h1, g6⟩
        · exact g6.elim
  · exact h.elim
theorem FC.of_vc {f : FuncId} {fn : Func} (hf : P.funcs[f]? = some fn) (hname : (fn.name == "runtime.NumGoroutine") = false) {s : Sh} {shs : List Sh} {vc : VC} (hvc : fnVCF P cfg hints fn shs = vc)
    {c1 : C} {args rets : List (Sh × C)} (hs : args.map (·.1) = shs) (h : vc.holds P (fun r => r = (.sl s, c1) :: rets) [] (args.map (·.2))) : FC P f args ((.sl s, c1) :: rets) := by
  subst hvc hs
  unfold fnVCF at h
  cases hb : fn.body with
  | none => simp only [hb] at h; exact h.elim
  | some c =>
    simp only [hb] at h
    refine ⟨s, c1, rets, rfl, ⟨fn, hf, by simp [hb], hname⟩, fun w N vs hkw hrd => calls_of_wp hf hb ?_⟩
    have hst := start_sound hkw hrd fn.ntmps
    refine sx_sound c hst (by simp [startSS]) rfl h fun e S' l' ρ' Bs' hv' a' w' g1 g2 g3 g4 g5 g6 => ?_
    have key : (∃ rs, retO P S' fn.results.toList = some rs ∧ evalArgs ρ' rs = (.sl s, c1) :: rets) →
        a'.defers = [] ∧ ∃ v, (results fn a'.tmps).run P w' = .ok v w' ∧ ∃ v1 vr et' xs', Ending.returned v = .returned (pack (v1 :: vr)) ∧ Below w.heap.size w w' ∧
          w'.ownsR (fun g => w.heap.size ≤ g) et' s.size v1 c1.toList.length xs' ∧ RdRow w' (Behind N w (.slice none 0 0) v1) s xs' c1.toList ∧ RdVs w' (Behind N w (.slice none 0 0) v1) rets vr := by
      rintro ⟨rs, i1, i2⟩
      obtain ⟨s', e', rs', v1, vr, et', xs', rfl, j1, j2, j3, j4⟩ := retO_sound g5 (v0 := .slice none 0 0) (fun g => ⟨False.elim, fun h => by cases h⟩) i1
      simp only [evalArgs, List.map_cons, List.cons.injEq, Prod.mk.injEq, Sh.sl.injEq] at i2
      obtain ⟨⟨rfl, rfl⟩, rfl⟩ := i2
      exact ⟨g5.defers, _, results_run j1, v1, vr, et', xs', rfl, ⟨g5.below.os, g5.below.tape, g5.below.output, g5.below.size, fun k hk => g5.below.block k hk id⟩, ownsR_mono j2 fun g _ hg => hg.elim id (fun h => by cases h), j3, j4⟩
    cases e with
    | exit id => exact g6.elim
    | normal =>
      refine key ?_
      simp only at g6
      split at g6
      · rename_i rs h1; exact ⟨rs, h1, g6⟩
      · exact g6.elim
    | ret =>
      refine key ?_
      simp only at g6
      split at g6
      · rename_i rs h1; exact ⟨rs, h1, g6⟩
      · exact g6.elim
end
end Go.Vc

/-
  Part X: for use: the condition of a function by its own types.
-/
namespace Go.Vc
/-- grow, fresh: the functions that are called with a row of the caller's own, that hand back a new one; nils: that hand back a value all of whose slices are nil; pars, rets: shapes of parameters, and of what functions hand back, where their types do not tell them. -/
structure Opt where
  grow : List Nat := []
  fresh : List Nat := []
  nils : List Nat := []
  pars : List (Nat × Sh) := []
  rets : List (Nat × List Sh) := []
  cuts : List Nat := []
/-- The shapes of the parameters: by their types, or as told. -/
def fnShs (P : Program) (opt : Opt) (fn : Func) : Option (List Sh) := fn.params.toList.zipIdx.mapM fun x => match opt.pars.find? (·.1 == x.2) with | some (_, s) => some s | none => shp P x.1
def Opt.cfg (o : Opt) (raw : Bool) (c : Code) : Cfg := { raw, rows := rowLits c, grow := o.grow, fresh := o.fresh, nils := o.nils, keeps := keepsOf c, rets := o.rets, marks := marksOf c, cuts := o.cuts }
def autoVC (P : Program) (raw : Bool) (opt : Opt) (hints : List Hint) (fn : Func) : List Sh × VC :=
  match fnShs P opt fn, fn.body with
  | some shs, some c => (shs, fnVC P (opt.cfg raw c) hints fn shs)
  | _, _ => ([], .fail 9000000)
def autoVCG (P : Program) (raw : Bool) (opt : Opt) (hints : List Hint) (fn : Func) : List Sh × VC :=
  match fnShs P opt fn, fn.body with
  | some (.sl s :: shs), some c => (.sl s :: shs, fnVCG P (opt.cfg raw c) hints fn s shs)
  | _, _ => ([], .fail 9000000)
def autoVCF (P : Program) (raw : Bool) (opt : Opt) (hints : List Hint) (fn : Func) : List Sh × VC :=
  match fnShs P opt fn, fn.body with
  | some shs, some c => (shs, fnVCF P (opt.cfg raw c) hints fn shs)
  | _, _ => ([], .fail 9000000)
def autoVCN (P : Program) (raw : Bool) (opt : Opt) (hints : List Hint) (fn : Func) : List Sh × VC :=
  match fnShs P opt fn, fn.body with
  | some shs, some c => (shs, fnVCN P (opt.cfg raw c) hints fn shs)
  | _, _ => ([], .fail 9000000)
theorem PC.autoN {P : Program} {raw : Bool} {opt : Opt} {hints : List Hint} {f : FuncId} {fn : Func} (hf : P.funcs[f]? = some fn) (hname : (fn.name == "runtime.NumGoroutine") = false) {s : Sh} {shs : List Sh} {vc : VC}
    (hvc : autoVCN P raw opt hints fn = (shs, vc)) {c1 : C} {args : List (Sh × C)} (hs : args.map (·.1) = shs) (h : vc.holds P (fun r => r = [(s, c1)]) [] (args.map (·.2))) :
    PC P (3000000 + f) args [(s, c1)] := by
  unfold autoVCN at hvc
  split at hvc
  · simp only [Prod.mk.injEq] at hvc
    exact PC.ofN (NC.of_vc hf hname hvc.2 (hs.trans hvc.1.symm) h)
  · simp only [Prod.mk.injEq] at hvc
    rw [← hvc.2] at h
    exact h.elim
theorem PC.auto {P : Program} {raw : Bool} {opt : Opt} {hints : List Hint} {f : FuncId} {fn : Func} (hlt : f < 1000000) (hf : P.funcs[f]? = some fn) (hname : (fn.name == "runtime.NumGoroutine") = false) {shs : List Sh} {vc : VC}
    (hvc : autoVC P raw opt hints fn = (shs, vc)) {args rets : List (Sh × C)} (hs : args.map (·.1) = shs) (h : vc.holds P (fun r => r = rets) [] (args.map (·.2))) : PC P f args rets := by
  unfold autoVC at hvc
  split at hvc
  · simp only [Prod.mk.injEq] at hvc
    exact PC.of_vc hlt hf hname hvc.2 (hs.trans hvc.1.symm) h
  · simp only [Prod.mk.injEq] at hvc
    rw [← hvc.2] at h
    exact h.elim
theorem PC.autoG {P : Program} {raw : Bool} {opt : Opt} {hints : List Hint} {f : FuncId} {fn : Func} (hlt : f < 1000000) (hf : P.funcs[f]? = some fn) (hname : (fn.name == "runtime.NumGoroutine") = false) {s : Sh} {shs : List Sh} {vc : VC}
    (hvc : autoVCG P raw opt hints fn = (.sl s :: shs, vc)) {c0 c1 : C} {args rets : List (Sh × C)} (hs : args.map (·.1) = shs) (h : vc.holds P (fun r => r = (.sl s, c1) :: rets) [] (c0 :: args.map (·.2))) :
    PC P (1000000 + f) ((.sl s, c0) :: args) ((.sl s, c1) :: rets) := by
  unfold autoVCG at hvc
  split at hvc
  · simp only [Prod.mk.injEq, List.cons.injEq, Sh.sl.injEq] at hvc
    obtain ⟨⟨rfl, h1⟩, h2⟩ := hvc
    exact PC.ofG hlt (GC.of_vc hf hname h2 (hs.trans h1.symm) h)
  · simp only [Prod.mk.injEq] at hvc
    rw [← hvc.2] at h
    exact h.elim
theorem PC.autoF {P : Program} {raw : Bool} {opt : Opt} {hints : List Hint} {f : FuncId} {fn : Func} (hlt : f < 1000000) (hf : P.funcs[f]? = some fn) (hname : (fn.name == "runtime.NumGoroutine") = false) {s : Sh} {shs : List Sh} {vc : VC}
    (hvc : autoVCF P raw opt hints fn = (shs, vc)) {c1 : C} {args rets : List (Sh × C)} (hs : args.map (·.1) = shs) (h : vc.holds P (fun r => r = (.sl s, c1) :: rets) [] (args.map (·.2))) :
    PC P (2000000 + f) args ((.sl s, c1) :: rets) := by
  unfold autoVCF at hvc
  split at hvc
  · simp only [Prod.mk.injEq] at hvc
    exact PC.ofF hlt (FC.of_vc hf hname hvc.2 (hs.trans hvc.1.symm) h)
  · simp only [Prod.mk.injEq] at hvc
    rw [← hvc.2] at h
    exact h.elim
end Go.Vc

/-
  Part Y: for use: conditions step by step; how expressions are simplified; bytes; arithmetic without wrapping.
-/
namespace Go.Vc
section
variable {P : Program} {Post : List (Sh × C) → Prop} {B : List (List C → Prop)} {ρ : List C} {p : Pres} {e : E} {k a b : VC}
theorem VC.H_fail {n : Nat} : (VC.fail n).holds P Post B ρ = False := id rfl
theorem VC.H_asrt : (VC.asrt p e k).holds P Post B ρ = ((presTrue ρ p → (e.eval ρ).toBool = true) ∧ k.holds P Post B ρ) := id rfl
theorem VC.H_cond : (VC.cond e a b).holds P Post B ρ = (((e.eval ρ).toBool = true → a.holds P Post B ρ) ∧ ((e.eval ρ).toBool = false → b.holds P Post B ρ)) := id rfl
theorem VC.H_amb : (VC.amb e a b).holds P Post B ρ = (((e.eval ρ).toList = [] → a.holds P Post B ρ) ∧ b.holds P Post B ρ) := id rfl
theorem VC.H_ret {rs : List (Sh × E)} : (VC.ret rs).holds P Post B ρ = Post (evalArgs ρ rs) := id rfl
theorem VC.H_back {lvl : Nat} {es : List E} : (VC.back lvl es).holds P Post B ρ = (B.getD lvl fun _ => False) (es.map (·.eval ρ)) := id rfl
theorem VC.H_call {f : Nat} {args : List (Sh × E)} {rets : List Sh} : (VC.call p f args rets k).holds P Post B ρ =
    ∃ res : List C, res.length = rets.length ∧ (presTrue ρ p → PC P f (evalArgs ρ args) (rets.zip res)) ∧ k.holds P Post B (ρ ++ res) := id rfl
theorem VC.H_call1 {f : Nat} {args : List (Sh × E)} {r : Sh} : (VC.call p f args [r] k).holds P Post B ρ =
    ∃ x : C, (presTrue ρ p → PC P f (evalArgs ρ args) [(r, x)]) ∧ k.holds P Post B (ρ ++ [x]) := by
  apply propext
  rw [VC.H_call]
  constructor
  · rintro ⟨res, h, h1, h2⟩
    match res, h with
    | [x], _ => exact ⟨x, h1, h2⟩
  · rintro ⟨x, h1, h2⟩
    exact ⟨[x], rfl, h1, h2⟩
theorem VC.H_call2 {f : Nat} {args : List (Sh × E)} {r r' : Sh} : (VC.call p f args [r, r'] k).holds P Post B ρ =
    ∃ x y : C, (presTrue ρ p → PC P f (evalArgs ρ args) [(r, x), (r', y)]) ∧ k.holds P Post B (ρ ++ [x, y]) := by
  apply propext
  rw [VC.H_call]
  constructor
  · rintro ⟨res, h, h1, h2⟩
    match res, h with
    | [x, y], _ => exact ⟨x, y, h1, h2⟩
  · rintro ⟨x, y, h1, h2⟩
    exact ⟨[x, y], rfl, h1, h2⟩
theorem VC.H_call3 {f : Nat} {args : List (Sh × E)} {r r' r'' : Sh} : (VC.call p f args [r, r', r''] k).holds P Post B ρ =
    ∃ x y z : C, (presTrue ρ p → PC P f (evalArgs ρ args) [(r, x), (r', y), (r'', z)]) ∧ k.holds P Post B (ρ ++ [x, y, z]) := by
  apply propext
  rw [VC.H_call]
  constructor
  · rintro ⟨res, h, h1, h2⟩
    match res, h with
    | [x, y, z], _ => exact ⟨x, y, z, h1, h2⟩
  · rintro ⟨x, y, z, h1, h2⟩
    exact ⟨[x, y, z], rfl, h1, h2⟩
end
/-- What holds at the heads of the loops around may be told more weakly. -/
def BLe (B B' : List (List C → Prop)) : Prop := B.length = B'.length ∧ ∀ (i : Nat) (f g : List C → Prop) (vs : List C), B[i]? = some f → B'[i]? = some g → f vs → g vs
theorem BLe.snoc {B B' : List (List C → Prop)} (h : BLe B B') (f : List C → Prop) : BLe (B ++ [f]) (B' ++ [f]) := by
  refine ⟨by simp [h.1], fun i g g' vs h1 h2 h3 => ?_⟩
  by_cases hi : i < B.length
  · rw [List.getElem?_append_left hi] at h1
    rw [List.getElem?_append_left (by rw [← h.1]; exact hi)] at h2
    exact h.2 i g g' vs h1 h2 h3
  · have hi' : i = B.length := by
      have := (List.getElem?_eq_some_iff.1 h1).1
      simp at this
      omega
    subst hi'
    rw [List.getElem?_append_right (Nat.le_refl _)] at h1
    rw [List.getElem?_append_right (by rw [h.1]; exact Nat.le_refl _)] at h2
    rw [h.1] at h2
    simp at h1 h2
    subst h1 h2
    exact h3
theorem VC.holds_mono {P : Program} {Post : List (Sh × C) → Prop} : ∀ {B B' : List (List C → Prop)} {ρ : List C} (_ : BLe B B') (k : VC), k.holds P Post B ρ → k.holds P Post B' ρ
  | _, _, _, _, .fail _, h => h
  | _, _, _, hb, .asrt _ _ k, h => ⟨h.1, VC.holds_mono hb k h.2⟩
  | _, _, _, hb, .call _ _ _ _ k, h => let ⟨res, h1, h2, h3⟩ := h; ⟨res, h1, h2, VC.holds_mono hb k h3⟩
  | _, _, _, hb, .cond _ a b, h => ⟨fun hc => VC.holds_mono hb a (h.1 hc), fun hc => VC.holds_mono hb b (h.2 hc)⟩
  | _, _, _, hb, .amb _ a b, h => ⟨fun hc => VC.holds_mono hb a (h.1 hc), VC.holds_mono hb b h.2⟩
  | _, _, _, _, .ret _, h => h
  | _, _, _, hb, .loop _ k, h => let ⟨I, μ, h1, h2⟩ := h; ⟨I, μ, h1, fun vs hl hi => VC.holds_mono (hb.snoc _) k (h2 vs hl hi)⟩
  | _, _, _, hb, .cut _ k r, h => let ⟨I, h1, h2⟩ := h; ⟨I, VC.holds_mono (hb.snoc _) k h1, fun vs hl hi => VC.holds_mono hb r (h2 vs hl hi)⟩
  | B, B', ρ, hb, .back lvl es, h => by
    simp only [VC.H_back, List.getD_eq_getElem?_getD] at h ⊢
    cases h1 : B[lvl]? with
    | none => rw [h1] at h; exact h.elim
    | some f =>
      rw [h1] at h
      have hlt : lvl < B'.length := by
        have := (List.getElem?_eq_some_iff.1 h1).1
        have := hb.1
        omega
      rw [List.getElem?_eq_getElem hlt]
      exact hb.2 lvl f _ _ h1 (List.getElem?_eq_getElem hlt) h
section
variable {P : Program} {Post : List (Sh × C) → Prop} {B : List (List C → Prop)} {ρ : List C} {p : Pres} {e : E} {k a b : VC}
/-- A call whose contract is known. -/
theorem VC.go_call {f : Nat} {args : List (Sh × E)} {rets : List Sh} {args' rets' : List (Sh × C)} (h : PC P f args' rets') (ha : evalArgs ρ args = args') (hr : rets'.map (·.1) = rets)
    (hk : k.holds P Post B (ρ ++ rets'.map (·.2))) : (VC.call p f args rets k).holds P Post B ρ := by
  subst ha hr
  refine ⟨rets'.map (·.2), by simp, fun _ => ?_, hk⟩
  have : ∀ l : List (Sh × C), (l.map (·.1)).zip (l.map (·.2)) = l := by
    intro l
    induction l with
    | nil => rfl
    | cons x l ih => simp [ih]
  rw [this]
  exact h
/-- Ways that meet again: what holds there. -/
theorem VC.go_cut {n : Nat} {b r : VC} (I : List C → Prop) (h1 : b.holds P Post (B ++ [I]) ρ) (h2 : ∀ vs, vs.length = n → I vs → r.holds P Post B (ρ ++ vs)) : (VC.cut n b r).holds P Post B ρ := ⟨I, h1, h2⟩
/-- Ways that meet again, with known values. -/
theorem VC.go_meet {n : Nat} {b r : VC} (vs0 : List C) (h1 : b.holds P Post (B ++ [fun vs => vs = vs0]) ρ) (h2 : r.holds P Post B (ρ ++ vs0)) : (VC.cut n b r).holds P Post B ρ := ⟨fun vs => vs = vs0, h1, fun vs _ h => by rw [h]; exact h2⟩
theorem VC.go_asrt (h : presTrue ρ p → (e.eval ρ).toBool = true) (hk : k.holds P Post B ρ) : (VC.asrt p e k).holds P Post B ρ := ⟨h, hk⟩
theorem VC.go_cond (h1 : (e.eval ρ).toBool = true → a.holds P Post B ρ) (h2 : (e.eval ρ).toBool = false → b.holds P Post B ρ) : (VC.cond e a b).holds P Post B ρ := ⟨h1, h2⟩
theorem VC.go_yes (h : (e.eval ρ).toBool = true) (h1 : a.holds P Post B ρ) : (VC.cond e a b).holds P Post B ρ := ⟨fun _ => h1, fun h' => absurd (h.symm.trans h') (by decide)⟩
theorem VC.go_no (h : (e.eval ρ).toBool = false) (h1 : b.holds P Post B ρ) : (VC.cond e a b).holds P Post B ρ := ⟨fun h' => absurd (h.symm.trans h') (by decide), fun _ => h1⟩
/-- A loop: its states, what holds at its head, and what becomes less. -/
theorem VC.go_loop {init : List E} {St : Type} (enc : St → List C) (I : St → Prop) (μ : St → Nat) (s0 : St) (h0 : init.map (·.eval ρ) = enc s0) (hI : I s0)
    (h : ∀ s, I s → k.holds P Post (B ++ [fun vs => ∃ s', vs = enc s' ∧ I s' ∧ μ s' < μ s]) (ρ ++ enc s)) : (VC.loop init k).holds P Post B ρ := by
  classical
  let Q : List C → Nat → Prop := fun vs m => ∃ s, vs = enc s ∧ I s ∧ μ s = m
  have least : ∀ vs m, Q vs m → ∃ m0, Q vs m0 ∧ ∀ m', Q vs m' → m0 ≤ m' := by
    intro vs m
    induction m using Nat.strongRecOn with
    | ind m ih =>
      intro hm
      by_cases hx : ∃ m', m' < m ∧ Q vs m'
      · obtain ⟨m', h1, h2⟩ := hx
        exact ih m' h1 h2
      · exact ⟨m, hm, fun m' hm' => Nat.le_of_not_lt fun hlt => hx ⟨m', hlt, hm'⟩⟩
  let ν : List C → Nat := fun vs => if hx : ∃ m, Q vs m ∧ ∀ m', Q vs m' → m ≤ m' then Classical.choose hx else 0
  have hν : ∀ vs, (∃ s, vs = enc s ∧ I s) → Q vs (ν vs) ∧ ∀ m', Q vs m' → ν vs ≤ m' := by
    rintro vs ⟨s, h1, h2⟩
    have hx : ∃ m, Q vs m ∧ ∀ m', Q vs m' → m ≤ m' := least vs (μ s) ⟨s, h1, h2, rfl⟩
    have he : ν vs = Classical.choose hx := dif_pos hx
    rw [he]
    exact Classical.choose_spec hx
  refine ⟨fun vs => ∃ s, vs = enc s ∧ I s, ν, ⟨s0, h0, hI⟩, fun vs _ hvs => ?_⟩
  obtain ⟨⟨s, h1, h2, h3⟩, _⟩ := hν vs hvs
  have hs := h s h2
  rw [← h1] at hs
  refine VC.holds_mono ?_ k hs
  refine ⟨by simp, fun i f g vs' hf hg hfv => ?_⟩
  by_cases hi : i < B.length
  · rw [List.getElem?_append_left hi] at hf hg
    rw [hf] at hg
    cases hg
    exact hfv
  · have hi' : i = B.length := by
      have := (List.getElem?_eq_some_iff.1 hf).1
      simp at this
      omega
    subst hi'
    simp at hf hg
    subst hf hg
    obtain ⟨s', g1, g2, g3⟩ := hfv
    refine ⟨⟨s', g1, g2⟩, ?_⟩
    have := (hν vs' ⟨s', g1, g2⟩).2 (μ s') ⟨s', g1, g2, rfl⟩
    omega
end
theorem pres_nil (ρ : List C) : presTrue ρ [] = True := by simp [presTrue]
theorem pres_cons (ρ : List C) (e : E) (b : Bool) (l : Pres) : presTrue ρ ((e, b) :: l) = ((e.eval ρ).toBool = b ∧ presTrue ρ l) := by simp [presTrue]
section
variable {c : Prop} [Decidable c] {x y : C} {b : Bool}
theorem toBool_ite : (if c then x else y).toBool = if c then x.toBool else y.toBool := by split <;> rfl
theorem toInt_ite : (if c then x else y).toInt = if c then x.toInt else y.toInt := by split <;> rfl
theorem toList_ite : (if c then x else y).toList = if c then x.toList else y.toList := by split <;> rfl
theorem toStr_ite : (if c then x else y).toStr = if c then x.toStr else y.toStr := by split <;> rfl
theorem int_ite {a b : Int} : (if c then C.int a else C.int b) = C.int (if c then a else b) := by split <;> rfl
theorem bool_ite {a b : Bool} : (if c then C.bool a else C.bool b) = C.bool (if c then a else b) := by split <;> rfl
theorem ls_ite {a b : List C} : (if c then C.ls a else C.ls b) = C.ls (if c then a else b) := by split <;> rfl
theorem str_ite {a b : List UInt8} : (if c then C.str a else C.str b) = C.str (if c then a else b) := by split <;> rfl
theorem orT : ((if c then true else b) = true) = (c ∨ b = true) := by by_cases h : c <;> simp [h]
theorem orF : ((if c then true else b) = false) = (¬c ∧ b = false) := by by_cases h : c <;> simp [h]
theorem andT : ((if c then b else false) = true) = (c ∧ b = true) := by by_cases h : c <;> simp [h]
theorem andF : ((if c then b else false) = false) = (¬c ∨ b = false) := by by_cases h : c <;> simp [h]
theorem notT : ((!b) = true) = (b = false) := by cases b <;> simp
theorem notF : ((!b) = false) = (b = true) := by cases b <;> simp
theorem nnE {α : Type} {a b : α} : (¬ a ≠ b) = (a = b) := by simp
theorem eqF {a b : Int} : ((a == b) = false) = (a ≠ b) := by simp
theorem neF {a b : Int} : ((a != b) = false) = (a = b) := by simp
theorem neT {a b : Int} : ((a != b) = true) = (a ≠ b) := by simp
theorem eqT {a b : Int} : ((a == b) = true) = (a = b) := by simp
end
/-! Expressions: for simp; steps of their own in the proof (the kernel is quicker so than by computing). -/
section
variable (ρ : List C) (x y z : E) (n : Int)
theorem ev_var (i : Nat) : (E.var i).eval ρ = ρ.getD i default := id rfl
theorem ev_int : (E.int n).eval ρ = .int n := id rfl
theorem ev_bool (b : Bool) : (E.bool b).eval ρ = .bool b := id rfl
theorem ev_str (s : List UInt8) : (E.str s).eval ρ = .str s := id rfl
theorem ev_nil : E.nil.eval ρ = .ls [] := id rfl
theorem ev_nilS : E.nilS.eval ρ = .ls [] := id rfl
theorem ev_cons : (E.cons x y).eval ρ = .ls (x.eval ρ :: (y.eval ρ).toList) := id rfl
theorem ev_hd : (E.hd x).eval ρ = (x.eval ρ).hd := id rfl
theorem ev_tl : (E.tl x).eval ρ = (x.eval ρ).tl := id rfl
theorem ev_fset (j : Nat) : (E.fset j x y).eval ρ = (x.eval ρ).fset j (y.eval ρ) := id rfl
theorem ev_bin (o : BinOp) (k : IntKind) : (E.bin o k x y).eval ρ = .int (arith o k (x.eval ρ).toInt (y.eval ρ).toInt) := id rfl
theorem ev_add : (E.raw .add x y).eval ρ = .int ((x.eval ρ).toInt + (y.eval ρ).toInt) := id rfl
theorem ev_sub' : (E.raw .sub x y).eval ρ = .int ((x.eval ρ).toInt - (y.eval ρ).toInt) := id rfl
theorem ev_mul : (E.raw .mul x y).eval ρ = .int ((x.eval ρ).toInt * (y.eval ρ).toInt) := id rfl
theorem ev_eql : (E.cmp .eql x y).eval ρ = .bool (decide ((x.eval ρ).toInt = (y.eval ρ).toInt)) := by simp [E.eval, cmpI, BEq.beq]
theorem ev_neq : (E.cmp .neq x y).eval ρ = .bool (decide ((x.eval ρ).toInt ≠ (y.eval ρ).toInt)) := by simp [E.eval, cmpI, bne, BEq.beq]
theorem ev_lss : (E.cmp .lss x y).eval ρ = .bool (decide ((x.eval ρ).toInt < (y.eval ρ).toInt)) := id rfl
theorem ev_leq : (E.cmp .leq x y).eval ρ = .bool (decide ((x.eval ρ).toInt ≤ (y.eval ρ).toInt)) := id rfl
theorem ev_gtr : (E.cmp .gtr x y).eval ρ = .bool (decide ((y.eval ρ).toInt < (x.eval ρ).toInt)) := id rfl
theorem ev_geq : (E.cmp .geq x y).eval ρ = .bool (decide ((y.eval ρ).toInt ≤ (x.eval ρ).toInt)) := id rfl
theorem ev_seql : (E.scmp .eql x y).eval ρ = .bool (decide ((x.eval ρ).toStr = (y.eval ρ).toStr)) := by
  simp only [E.eval, cmpS]; congr 1; by_cases h : (x.eval ρ).toStr = (y.eval ρ).toStr <;> simp [h]
theorem ev_sneq : (E.scmp .neq x y).eval ρ = .bool (decide ((x.eval ρ).toStr ≠ (y.eval ρ).toStr)) := by
  simp only [E.eval, cmpS]; congr 1; by_cases h : (x.eval ρ).toStr = (y.eval ρ).toStr <;> simp [h]
theorem ev_beq : (E.beq x y).eval ρ = .bool (decide ((x.eval ρ).toBool = (y.eval ρ).toBool)) := by
  simp only [E.eval]; congr 1
theorem ev_not : (E.not x).eval ρ = .bool !(x.eval ρ).toBool := id rfl
theorem ev_ite : (E.ite x y z).eval ρ = if (x.eval ρ).toBool = true then y.eval ρ else z.eval ρ := id rfl
theorem ev_conv (k : IntKind) : (E.conv k x).eval ρ = .int (k.wrap (x.eval ρ).toInt) := id rfl
theorem ev_xorK (k : IntKind) : (E.xorK k x).eval ρ = .int (k.wrap (BitVec.ofInt k.bits (if k.signed then -1 else k.max) ^^^ BitVec.ofInt k.bits (x.eval ρ).toInt).toNat) := id rfl
theorem ev_len : (E.len x).eval ρ = .int (x.eval ρ).toList.length := id rfl
theorem ev_slen : (E.slen x).eval ρ = .int (x.eval ρ).toStr.length := id rfl
theorem ev_idx : (E.idx x y).eval ρ = (x.eval ρ).toList.getD (y.eval ρ).toInt.toNat default := id rfl
theorem ev_sidx : (E.sidx x y).eval ρ = .int ((x.eval ρ).toStr.getD (y.eval ρ).toInt.toNat 0).toNat := id rfl
theorem ev_sub : (E.sub x y z).eval ρ = .ls (((x.eval ρ).toList.take (z.eval ρ).toInt.toNat).drop (y.eval ρ).toInt.toNat) := id rfl
theorem ev_ssub : (E.ssub x y z).eval ρ = .str (((x.eval ρ).toStr.take (z.eval ρ).toInt.toNat).drop (y.eval ρ).toInt.toNat) := id rfl
theorem ev_app : (E.app x y).eval ρ = .ls ((x.eval ρ).toList ++ (y.eval ρ).toList) := id rfl
theorem ev_set : (E.set x y z).eval ρ = .ls ((x.eval ρ).toList.set (y.eval ρ).toInt.toNat (z.eval ρ)) := id rfl
theorem ev_rep : (E.rep x y).eval ρ = .ls (List.replicate (x.eval ρ).toInt.toNat (y.eval ρ)) := id rfl
theorem ev_splice : (E.splice x y z).eval ρ = .ls (Vc.splice (x.eval ρ).toList (y.eval ρ).toInt.toNat (z.eval ρ).toList) := id rfl
theorem ev_toStr : (E.toStr x).eval ρ = .str (bytesOf (x.eval ρ).toList) := id rfl
theorem ev_ofStr : (E.ofStr x).eval ρ = .ls (ofBytes (x.eval ρ).toStr) := id rfl
theorem ev_cat : (E.cat x y).eval ρ = .str ((x.eval ρ).toStr ++ (y.eval ρ).toStr) := id rfl
theorem ev_minI : (E.minI x y).eval ρ = .int (min (x.eval ρ).toInt (y.eval ρ).toInt) := id rfl
theorem ev_maxI : (E.maxI x y).eval ρ = .int (max (x.eval ρ).toInt (y.eval ρ).toInt) := id rfl
theorem ev_deq (s : Sh) : (E.deq s x y).eval ρ = .bool (dataEq s (x.eval ρ) (y.eval ρ)) := id rfl
theorem ev_fits64 : (E.fits .i64 x).eval ρ = .bool (decide (-9223372036854775808 ≤ (x.eval ρ).toInt ∧ (x.eval ρ).toInt ≤ 9223372036854775807)) := id rfl
theorem ev_mget : (E.mget x y z).eval ρ = (match mfind (x.eval ρ).toList (y.eval ρ).toInt with | some d => d.tl.hd | none => z.eval ρ) := id rfl
theorem ev_mhas : (E.mhas x y).eval ρ = .bool (mfind (x.eval ρ).toList (y.eval ρ).toInt).isSome := id rfl
theorem ev_mput : (E.mput x y z).eval ρ = .ls (mset (x.eval ρ).toList (y.eval ρ).toInt (z.eval ρ)) := id rfl
theorem ev_drune : (E.drune x y).eval ρ = .int (Utf8.decode ⟨(x.eval ρ).toStr.toArray⟩ (y.eval ρ).toInt.toNat).1 := id rfl
theorem ev_dwid : (E.dwid x y).eval ρ = .int (Utf8.decode ⟨(x.eval ρ).toStr.toArray⟩ (y.eval ρ).toInt.toNat).2 := id rfl
theorem ea_nil : evalArgs ρ [] = [] := id rfl
theorem ea_cons (s : Sh) (l : List (Sh × E)) : evalArgs ρ ((s, x) :: l) = (s, x.eval ρ) :: evalArgs ρ l := id rfl
theorem v_int : (C.int n).toInt = n := id rfl
theorem v_bool (b : Bool) : (C.bool b).toBool = b := id rfl
theorem v_str (s : List UInt8) : (C.str s).toStr = s := id rfl
theorem v_ls (l : List C) : (C.ls l).toList = l := id rfl
theorem v_hd (c : C) (l : List C) : (C.ls (c :: l)).hd = c := id rfl
theorem v_tl (c : C) (l : List C) : (C.ls (c :: l)).tl = .ls l := id rfl
theorem env_zero {α : Type} (a d : α) (l : List α) : (a :: l).getD 0 d = a := id rfl
theorem env_succ {α : Type} (a d : α) (l : List α) (n : Nat) : (a :: l).getD (n + 1) d = l.getD n d := id rfl
theorem env_cons {α : Type} (a : α) (l m : List α) : (a :: l) ++ m = a :: (l ++ m) := id rfl
theorem env_nil {α : Type} (l : List α) : [] ++ l = l := id rfl
end
@[simp] theorem wrapu8 (n : Int) : IntKind.u8.wrap n = n % 256 := by simp [IntKind.wrap, IntKind.bits, IntKind.signed]
@[simp] theorem wrapu16 (n : Int) : IntKind.u16.wrap n = n % 65536 := by simp [IntKind.wrap, IntKind.bits, IntKind.signed]
@[simp] theorem wrapu32 (n : Int) : IntKind.u32.wrap n = n % 4294967296 := by simp [IntKind.wrap, IntKind.bits, IntKind.signed]
@[simp] theorem wrapu64 (n : Int) : IntKind.u64.wrap n = n % 18446744073709551616 := by simp [IntKind.wrap, IntKind.bits, IntKind.signed]
theorem wrapi64 (n : Int) : IntKind.i64.wrap n = (n + 9223372036854775808) % 18446744073709551616 - 9223372036854775808 := by
  simp [IntKind.wrap, IntKind.bits, IntKind.signed]; split <;> omega
theorem wrapi32 (n : Int) : IntKind.i32.wrap n = (n + 2147483648) % 4294967296 - 2147483648 := by
  simp [IntKind.wrap, IntKind.bits, IntKind.signed]; split <;> omega
theorem wrapi64_in {n : Int} (h : -9223372036854775808 ≤ n ∧ n < 9223372036854775808) : IntKind.i64.wrap n = n := by rw [wrapi64]; omega
theorem wrapi32_in {n : Int} (h : -2147483648 ≤ n ∧ n < 2147483648) : IntKind.i32.wrap n = n := by rw [wrapi32]; omega
theorem arith_in (a : Int) (m : Int) (h : 0 ≤ a) (h2 : a < m) : a % m = a := Int.emod_eq_of_lt h h2
@[simp] theorem mini64 : IntKind.i64.min = -9223372036854775808 := rfl
@[simp] theorem maxi64 : IntKind.i64.max = 9223372036854775807 := rfl
@[simp] theorem arith_add (k : IntKind) (x y : Int) : arith .add k x y = k.wrap (x + y) := rfl
@[simp] theorem arith_sub (k : IntKind) (x y : Int) : arith .sub k x y = k.wrap (x - y) := rfl
@[simp] theorem arith_mul (k : IntKind) (x y : Int) : arith .mul k x y = k.wrap (x * y) := rfl
theorem arith_quo (k : IntKind) (x y : Int) (h : 0 ≤ x) : arith .quo k x y = k.wrap (x / y) := by simp only [arith]; rw [Int.tdiv_eq_ediv_of_nonneg h]
theorem arith_rem (k : IntKind) (x y : Int) (h : 0 ≤ x) : arith .rem k x y = x % y := by simp only [arith]; rw [Int.tmod_eq_emod_of_nonneg h]
theorem arith_shl (k : IntKind) (x y : Int) : arith .shl k x y = k.wrap (x * 2 ^ (min y.toNat k.bits)) := rfl
theorem arith_shr (k : IntKind) (x y : Int) : arith .shr k x y = x / 2 ^ (min y.toNat k.bits) := by
  simp only [arith]; exact Int.fdiv_eq_ediv_of_nonneg _ (Int.pow_nonneg (by decide))
theorem ofInt_nat (w a : Nat) : BitVec.ofInt w (a : Int) = BitVec.ofNat w a := BitVec.ofInt_natCast w a
theorem wrap_nat {k : IntKind} {n : Nat} (h : n < 2 ^ (k.bits - 1)) : k.wrap (n : Int) = n := by
  cases k <;> simp [IntKind.wrap, IntKind.bits, IntKind.signed] at h ⊢ <;> omega
theorem wrapU_nat {k : IntKind} (hs : k.signed = false) {n : Nat} (h : n < 2 ^ k.bits) : k.wrap (n : Int) = n := by
  cases k <;> simp [IntKind.wrap, IntKind.bits, IntKind.signed] at h hs ⊢ <;> omega
section
variable {k : IntKind} {a b : Nat}
theorem and_nat (ha : a < 2 ^ k.bits) (hb : b < 2 ^ k.bits) : (BitVec.ofInt k.bits (a : Int) &&& BitVec.ofInt k.bits (b : Int)).toNat = a &&& b := by
  rw [ofInt_nat, ofInt_nat, BitVec.toNat_and, BitVec.toNat_ofNat, BitVec.toNat_ofNat, Nat.mod_eq_of_lt ha, Nat.mod_eq_of_lt hb]
theorem or_nat (ha : a < 2 ^ k.bits) (hb : b < 2 ^ k.bits) : (BitVec.ofInt k.bits (a : Int) ||| BitVec.ofInt k.bits (b : Int)).toNat = a ||| b := by
  rw [ofInt_nat, ofInt_nat, BitVec.toNat_or, BitVec.toNat_ofNat, BitVec.toNat_ofNat, Nat.mod_eq_of_lt ha, Nat.mod_eq_of_lt hb]
theorem xor_nat (ha : a < 2 ^ k.bits) (hb : b < 2 ^ k.bits) : (BitVec.ofInt k.bits (a : Int) ^^^ BitVec.ofInt k.bits (b : Int)).toNat = a ^^^ b := by
  rw [ofInt_nat, ofInt_nat, BitVec.toNat_xor, BitVec.toNat_ofNat, BitVec.toNat_ofNat, Nat.mod_eq_of_lt ha, Nat.mod_eq_of_lt hb]
/-- Unsigned. -/
theorem arith_andU (hs : k.signed = false) (ha : a < 2 ^ k.bits) (hb : b < 2 ^ k.bits) : arith .and k a b = ((a &&& b : Nat) : Int) := by
  simp only [arith, and_nat ha hb]; exact wrapU_nat hs (Nat.and_lt_two_pow _ hb)
theorem arith_orU (hs : k.signed = false) (ha : a < 2 ^ k.bits) (hb : b < 2 ^ k.bits) : arith .or k a b = ((a ||| b : Nat) : Int) := by
  simp only [arith, or_nat ha hb]; exact wrapU_nat hs (Nat.or_lt_two_pow ha hb)
theorem arith_xorU (hs : k.signed = false) (ha : a < 2 ^ k.bits) (hb : b < 2 ^ k.bits) : arith .xor k a b = ((a ^^^ b : Nat) : Int) := by
  simp only [arith, xor_nat ha hb]; exact wrapU_nat hs (Nat.xor_lt_two_pow ha hb)
theorem half_lt (h : a < 2 ^ (k.bits - 1)) : a < 2 ^ k.bits := Nat.lt_of_lt_of_le h (Nat.pow_le_pow_right (by decide) (Nat.sub_le _ _))
/-- Below the half of what fits: any kind. -/
theorem arith_andH (ha : a < 2 ^ (k.bits - 1)) (hb : b < 2 ^ (k.bits - 1)) : arith .and k a b = ((a &&& b : Nat) : Int) := by
  simp only [arith, and_nat (half_lt ha) (half_lt hb)]; exact wrap_nat (Nat.and_lt_two_pow _ hb)
theorem arith_orH (ha : a < 2 ^ (k.bits - 1)) (hb : b < 2 ^ (k.bits - 1)) : arith .or k a b = ((a ||| b : Nat) : Int) := by
  simp only [arith, or_nat (half_lt ha) (half_lt hb)]; exact wrap_nat (Nat.or_lt_two_pow ha hb)
theorem arith_xorH (ha : a < 2 ^ (k.bits - 1)) (hb : b < 2 ^ (k.bits - 1)) : arith .xor k a b = ((a ^^^ b : Nat) : Int) := by
  simp only [arith, xor_nat (half_lt ha) (half_lt hb)]; exact wrap_nat (Nat.xor_lt_two_pow ha hb)
end

/-! Bytes. -/
abbrev B (b : List UInt8) : C := .ls (ofBytes b)
def u8 (x : Int) : UInt8 := UInt8.ofNat (x % 256).toNat
theorem u8_toNat (x : Int) : (((u8 x).toNat : Nat) : Int) = x % 256 := by
  simp only [u8, UInt8.toNat_ofNat']; omega
theorem u8_of (x : UInt8) : u8 x.toNat = x := by
  apply UInt8.toNat_inj.1
  have h1 := u8_toNat x.toNat
  have h2 := x.toNat_lt
  omega
theorem u8_int (x : Int) : C.int (x % 256) = C.int (u8 x).toNat := by rw [u8_toNat]
@[simp] theorem ofBytes_nil : ofBytes [] = [] := rfl
@[simp] theorem ofBytes_length (b : List UInt8) : (ofBytes b).length = b.length := by simp [ofBytes]
theorem ofBytes_take (b : List UInt8) (n : Nat) : (ofBytes b).take n = ofBytes (b.take n) := by simp [ofBytes]
theorem ofBytes_drop (b : List UInt8) (n : Nat) : (ofBytes b).drop n = ofBytes (b.drop n) := by simp [ofBytes]
theorem ofBytes_append (a b : List UInt8) : ofBytes a ++ ofBytes b = ofBytes (a ++ b) := by simp [ofBytes]
theorem ofBytes_cons (x : UInt8) (b : List UInt8) : C.int x.toNat :: ofBytes b = ofBytes (x :: b) := by simp [ofBytes]
theorem ofBytes_rep (n : Nat) : List.replicate n (C.int 0) = ofBytes (List.replicate n 0) := by simp [ofBytes]
theorem ofBytes_set (b : List UInt8) (i : Nat) (x : Int) : (ofBytes b).set i (.int (x % 256)) = ofBytes (b.set i (u8 x)) := by
  rw [u8_int]; simp [ofBytes, List.map_set]
theorem ofBytes_set' (b : List UInt8) (i : Nat) (x : UInt8) : (ofBytes b).set i (.int x.toNat) = ofBytes (b.set i x) := by
  simp [ofBytes, List.map_set]
theorem ofBytes_getD (b : List UInt8) (i : Nat) : (ofBytes b).getD i default = .int (b.getD i 0).toNat := by
  simp only [ofBytes, List.getD, List.getElem?_map]
  cases b[i]? <;> rfl
theorem ofBytes_splice (b m : List UInt8) (i : Nat) : splice (ofBytes b) i (ofBytes m) = ofBytes (splice b i m) := by simp [splice, ofBytes]
@[simp] theorem bytesOf_ofBytes (b : List UInt8) : bytesOf (ofBytes b) = b := by
  simp only [bytesOf, ofBytes, List.map_map]
  conv => rhs; rw [← List.map_id b]
  apply List.map_congr_left
  intro x _
  simp
@[simp] theorem bytesOf_nil : bytesOf [] = [] := rfl
theorem ofBytes_inj {a b : List UInt8} (h : ofBytes a = ofBytes b) : a = b := by rw [← bytesOf_ofBytes a, h, bytesOf_ofBytes]
theorem getD_toNat_lt (b : List UInt8) (i : Nat) : (b.getD i 0).toNat < 256 := UInt8.toNat_lt _
@[simp] theorem cmpS_eql (a b : List UInt8) : cmpS .eql a b = decide (a = b) := by
  by_cases h : a = b
  · simp [cmpS, h]
  · simp [cmpS, h]
@[simp] theorem cmpS_neq (a b : List UInt8) : cmpS .neq a b = decide (a ≠ b) := by
  by_cases h : a = b
  · simp [cmpS, h]
  · simp [cmpS, h]
theorem ofBytes_all (b : List C) (h : ∀ c ∈ b, ∃ n : Nat, c = .int n ∧ n < 256) : ∃ l : List UInt8, b = ofBytes l := by
  refine ⟨b.map fun c => u8 c.toInt, ?_⟩
  simp only [ofBytes, List.map_map]
  conv => lhs; rw [← List.map_id b]
  apply List.map_congr_left
  intro c hc
  obtain ⟨n, rfl, hn⟩ := h c hc
  simp only [Function.comp, id, C.toInt_int, u8_toNat]
  congr 1
  omega
/-! Numbers that are not negative. -/
abbrev ofNats (l : List Nat) : List C := l.map fun n : Nat => .int (n : Int)
abbrev Ns (l : List Nat) : C := .ls (ofNats l)
theorem ofNats_getD (l : List Nat) (i : Nat) (h : i < l.length) : (ofNats l).getD i default = .int (l.getD i 0 : Nat) := by
  simp [List.getD, h]
theorem ofNats_snoc (l : List Nat) (n : Nat) : ofNats l ++ [.int (n : Int)] = ofNats (l ++ [n]) := by simp
theorem ofNats_inj {a b : List Nat} (h : ofNats a = ofNats b) : a = b := by
  have := congrArg (List.map fun c => c.toInt.toNat) h
  simpa [List.map_map, Function.comp_def] using this
theorem byte_nat (v : Nat) : IntKind.u8.wrap (v : Int) = ((UInt8.ofNat v).toNat : Int) := by
  simp only [wrapu8, UInt8.toNat_ofNat']
  omega
theorem byte_lit (l : List Nat) : l.map (fun v : Nat => C.int (IntKind.u8.wrap (v : Int))) = ofBytes (l.map UInt8.ofNat) := by
  simp only [ofBytes, List.map_map]
  apply List.map_congr_left
  intro v _
  simp only [Function.comp, byte_nat]
theorem ty_list {α : Type} {e : α → C} {P : α → Prop} : ∀ {l : List C}, (∀ x ∈ l, ∃ a, x = e a ∧ P a) → ∃ bs : List α, l = bs.map e ∧ ∀ a ∈ bs, P a
  | [], _ => ⟨[], rfl, by simp⟩
  | x :: l, h => by
    obtain ⟨a, h1, h2⟩ := h x (by simp)
    obtain ⟨bs, h3, h4⟩ := ty_list (l := l) fun y hy => h y (by simp [hy])
    exact ⟨a :: bs, by simp [h1, h3], by simpa using ⟨h2, h4⟩⟩
end Go.Vc


/-
  Plain: numbers in bytes, the highest first.
-/
namespace Go.Plain
/-- The number that the bytes are. -/
def be (l : List UInt8) : Nat := l.foldl (fun v x => v * 256 + x.toNat) 0
/-- The n lowest bytes of a number. -/
def toBE : Nat → Nat → List UInt8
  | 0, _ => []
  | n + 1, v => toBE n (v / 256) ++ [UInt8.ofNat v]
theorem snocInd {α : Type} {P : List α → Prop} (nil : P []) (snoc : ∀ l x, P l → P (l ++ [x])) (l : List α) : P l := by
  have h : ∀ (n : Nat) (l : List α), l.length = n → P l := by
    intro n
    induction n with
    | zero => intro l hl; rw [List.length_eq_zero_iff.1 hl]; exact nil
    | succ n ih =>
      intro l hl
      rcases List.eq_nil_or_concat l with rfl | ⟨m, x, rfl⟩
      · simp at hl
      · rw [List.concat_eq_append] at hl ⊢
        exact snoc m x (ih m (by simpa using hl))
  exact h _ l rfl
@[simp] theorem be_nil : be [] = 0 := rfl
@[simp] theorem be_snoc (l : List UInt8) (x : UInt8) : be (l ++ [x]) = be l * 256 + x.toNat := by simp [be]
theorem be_lt (l : List UInt8) : be l < 256 ^ l.length := by
  induction l using snocInd with
  | nil => simp
  | snoc l x ih =>
    have := x.toNat_lt
    simp only [be_snoc, List.length_append, List.length_singleton, Nat.pow_succ]
    omega
theorem be_append (l m : List UInt8) : be (l ++ m) = be l * 256 ^ m.length + be m := by
  induction m using snocInd with
  | nil => simp
  | snoc m x ih =>
    rw [← List.append_assoc, be_snoc, be_snoc, ih]
    simp only [List.length_append, List.length_singleton, Nat.pow_succ]
    rw [Nat.add_mul, Nat.mul_assoc]
    omega
@[simp] theorem toBE_length : ∀ (n v : Nat), (toBE n v).length = n
  | 0, _ => rfl
  | n + 1, v => by simp [toBE, toBE_length n]
theorem be_toBE : ∀ (n v : Nat), be (toBE n v) = v % 256 ^ n
  | 0, v => by simp [toBE, Nat.mod_one]
  | n + 1, v => by
    simp only [toBE, be_snoc, be_toBE n, UInt8.toNat_ofNat']
    have h : 256 ^ (n + 1) = 256 * 256 ^ n := by rw [Nat.pow_succ, Nat.mul_comm]
    rw [h, Nat.mod_mul]
    omega
theorem toBE_be : ∀ (n : Nat) (l : List UInt8), l.length = n → toBE n (be l) = l
  | 0, l, h => by rw [List.length_eq_zero_iff.1 h]; rfl
  | n + 1, l, h => by
    rcases List.eq_nil_or_concat l with rfl | ⟨m, x, rfl⟩
    · simp at h
    · simp only [List.concat_eq_append] at h ⊢
      have hx := x.toNat_lt
      have h1 : (be m * 256 + x.toNat) / 256 = be m := by omega
      simp only [toBE, be_snoc, h1]
      rw [toBE_be n m (by simpa using h)]
      congr 2
      apply UInt8.toNat_inj.1
      simp only [UInt8.toNat_ofNat']
      omega
theorem toBE_mod (n v : Nat) : toBE n (v % 256 ^ n) = toBE n v := by
  have h := toBE_be n (toBE n v) (toBE_length n v)
  rwa [be_toBE] at h
theorem toBE_inj {n v w : Nat} (hv : v < 256 ^ n) (hw : w < 256 ^ n) (h : toBE n v = toBE n w) : v = w := by
  have h1 := be_toBE n v
  have h2 := be_toBE n w
  rw [h] at h1
  rw [Nat.mod_eq_of_lt hv] at h1
  rw [Nat.mod_eq_of_lt hw] at h2
  omega
theorem be_inj {l m : List UInt8} (hl : l.length = m.length) (h : be l = be m) : l = m := by
  rw [← toBE_be l.length l rfl, h, hl, toBE_be m.length m rfl]
theorem toBE_cons : ∀ (n v : Nat), toBE (n + 1) v = UInt8.ofNat (v / 256 ^ n) :: toBE n v
  | 0, v => by simp [toBE]
  | n + 1, v => by
    rw [toBE, toBE_cons n, toBE]
    simp only [List.cons_append, Nat.pow_succ, Nat.div_div_eq_div_mul]
    rw [Nat.mul_comm]
theorem or_add (a k b : Nat) (h : b < 2 ^ k) : a * 2 ^ k ||| b = a * 2 ^ k + b := by
  rw [← Nat.shiftLeft_eq, Nat.shiftLeft_add_eq_or_of_lt h]
theorem be_take_succ (l : List UInt8) (i : Nat) (h : i < l.length) : be (l.take (i + 1)) = be (l.take i) * 256 + (l.getD i 0).toNat := by
  rw [List.take_succ_eq_append_getElem h, be_snoc]
  simp [List.getD, h]
theorem be_take_lt (l : List UInt8) (i : Nat) : be (l.take i) < 256 ^ i := by
  refine Nat.lt_of_lt_of_le (be_lt _) (Nat.pow_le_pow_right (by decide) ?_)
  simp
  omega
theorem be_lt8 {l : List UInt8} (h : l.length ≤ 8) : be l < 18446744073709551616 := Nat.lt_of_lt_of_le (be_lt l) (Nat.le_trans (Nat.pow_le_pow_right (by decide) h) (by decide))
theorem take_drop (l : List UInt8) (a n : Nat) : (l.take (a + n)).drop a = (l.drop a).take n := by
  rw [List.drop_take, Nat.add_sub_cancel_left]
/-- As a signed number of n bytes. -/
def sgn (n : Nat) (v : Nat) : Int := if v < 2 ^ (8 * n - 1) then v else (v : Int) - 2 ^ (8 * n)
end Go.Plain

/-
  Plain: the fixed header of a packet.
-/
namespace Go.Plain
structure Hd where
  pad : Bool
  ext : Bool
  mark : Bool
  typ : Int
  seq : Nat
  time : Nat
  ssrc : Nat
  csrc : List Nat
  deriving DecidableEq
def Hd.zero : Hd := ⟨false, false, false, 0, 0, 0, 0, []⟩
def Hd.ok (h : Hd) : Prop := h.seq < 65536 ∧ h.time < 4294967296 ∧ h.ssrc < 4294967296 ∧ ∀ c ∈ h.csrc, c < 4294967296
def Hd.right (h : Hd) : Prop := 0 ≤ h.typ ∧ h.typ < 128 ∧ h.csrc.length < 16
instance (h : Hd) : Decidable h.right := by unfold Hd.right; exact inferInstance
def Hd.first (h : Hd) : Nat := 128 + 32 * h.pad.toNat + 16 * h.ext.toNat + h.csrc.length
def Hd.second (h : Hd) : Nat := 128 * h.mark.toNat + h.typ.toNat
def words (l : List Nat) : List UInt8 := (l.map (toBE 4)).flatten
def Hd.bytes (h : Hd) : List UInt8 := UInt8.ofNat h.first :: UInt8.ofNat h.second :: (toBE 2 h.seq ++ (toBE 4 h.time ++ (toBE 4 h.ssrc ++ words h.csrc)))
def at_ (b : List UInt8) (i : Nat) : Nat := (b.getD i 0).toNat
def num (b : List UInt8) (i n : Nat) : Nat := be ((b.drop i).take n)
def Hd.of (b : List UInt8) : Hd :=
  { pad := decide (at_ b 0 / 32 % 2 = 1), ext := decide (at_ b 0 / 16 % 2 = 1), mark := decide (128 ≤ at_ b 1), typ := ((at_ b 1 % 128 : Nat) : Int), seq := num b 2 2, time := num b 4 4, ssrc := num b 8 4,
    csrc := (List.range (at_ b 0 % 16)).map fun i => num b (12 + 4 * i) 4 }
def hdE (b : List UInt8) : Int := if b.length < 12 then 2 else if at_ b 0 / 64 ≠ 2 then 3 else if b.length < 12 + 4 * (at_ b 0 % 16) then 2 else 0
def hdN (b : List UInt8) : Nat := if hdE b = 0 then 12 + 4 * (at_ b 0 % 16) else 0
def hdH (b : List UInt8) : Hd := if hdE b = 0 then Hd.of b else Hd.zero
theorem hdE_zero {b : List UInt8} : hdE b = 0 ↔ 12 ≤ b.length ∧ at_ b 0 / 64 = 2 ∧ 12 + 4 * (at_ b 0 % 16) ≤ b.length := by
  unfold hdE
  split
  · simp; omega
  · split
    · simp; omega
    · split <;> simp <;> omega
theorem words_length (l : List Nat) : (words l).length = 4 * l.length := by
  induction l with
  | nil => rfl
  | cons x l ih => simp only [words, List.map_cons, List.flatten_cons, List.length_append, toBE_length, List.length_cons] at ih ⊢; omega
theorem Hd.bytes_length (h : Hd) : h.bytes.length = 12 + 4 * h.csrc.length := by
  simp [Hd.bytes, words_length]; omega
theorem at_lt (b : List UInt8) (i : Nat) : at_ b i < 256 := UInt8.toNat_lt _
theorem num_lt (b : List UInt8) (i n : Nat) : num b i n < 256 ^ n := be_take_lt _ _
theorem num_app {a b c : List UInt8} {n : Nat} (h : b.length = n) : num (a ++ (b ++ c)) a.length n = be b := by
  simp only [num]
  rw [List.drop_append, List.drop_of_length_le (Nat.le_refl _)]
  simp [← h]
theorem num_drop (a b : List UInt8) (i n : Nat) : num (a ++ b) (a.length + i) n = num b i n := by
  simp only [num]
  rw [← List.drop_drop, List.drop_left]
theorem words_num : ∀ (l : List Nat) (r : List UInt8), (∀ c ∈ l, c < 4294967296) → ((List.range l.length).map fun i => num (words l ++ r) (4 * i) 4) = l
  | [], _, _ => rfl
  | x :: l, r, h => by
    have h1 := h x (by simp)
    rw [List.length_cons, List.range_succ_eq_map, List.map_cons, List.map_map]
    have e1 : num (words (x :: l) ++ r) (4 * 0) 4 = x := by
      have := num_app (a := []) (b := toBE 4 x) (c := words l ++ r) (n := 4) (toBE_length _ _)
      simp only [words, List.map_cons, List.flatten_cons, List.append_assoc] at this ⊢
      simp only [List.nil_append, List.length_nil] at this
      rw [Nat.mul_zero, this, be_toBE]
      omega
    have e2 : ((fun i => num (words (x :: l) ++ r) (4 * i) 4) ∘ Nat.succ) = fun i => num (words l ++ r) (4 * i) 4 := by
      funext i
      have := num_drop (toBE 4 x) (words l ++ r) (4 * i) 4
      rw [toBE_length] at this
      simp only [Function.comp, words, List.map_cons, List.flatten_cons, List.append_assoc] at this ⊢
      rw [← this]
      congr 1
      omega
    rw [e1, e2, words_num l r (fun c hc => h c (by simp [hc]))]
theorem num_at {b : List UInt8} {i n : Nat} (h : i + n ≤ b.length) : toBE n (num b i n) = (b.drop i).take n := by
  apply toBE_be
  simp; omega
/-- A header is read from its bytes as it was. -/
theorem Hd.back (h : Hd) (hr : h.right) (ho : h.ok) (r : List UInt8) : hdE (h.bytes ++ r) = 0 ∧ Hd.of (h.bytes ++ r) = h ∧ at_ (h.bytes ++ r) 0 % 16 = h.csrc.length := by
  obtain ⟨r1, r2, r3⟩ := hr
  obtain ⟨o1, o2, o3, o4⟩ := ho
  have a0 : at_ (h.bytes ++ r) 0 = h.first := by
    simp only [at_, Hd.bytes, List.cons_append, List.getD_cons_zero, UInt8.toNat_ofNat']
    apply Nat.mod_eq_of_lt
    simp only [Hd.first]
    cases h.pad <;> cases h.ext <;> simp <;> omega
  have a1 : at_ (h.bytes ++ r) 1 = h.second := by
    simp only [at_, Hd.bytes, List.cons_append, List.getD_cons_succ, List.getD_cons_zero, UInt8.toNat_ofNat']
    apply Nat.mod_eq_of_lt
    simp only [Hd.second]
    cases h.mark <;> simp <;> omega
  have hn : at_ (h.bytes ++ r) 0 % 16 = h.csrc.length := by
    rw [a0]
    simp only [Hd.first]
    cases h.pad <;> cases h.ext <;> simp <;> omega
  refine ⟨?_, ?_, hn⟩
  · rw [hdE_zero, hn, List.length_append, Hd.bytes_length, a0]
    refine ⟨by omega, ?_, by omega⟩
    simp only [Hd.first]
    cases h.pad <;> cases h.ext <;> simp <;> omega
  · have s1 : num (h.bytes ++ r) 2 2 = h.seq := by
      have := num_app (a := [UInt8.ofNat h.first, UInt8.ofNat h.second]) (b := toBE 2 h.seq) (c := toBE 4 h.time ++ (toBE 4 h.ssrc ++ (words h.csrc ++ r))) (n := 2) (toBE_length _ _)
      rw [be_toBE, Nat.mod_eq_of_lt (by omega)] at this
      rw [← this]
      simp [Hd.bytes]
    have s2 : num (h.bytes ++ r) 4 4 = h.time := by
      have := num_app (a := [UInt8.ofNat h.first, UInt8.ofNat h.second] ++ toBE 2 h.seq) (b := toBE 4 h.time) (c := toBE 4 h.ssrc ++ (words h.csrc ++ r)) (n := 4) (toBE_length _ _)
      rw [be_toBE, Nat.mod_eq_of_lt (by omega)] at this
      rw [← this]
      simp [Hd.bytes]
    have s3 : num (h.bytes ++ r) 8 4 = h.ssrc := by
      have := num_app (a := [UInt8.ofNat h.first, UInt8.ofNat h.second] ++ (toBE 2 h.seq ++ toBE 4 h.time)) (b := toBE 4 h.ssrc) (c := words h.csrc ++ r) (n := 4) (toBE_length _ _)
      rw [be_toBE, Nat.mod_eq_of_lt (by omega)] at this
      rw [← this]
      simp [Hd.bytes]
    have s4 : ((List.range (at_ (h.bytes ++ r) 0 % 16)).map fun i => num (h.bytes ++ r) (12 + 4 * i) 4) = h.csrc := by
      rw [hn]
      have e : (fun i => num (h.bytes ++ r) (12 + 4 * i) 4) = fun i => num (words h.csrc ++ r) (4 * i) 4 := by
        funext i
        have := num_drop ([UInt8.ofNat h.first, UInt8.ofNat h.second] ++ (toBE 2 h.seq ++ (toBE 4 h.time ++ toBE 4 h.ssrc))) (words h.csrc ++ r) (4 * i) 4
        rw [← this]
        simp [Hd.bytes]
      rw [e]
      exact words_num _ _ o4
    have p1 : (h.first / 32 % 2 = 1) = (h.pad = true) := by
      simp only [Hd.first]
      cases h.pad <;> cases h.ext <;> simp <;> omega
    have p2 : (h.first / 16 % 2 = 1) = (h.ext = true) := by
      simp only [Hd.first]
      cases h.pad <;> cases h.ext <;> simp <;> omega
    have p3 : (128 ≤ h.second) = (h.mark = true) := by
      simp only [Hd.second]
      cases h.mark <;> simp <;> omega
    have p4 : ((h.second % 128 : Nat) : Int) = h.typ := by
      simp only [Hd.second]
      cases h.mark <;> simp <;> omega
    rw [hn] at s4
    simp only [Hd.of, hn, s1, s2, s3, s4]
    rw [a0, a1]
    simp only [p1, p2, p3, p4, Bool.decide_eq_true]
theorem take_cons2 (b : List UInt8) (h : 12 ≤ b.length) : b = UInt8.ofNat (at_ b 0) :: UInt8.ofNat (at_ b 1) :: b.drop 2 := by
  match b, h with
  | x :: y :: l, _ =>
    simp [at_]
theorem words_take (b : List UInt8) : ∀ n : Nat, 4 * n ≤ b.length → words ((List.range n).map fun i => num b (4 * i) 4) = b.take (4 * n)
  | 0, _ => by simp [words]
  | n + 1, h => by
    rw [List.range_succ, List.map_append]
    have e : words (((List.range n).map fun i => num b (4 * i) 4) ++ [num b (4 * n) 4]) = words ((List.range n).map fun i => num b (4 * i) 4) ++ toBE 4 (num b (4 * n) 4) := by
      simp [words]
    simp only [List.map_cons, List.map_nil]
    rw [e, words_take b n (by omega), num_at (by omega), Nat.mul_succ, List.take_add]
/-- What is read has just the bytes that it was read from. -/
theorem Hd.same (b : List UInt8) (h : hdE b = 0) : (Hd.of b).right ∧ (Hd.of b).ok ∧ (Hd.of b).csrc.length = at_ b 0 % 16 ∧ (Hd.of b).bytes = b.take (12 + 4 * (at_ b 0 % 16)) := by
  have hz := hdE_zero.1 h
  have h0 := at_lt b 0
  have h1 := at_lt b 1
  have hl : (Hd.of b).csrc.length = at_ b 0 % 16 := by simp [Hd.of]
  refine ⟨?_, ?_, hl, ?_⟩
  · have e : (Hd.of b).typ = ((at_ b 1 % 128 : Nat) : Int) := rfl
    refine ⟨by omega, by omega, by rw [hl]; omega⟩
  · refine ⟨num_lt _ _ 2, num_lt _ _ 4, num_lt _ _ 4, ?_⟩
    intro c hc
    simp only [Hd.of, List.mem_map] at hc
    obtain ⟨i, _, rfl⟩ := hc
    exact num_lt _ _ 4
  · have f1 : (Hd.of b).first = at_ b 0 := by
      simp only [Hd.first, hl]
      have e1 : (Hd.of b).pad = decide (at_ b 0 / 32 % 2 = 1) := rfl
      have e2 : (Hd.of b).ext = decide (at_ b 0 / 16 % 2 = 1) := rfl
      rw [e1, e2]
      by_cases q1 : at_ b 0 / 32 % 2 = 1 <;> by_cases q2 : at_ b 0 / 16 % 2 = 1 <;> simp [q1, q2] <;> omega
    have f2 : (Hd.of b).second = at_ b 1 := by
      simp only [Hd.second]
      have e1 : (Hd.of b).mark = decide (128 ≤ at_ b 1) := rfl
      have e2 : (Hd.of b).typ = ((at_ b 1 % 128 : Nat) : Int) := rfl
      rw [e1, e2]
      by_cases q1 : 128 ≤ at_ b 1 <;> simp [q1] <;> omega
    have g1 : toBE 2 (Hd.of b).seq = (b.drop 2).take 2 := num_at (by omega)
    have g2 : toBE 4 (Hd.of b).time = (b.drop 4).take 4 := num_at (by omega)
    have g3 : toBE 4 (Hd.of b).ssrc = (b.drop 8).take 4 := num_at (by omega)
    have g4 : words (Hd.of b).csrc = (b.drop 12).take (4 * (at_ b 0 % 16)) := by
      rw [← words_take (b.drop 12) (at_ b 0 % 16) (by simp; omega)]
      congr 1
      simp only [Hd.of]
      apply List.map_congr_left
      intro i _
      simp [num, List.drop_drop]
    rw [Hd.bytes, f1, f2, g1, g2, g3, g4]
    have cut4 : ∀ (n m : Nat) (l : List UInt8), (l.drop n).take m ++ (l.drop (n + m)) = l.drop n := by
      intro n m l
      rw [← List.drop_drop, List.take_append_drop]
    have e5 : (12 + 4 * (at_ b 0 % 16)) = 2 + (2 + (4 + (4 + 4 * (at_ b 0 % 16)))) := by omega
    generalize hm : 4 * (at_ b 0 % 16) = m at *
    have hb := take_cons2 b hz.1
    have e6 : b.take (2 + (2 + (4 + (4 + m)))) = UInt8.ofNat (at_ b 0) :: UInt8.ofNat (at_ b 1) :: (b.drop 2).take (2 + (4 + (4 + m))) := by
      conv => lhs; rw [hb]
      rw [show 2 + (2 + (4 + (4 + m))) = (2 + (4 + (4 + m))) + 1 + 1 by omega, List.take_succ_cons, List.take_succ_cons]
    rw [e5, e6]
    have tk : ∀ (n m k : Nat), ((b.drop k).take (n + m)) = (b.drop k).take n ++ (b.drop (k + n)).take m := by
      intro n m k
      rw [List.take_add, List.drop_drop]
    rw [tk 2 _ 2, tk 4 _ 4, tk 4 _ 8]
/-- Cut anywhere, it is too short. -/
theorem Hd.cut (h : Hd) (hr : h.right) (ho : h.ok) (k : Nat) (hk : k < h.bytes.length) : hdE (h.bytes.take k) = 2 := by
  have hb := Hd.back h hr ho []
  rw [List.append_nil] at hb
  have hz := hdE_zero.1 hb.1
  have hl := h.bytes_length
  unfold hdE
  rw [List.length_take, Nat.min_eq_left (Nat.le_of_lt hk)]
  split
  · rfl
  · rename_i h12
    have a0 : at_ (h.bytes.take k) 0 = at_ h.bytes 0 := by
      simp only [at_, List.getD_eq_getElem?_getD]
      rw [List.getElem?_take, if_pos (by omega)]
    rw [a0, if_neg (by omega), if_pos (by omega)]
theorem Hd.inj {h k : Hd} (hr : h.right) (ho : h.ok) (kr : k.right) (ko : k.ok) (e : h.bytes = k.bytes) : h = k := by
  have h1 := (Hd.back h hr ho []).2.1
  have h2 := (Hd.back k kr ko []).2.1
  rw [← h1, ← h2, e]
end Go.Plain

/-
  Plain: elements of a header extension.
-/
namespace Go.Plain
structure El where
  id : Int
  data : List UInt8
deriving DecidableEq
def El.zero : El := ⟨0, []⟩
def elIds (l : List El) : List Int := l.map (·.id)
/-- The j-th one is right, and unlike those ahead. -/
def elAt (l : List El) (j : Nat) : Prop := 1 ≤ (l.getD j El.zero).id ∧ (l.getD j El.zero).id ≤ 255 ∧ (l.getD j El.zero).data.length ≤ 255 ∧ (l.getD j El.zero).id ∉ elIds (l.take j)
instance (l : List El) (j : Nat) : Decidable (elAt l j) := by unfold elAt; exact inferInstance
def elRight (l : List El) : Prop := ∀ j, j < l.length → elAt l j
instance (l : List El) : Decidable (elRight l) := by unfold elRight; exact inferInstance
/-- Where an element stands. -/
structure Sp where
  id : Nat
  pos : Nat
  size : Nat
deriving DecidableEq
def Sp.zero : Sp := ⟨0, 0, 0⟩
/-- The element that begins at a place, in the narrower form or the wider one. -/
def spAt (nar : Bool) (b : List UInt8) (p : Nat) : Sp := if nar then ⟨at_ b p / 16, p + 1, at_ b p % 16 + 1⟩ else ⟨at_ b p, p + 2, at_ b (p + 1)⟩
def spIds (l : List Sp) : List Nat := l.map (·.id)
theorem spAt_far (nar : Bool) (b : List UInt8) (p : Nat) : p < (spAt nar b p).pos + (spAt nar b p).size := by
  unfold spAt
  split <;> simp only <;> omega
/-- Through the data, from a place on, some having come. -/
def wk (nar : Bool) (b : List UInt8) (p : Nat) (out : List Sp) : List Sp × Int :=
  if h : p < b.length then
    if at_ b p = 0 then wk nar b (p + 1) out
    else if nar = true ∧ (at_ b p / 16 = 15 ∨ at_ b p / 16 = 0) then (out, 0)
    else if nar = false ∧ b.length ≤ p + 1 then ([], 4)
    else if b.length < (spAt nar b p).pos + (spAt nar b p).size then ([], 4)
    else if (spAt nar b p).id ∈ spIds out then ([], 6)
    else wk nar b ((spAt nar b p).pos + (spAt nar b p).size) (out ++ [spAt nar b p])
  else (out, 0)
termination_by b.length - p
decreasing_by
  · omega
  · have := spAt_far nar b p
    omega
theorem wk_end {nar : Bool} {b : List UInt8} {p : Nat} {out : List Sp} (h : ¬ p < b.length) : wk nar b p out = (out, 0) := by rw [wk, dif_neg h]
theorem wk_zero {nar : Bool} {b : List UInt8} {p : Nat} {out : List Sp} (h : p < b.length) (h0 : at_ b p = 0) : wk nar b p out = wk nar b (p + 1) out := by rw [wk, dif_pos h, if_pos h0]
theorem wk_stop {nar : Bool} {b : List UInt8} {p : Nat} {out : List Sp} (h : p < b.length) (h0 : ¬ at_ b p = 0) (h1 : nar = true ∧ (at_ b p / 16 = 15 ∨ at_ b p / 16 = 0)) : wk nar b p out = (out, 0) := by rw [wk, dif_pos h, if_neg h0, if_pos h1]
theorem wk_short {nar : Bool} {b : List UInt8} {p : Nat} {out : List Sp} (h : p < b.length) (h0 : ¬ at_ b p = 0) (h1 : ¬ (nar = true ∧ (at_ b p / 16 = 15 ∨ at_ b p / 16 = 0))) (h2 : nar = false ∧ b.length ≤ p + 1) : wk nar b p out = ([], 4) := by
  rw [wk, dif_pos h, if_neg h0, if_neg h1, if_pos h2]
theorem wk_long {nar : Bool} {b : List UInt8} {p : Nat} {out : List Sp} (h : p < b.length) (h0 : ¬ at_ b p = 0) (h1 : ¬ (nar = true ∧ (at_ b p / 16 = 15 ∨ at_ b p / 16 = 0))) (h2 : ¬ (nar = false ∧ b.length ≤ p + 1))
    (h3 : b.length < (spAt nar b p).pos + (spAt nar b p).size) : wk nar b p out = ([], 4) := by
  rw [wk, dif_pos h, if_neg h0, if_neg h1, if_neg h2, if_pos h3]
theorem wk_twice {nar : Bool} {b : List UInt8} {p : Nat} {out : List Sp} (h : p < b.length) (h0 : ¬ at_ b p = 0) (h1 : ¬ (nar = true ∧ (at_ b p / 16 = 15 ∨ at_ b p / 16 = 0))) (h2 : ¬ (nar = false ∧ b.length ≤ p + 1))
    (h3 : ¬ b.length < (spAt nar b p).pos + (spAt nar b p).size) (h4 : (spAt nar b p).id ∈ spIds out) : wk nar b p out = ([], 6) := by
  rw [wk, dif_pos h, if_neg h0, if_neg h1, if_neg h2, if_neg h3, if_pos h4]
theorem wk_step {nar : Bool} {b : List UInt8} {p : Nat} {out : List Sp} (h : p < b.length) (h0 : ¬ at_ b p = 0) (h1 : ¬ (nar = true ∧ (at_ b p / 16 = 15 ∨ at_ b p / 16 = 0))) (h2 : ¬ (nar = false ∧ b.length ≤ p + 1))
    (h3 : ¬ b.length < (spAt nar b p).pos + (spAt nar b p).size) (h4 : ¬ (spAt nar b p).id ∈ spIds out) : wk nar b p out = wk nar b ((spAt nar b p).pos + (spAt nar b p).size) (out ++ [spAt nar b p]) := by
  rw [wk, dif_pos h, if_neg h0, if_neg h1, if_neg h2, if_neg h3, if_neg h4]
end Go.Plain
