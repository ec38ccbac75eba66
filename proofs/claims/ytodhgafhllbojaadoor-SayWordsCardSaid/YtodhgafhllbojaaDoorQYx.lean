/-
  Plain: a plan's words are read as the plan: by the reader's groups, and by the reference's.
-/
import Derived.Test.YtodhgafhllbojaaDoorQYt
import Derived.Test.YtodhgafhllbojaaDoorQYw
set_option maxRecDepth 100000
namespace Go.Vc
open Go Go.Proofs Go.Plain
open Go.Lib (decDigits nDigits)
abbrev Wds := List (List UInt8)
def iter (f : Pl → Wds → Option (Pl × Wds)) : Nat → Pl → Wds → Option Pl
  | 0, p, ws => if ws = [] then some p else none
  | k + 1, p, ws => if ws = [] then some p else match f p ws with | none => none | some x => iter f k x.1 x.2
theorem iter_nil (f : Pl → Wds → Option (Pl × Wds)) (k : Nat) (p : Pl) : iter f k p [] = some p := by cases k <;> rfl
theorem iter_some {f : Pl → Wds → Option (Pl × Wds)} {k : Nat} {p q : Pl} {ws r : Wds} (h : ws ≠ []) (hf : f p ws = some (q, r)) : iter f (k + 1) p ws = iter f k q r := by rw [iter, if_neg h, hf]
theorem iter_none {f : Pl → Wds → Option (Pl × Wds)} {k : Nat} {p : Pl} {ws : Wds} (h : ws ≠ []) (hf : f p ws = none) : iter f (k + 1) p ws = none := by rw [iter, if_neg h, hf]
def Runs (f : Pl → Wds → Option (Pl × Wds)) (p : Pl) (ws : Wds) (q : Pl) (r : Wds) : Prop := ∃ n, r.length + n ≤ ws.length ∧ ∀ k, iter f (n + k) p ws = iter f k q r
theorem Runs.refl (f : Pl → Wds → Option (Pl × Wds)) (p : Pl) (ws : Wds) : Runs f p ws p ws := ⟨0, by omega, fun k => by rw [Nat.zero_add]⟩
theorem Runs.trans {f : Pl → Wds → Option (Pl × Wds)} {p q s : Pl} {ws r t : Wds} (h : Runs f p ws q r) (g : Runs f q r s t) : Runs f p ws s t := by
  obtain ⟨n, h1, h2⟩ := h
  obtain ⟨m, g1, g2⟩ := g
  exact ⟨n + m, by omega, fun k => by rw [Nat.add_assoc, h2, g2]⟩
theorem Runs.step {f : Pl → Wds → Option (Pl × Wds)} {p q : Pl} {w : List UInt8} {ws r : Wds} (hf : f p (w :: ws) = some (q, r)) (hl : r.length ≤ ws.length) : Runs f p (w :: ws) q r :=
  ⟨1, by simp; omega, fun k => by rw [Nat.add_comm]; exact iter_some (by simp) hf⟩
structure Good (f : Pl → Wds → Option (Pl × Wds)) : Prop where
  marker : ∀ p (b : Bool) r, f p (wMarker :: (if b then wOn else wOff) :: r) = some ({ p with sm := true, m := b }, r)
  type : ∀ p (n : Int) r, 0 ≤ n → n ≤ 255 → f p (wType :: numI n :: r) = some ({ p with st := true, ty := n }, r)
  seq : ∀ p (n : Int) r, 0 ≤ n → n < 65536 → f p (wSeq :: numI n :: r) = some ({ p with sq := true, seq := n }, r)
  time : ∀ p (n : Int) r, 0 ≤ n → n < 4294967296 → f p (wTime :: numI n :: r) = some ({ p with stm := true, time := n }, r)
  ssrc : ∀ p (n : Int) r, 0 ≤ n → n < 4294967296 → f p (wSsrc :: numI n :: r) = some ({ p with ss := true, ssrc := n }, r)
  map : ∀ p (a b : Int) r, 0 ≤ a → a ≤ 255 → 0 ≤ b → b ≤ 255 → f p (wMap :: numI a :: numI b :: r) = some ({ p with maps := p.maps ++ [⟨a, b⟩] }, r)
  over : ∀ p (a : Int) d r, 0 ≤ a → a ≤ 255 → f p (wOver :: numI a :: qs d :: r) = some ({ p with over := p.over ++ [⟨a, d⟩] }, r)
  drop : ∀ p (a : Int) r, 0 ≤ a → a ≤ 255 → f p (wDrop :: numI a :: r) = some ({ p with drops := p.drops ++ [a] }, r)
  add : ∀ p (a : Int) d r, 0 ≤ a → a ≤ 255 → f p (wAdd :: numI a :: qs d :: r) = some ({ p with adds := p.adds ++ [⟨a, d⟩] }, r)
  nopad : ∀ p r, f p (wNopad :: r) = some ({ p with np := true }, r)
section
variable {f : Pl → Wds → Option (Pl × Wds)} (G : Good f)
include G
theorem runs_maps : ∀ (l pre : List Mp) (q : Pl) (r : Wds), q.maps = pre → (∀ m ∈ l, 1 ≤ m.fr ∧ m.fr ≤ 255 ∧ 1 ≤ m.to ∧ m.to ≤ 255) → Runs f q (tkM l ++ r) { q with maps := pre ++ l } r
  | [], pre, q, r, h, _ => by
    subst h
    rw [List.append_nil]
    exact Runs.refl f q r
  | m :: l, pre, q, r, h, hm => by
    subst h
    obtain ⟨m1, m2, m3, m4⟩ := hm m (by simp <;> omega)
    have ih := runs_maps l (q.maps ++ [m]) { q with maps := q.maps ++ [m] } r rfl (fun m hm2 => hm m (by simp [hm2]))
    rw [List.append_assoc] at ih
    refine Runs.trans ?_ ih
    rw [show tkM (m :: l) ++ r = wMap :: numI m.fr :: numI m.to :: (tkM l ++ r) from rfl]
    exact Runs.step (G.map q m.fr m.to _ (by omega) m2 (by omega) m4) (by simp <;> omega)
theorem runs_over : ∀ (l pre : List El) (q : Pl) (r : Wds), q.over = pre → (∀ m ∈ l, 1 ≤ m.id ∧ m.id ≤ 255) → Runs f q (tkE wOver l ++ r) { q with over := pre ++ l } r
  | [], pre, q, r, h, _ => by
    subst h
    rw [List.append_nil]
    exact Runs.refl f q r
  | m :: l, pre, q, r, h, hm => by
    subst h
    obtain ⟨m1, m2⟩ := hm m (by simp <;> omega)
    have ih := runs_over l (q.over ++ [m]) { q with over := q.over ++ [m] } r rfl (fun m hm2 => hm m (by simp [hm2]))
    rw [List.append_assoc] at ih
    refine Runs.trans ?_ ih
    rw [show tkE wOver (m :: l) ++ r = wOver :: numI m.id :: qs m.data :: (tkE wOver l ++ r) from rfl]
    exact Runs.step (G.over q m.id m.data _ (by omega) m2) (by simp <;> omega)
theorem runs_adds : ∀ (l pre : List El) (q : Pl) (r : Wds), q.adds = pre → (∀ m ∈ l, 1 ≤ m.id ∧ m.id ≤ 255) → Runs f q (tkE wAdd l ++ r) { q with adds := pre ++ l } r
  | [], pre, q, r, h, _ => by
    subst h
    rw [List.append_nil]
    exact Runs.refl f q r
  | m :: l, pre, q, r, h, hm => by
    subst h
    obtain ⟨m1, m2⟩ := hm m (by simp <;> omega)
    have ih := runs_adds l (q.adds ++ [m]) { q with adds := q.adds ++ [m] } r rfl (fun m hm2 => hm m (by simp [hm2]))
    rw [List.append_assoc] at ih
    refine Runs.trans ?_ ih
    rw [show tkE wAdd (m :: l) ++ r = wAdd :: numI m.id :: qs m.data :: (tkE wAdd l ++ r) from rfl]
    exact Runs.step (G.add q m.id m.data _ (by omega) m2) (by simp <;> omega)
theorem runs_drops : ∀ (l pre : List Int) (q : Pl) (r : Wds), q.drops = pre → (∀ m ∈ l, 1 ≤ m ∧ m ≤ 255) → Runs f q (tkD l ++ r) { q with drops := pre ++ l } r
  | [], pre, q, r, h, _ => by
    subst h
    rw [List.append_nil]
    exact Runs.refl f q r
  | m :: l, pre, q, r, h, hm => by
    subst h
    obtain ⟨m1, m2⟩ := hm m (by simp <;> omega)
    have ih := runs_drops l (q.drops ++ [m]) { q with drops := q.drops ++ [m] } r rfl (fun m hm2 => hm m (by simp [hm2]))
    rw [List.append_assoc] at ih
    refine Runs.trans ?_ ih
    rw [show tkD (m :: l) ++ r = wDrop :: numI m :: (tkD l ++ r) from rfl]
    exact Runs.step (G.drop q m _ (by omega) m2) (by simp <;> omega)
theorem runs_toks (p : Pl) (hp : plRight p) (hn : plNum p) : Runs f Pl.zero (toks p) p [] := by
  obtain ⟨⟨f1, f2, f3, f4, f5, t0, t1⟩, r1, r2, r3, r4, r5, _⟩ := hp
  obtain ⟨n1, n2, n3, n4, n5, n6⟩ := hn
  have hm : ∀ m ∈ p.maps, 1 ≤ m.fr ∧ m.fr ≤ 255 ∧ 1 ≤ m.to ∧ m.to ≤ 255 := fun m hm => by
    have a1 := ids_lt r1 m.fr (List.mem_map.2 ⟨m, hm, rfl⟩)
    have a2 := ids_lt r2 m.to (List.mem_map.2 ⟨m, hm, rfl⟩)
    exact ⟨a1.1, a1.2, a2.1, a2.2⟩
  have ho : ∀ m ∈ p.over, 1 ≤ m.id ∧ m.id ≤ 255 := fun m hm => ⟨(els_lt r4 m hm).1, (els_lt r4 m hm).2.1⟩
  have ha : ∀ m ∈ p.adds, 1 ≤ m.id ∧ m.id ≤ 255 := fun m hm => ⟨(els_lt r5 m hm).1, (els_lt r5 m hm).2.1⟩
  have hd := ids_lt r3
  obtain ⟨sm, m, st, ty, sq, seq, stm, time, ss, ssrc, maps, over, drops, adds, np⟩ := p
  simp only at *
  have s1 : ∀ r, Runs f Pl.zero (tk1 ⟨sm, m, st, ty, sq, seq, stm, time, ss, ssrc, maps, over, drops, adds, np⟩ ++ r) ⟨sm, m, false, 0, false, 0, false, 0, false, 0, [], [], [], [], false⟩ r := by
    intro r
    unfold tk1
    cases sm with
    | true => exact Runs.step (G.marker Pl.zero m r) (by simp <;> omega)
    | false =>
      obtain rfl : m = false := by simpa using f1
      exact Runs.refl _ _ _
  have s2 : ∀ r, Runs f ⟨sm, m, false, 0, false, 0, false, 0, false, 0, [], [], [], [], false⟩ (tk2 ⟨sm, m, st, ty, sq, seq, stm, time, ss, ssrc, maps, over, drops, adds, np⟩ ++ r) ⟨sm, m, st, ty, false, 0, false, 0, false, 0, [], [], [], [], false⟩ r := by
    intro r
    unfold tk2
    cases st with
    | true => exact Runs.step (G.type _ ty r t0 (by omega)) (by simp <;> omega)
    | false =>
      obtain rfl : ty = 0 := by simpa using f2
      exact Runs.refl _ _ _
  have s3 : ∀ r, Runs f ⟨sm, m, st, ty, false, 0, false, 0, false, 0, [], [], [], [], false⟩ (tk3 ⟨sm, m, st, ty, sq, seq, stm, time, ss, ssrc, maps, over, drops, adds, np⟩ ++ r) ⟨sm, m, st, ty, sq, seq, false, 0, false, 0, [], [], [], [], false⟩ r := by
    intro r
    unfold tk3
    cases sq with
    | true => exact Runs.step (G.seq _ seq r n1 n2) (by simp <;> omega)
    | false =>
      obtain rfl : seq = 0 := by simpa using f3
      exact Runs.refl _ _ _
  have s4 : ∀ r, Runs f ⟨sm, m, st, ty, sq, seq, false, 0, false, 0, [], [], [], [], false⟩ (tk4 ⟨sm, m, st, ty, sq, seq, stm, time, ss, ssrc, maps, over, drops, adds, np⟩ ++ r) ⟨sm, m, st, ty, sq, seq, stm, time, false, 0, [], [], [], [], false⟩ r := by
    intro r
    unfold tk4
    cases stm with
    | true => exact Runs.step (G.time _ time r n3 n4) (by simp <;> omega)
    | false =>
      obtain rfl : time = 0 := by simpa using f4
      exact Runs.refl _ _ _
  have s5 : ∀ r, Runs f ⟨sm, m, st, ty, sq, seq, stm, time, false, 0, [], [], [], [], false⟩ (tk5 ⟨sm, m, st, ty, sq, seq, stm, time, ss, ssrc, maps, over, drops, adds, np⟩ ++ r) ⟨sm, m, st, ty, sq, seq, stm, time, ss, ssrc, [], [], [], [], false⟩ r := by
    intro r
    unfold tk5
    cases ss with
    | true => exact Runs.step (G.ssrc _ ssrc r n5 n6) (by simp <;> omega)
    | false =>
      obtain rfl : ssrc = 0 := by simpa using f5
      exact Runs.refl _ _ _
  unfold toks
  refine (s1 _).trans ((s2 _).trans ((s3 _).trans ((s4 _).trans ((s5 _).trans ?_))))
  refine (runs_maps G maps [] _ _ rfl hm).trans ?_
  refine (runs_over G over [] _ _ rfl ho).trans ?_
  refine (runs_drops G drops [] _ _ rfl hd).trans ?_
  refine (runs_adds G adds [] _ _ rfl ha).trans ?_
  unfold tkN
  cases np with
  | true => exact Runs.step (G.nopad _ []) (by simp <;> omega)
  | false => exact Runs.refl _ _ _
theorem iter_toks (p : Pl) (hp : plRight p) (hn : plNum p) : iter f (toks p).length Pl.zero (toks p) = some p := by
  obtain ⟨n, h1, h2⟩ := runs_toks G p hp hn
  have := h2 ((toks p).length - n)
  rw [iter_nil, show n + ((toks p).length - n) = (toks p).length by simp at h1; omega] at this
  exact this
end
/-- A plan that a text says, by a reader of words. -/
def parseBy (f : Pl → Wds → Option (Pl × Wds)) (s : List UInt8) : Option Pl :=
  if s = [] then some Pl.zero else
    match wordsL s with
    | none => none
    | some ws => match iter f ws.length Pl.zero ws with
      | none => none
      | some p => if plRight p ∧ printL p = s then some p else none
theorem joinSp_nil : ∀ {ts : Wds}, (∀ w ∈ ts, w ≠ []) → joinSp ts = [] → ts = []
  | [], _, _ => rfl
  | [w], h, h2 => absurd h2 (h w (by simp))
  | w :: v :: r, _, h2 => by simp [joinSp] at h2
theorem zero_right : plRight Pl.zero ∧ plNum Pl.zero ∧ printL Pl.zero = [] := ⟨by decide, by decide, rfl⟩
theorem toks_nil {p : Pl} (hp : plRight p) (h : toks p = []) : p = Pl.zero := by
  obtain ⟨⟨f1, f2, f3, f4, f5, t0, t1⟩, _⟩ := hp
  unfold toks at h
  simp only [List.append_eq_nil_iff] at h
  obtain ⟨h1, h2, h3, h4, h5, h6, h7, h8, h9, h10⟩ := h
  obtain ⟨sm, m, st, ty, sq, seq, stm, time, ss, ssrc, maps, over, drops, adds, np⟩ := p
  unfold tk1 at h1
  unfold tk2 at h2
  unfold tk3 at h3
  unfold tk4 at h4
  unfold tk5 at h5
  unfold tkN at h10
  cases sm <;> simp at h1
  cases st <;> simp at h2
  cases sq <;> simp at h3
  cases stm <;> simp at h4
  cases ss <;> simp at h5
  cases np <;> simp at h10
  obtain rfl : maps = [] := by cases maps with | nil => rfl | cons a l => simp [tkM] at h6
  obtain rfl : over = [] := by cases over with | nil => rfl | cons a l => simp [tkE] at h7
  obtain rfl : drops = [] := by cases drops with | nil => rfl | cons a l => simp [tkD] at h8
  obtain rfl : adds = [] := by cases adds with | nil => rfl | cons a l => simp [tkE] at h9
  obtain rfl : m = false := by simpa using f1
  obtain rfl : ty = 0 := by simpa using f2
  obtain rfl : seq = 0 := by simpa using f3
  obtain rfl : time = 0 := by simpa using f4
  obtain rfl : ssrc = 0 := by simpa using f5
  rfl
theorem print_nil {p : Pl} (hp : plRight p) (hn : plNum p) (h : printL p = []) : p = Pl.zero :=
  toks_nil hp (joinSp_nil (fun w hw => isWord_ne (toks_word hp hn w hw)) h)
theorem print_words {p : Pl} (hp : plRight p) (hn : plNum p) (h : printL p ≠ []) : wordsL (printL p) = some (toks p) ∧ wordsL (printL p ++ [32]) = none := by
  have hne : toks p ≠ [] := fun e => h (by unfold printL; rw [e]; rfl)
  have := words_of (toks p) hne (toks_word hp hn)
  exact ⟨this.1, this.2.1⟩
theorem iter_num {f : Pl → Wds → Option (Pl × Wds)} (hf : ∀ p ws q r, f p ws = some (q, r) → plNum p → plNum q) : ∀ (k : Nat) (p : Pl) (ws : Wds) (q : Pl), iter f k p ws = some q → plNum p → plNum q
  | 0, p, ws, q, h, hp => by
    unfold iter at h
    split at h
    · cases h; exact hp
    · cases h
  | k + 1, p, ws, q, h, hp => by
    unfold iter at h
    split at h
    · cases h; exact hp
    · split at h
      · cases h
      · rename_i x hx
        exact iter_num hf k x.1 x.2 q h (hf p ws x.1 x.2 hx hp)
theorem parse_iff {f : Pl → Wds → Option (Pl × Wds)} (G : Good f) (hf : ∀ p ws q r, f p ws = some (q, r) → plNum p → plNum q) (s : List UInt8) (p : Pl) : parseBy f s = some p ↔ plRight p ∧ plNum p ∧ printL p = s := by
  constructor
  · intro h
    unfold parseBy at h
    split at h
    · rename_i hs
      subst hs
      cases h
      exact zero_right
    · split at h
      · cases h
      · split at h
        · cases h
        · rename_i q hq
          split at h
          · rename_i hr
            cases h
            exact ⟨hr.1, iter_num hf _ _ _ _ hq zero_right.2.1, hr.2⟩
          · cases h
  · rintro ⟨hp, hn, rfl⟩
    unfold parseBy
    split
    · rename_i hs
      rw [print_nil hp hn hs]
    · rename_i hs
      rw [(print_words hp hn hs).1]
      simp only [iter_toks G p hp hn]
      rw [if_pos ⟨hp, trivial⟩]
theorem parse_eq {f g : Pl → Wds → Option (Pl × Wds)} (G : Good f) (hf : ∀ p ws q r, f p ws = some (q, r) → plNum p → plNum q) (G2 : Good g) (hg : ∀ p ws q r, g p ws = some (q, r) → plNum p → plNum q) (s : List UInt8) : parseBy f s = parseBy g s :=
  Option.ext fun p => (parse_iff G hf s p).trans (parse_iff G2 hg s p).symm
end Go.Vc
