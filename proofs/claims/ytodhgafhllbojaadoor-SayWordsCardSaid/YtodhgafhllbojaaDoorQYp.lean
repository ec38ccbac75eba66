/-
  Plans as text: plain. A plan's words, its text; a numeral's value.
-/
import Derived.Test.YtodhgafhllbojaaDoorQYb
import Derived.Test.YtodhgafhllbojaaDoorQBase1
import Derived.Lib.ItoaNum
set_option maxRecDepth 100000
namespace Go.Vc
open Go Go.Proofs Go.Plain
open Go.Lib (decDigits nDigits)
def wMarker : List UInt8 := [109, 97, 114, 107, 101, 114]
def wOn : List UInt8 := [111, 110]
def wOff : List UInt8 := [111, 102, 102]
def wType : List UInt8 := [116, 121, 112, 101]
def wSeq : List UInt8 := [115, 101, 113]
def wTime : List UInt8 := [116, 105, 109, 101]
def wSsrc : List UInt8 := [115, 115, 114, 99]
def wMap : List UInt8 := [109, 97, 112]
def wOver : List UInt8 := [111, 118, 101, 114]
def wDrop : List UInt8 := [100, 114, 111, 112]
def wAdd : List UInt8 := [97, 100, 100]
def wNopad : List UInt8 := [110, 111, 112, 97, 100]
abbrev numI (n : Int) : List UInt8 := decDigits n.toNat
def tk1 (p : Pl) : List (List UInt8) := if p.sm then [wMarker, if p.m then wOn else wOff] else []
def tk2 (p : Pl) : List (List UInt8) := if p.st then [wType, numI p.ty] else []
def tk3 (p : Pl) : List (List UInt8) := if p.sq then [wSeq, numI p.seq] else []
def tk4 (p : Pl) : List (List UInt8) := if p.stm then [wTime, numI p.time] else []
def tk5 (p : Pl) : List (List UInt8) := if p.ss then [wSsrc, numI p.ssrc] else []
def tkM (l : List Mp) : List (List UInt8) := l.flatMap fun m => [wMap, numI m.fr, numI m.to]
def tkE (w : List UInt8) (l : List El) : List (List UInt8) := l.flatMap fun e => [w, numI e.id, qs e.data]
def tkD (l : List Int) : List (List UInt8) := l.flatMap fun d => [wDrop, numI d]
def tkN (p : Pl) : List (List UInt8) := if p.np then [wNopad] else []
/-- A plan's words. -/
def toks (p : Pl) : List (List UInt8) := tk1 p ++ (tk2 p ++ (tk3 p ++ (tk4 p ++ (tk5 p ++ (tkM p.maps ++ (tkE wOver p.over ++ (tkD p.drops ++ (tkE wAdd p.adds ++ tkN p))))))))
def printL (p : Pl) : List UInt8 := joinSp (toks p)
/-- Words, a blank ahead of each. -/
def flatW (ts : List (List UInt8)) : List UInt8 := ts.flatMap (32 :: ·)
theorem flatW_app (a b : List (List UInt8)) : flatW (a ++ b) = flatW a ++ flatW b := by simp [flatW]
theorem flatW_join : ∀ ts : List (List UInt8), ts ≠ [] → flatW ts = 32 :: joinSp ts
  | [], h => absurd rfl h
  | [w], _ => by simp [flatW, joinSp]
  | w :: v :: r, _ => by
    have ih := flatW_join (v :: r) (by simp)
    have e : flatW (w :: v :: r) = (32 :: w) ++ flatW (v :: r) := by simp [flatW]
    have e2 : joinSp (w :: v :: r) = w ++ 32 :: joinSp (v :: r) := rfl
    rw [e, ih, e2]
    simp
theorem flatW_tail (ts : List (List UInt8)) : (flatW ts).drop 1 = joinSp ts := by
  by_cases h : ts = []
  · subst h; rfl
  · rw [flatW_join ts h]; rfl
/-! Numerals. -/
def dig? (x : UInt8) : Bool := decide (48 ≤ x.toNat ∧ x.toNat ≤ 57)
def valD (w : List UInt8) : Nat := w.foldl (fun n x => 10 * n + (x.toNat - 48)) 0
theorem valD_snoc (w : List UInt8) (x : UInt8) : valD (w ++ [x]) = 10 * valD w + (x.toNat - 48) := by unfold valD; rw [List.foldl_append]; rfl
theorem dec_small {n : Nat} (h : n < 10) : decDigits n = [UInt8.ofNat (48 + n)] := by rw [decDigits, dif_pos h]
theorem dec_big {n : Nat} (h : ¬ n < 10) : decDigits n = decDigits (n / 10) ++ [UInt8.ofNat (48 + n % 10)] := by rw [decDigits, dif_neg h]
theorem dec_facts (n : Nat) : (decDigits n).all dig? = true ∧ valD (decDigits n) = n ∧ decDigits n ≠ [] := by
  induction n using Nat.strongRecOn with
  | _ n ih =>
    by_cases h : n < 10
    · rw [dec_small h]
      have e : (UInt8.ofNat (48 + n)).toNat = 48 + n := by rw [UInt8.toNat_ofNat']; omega
      refine ⟨?_, ?_, by simp⟩
      · simp only [List.all_cons, List.all_nil, Bool.and_true, dig?, e, decide_eq_true_eq]; omega
      · unfold valD; simp only [List.foldl_cons, List.foldl_nil, e]; omega
    · rw [dec_big h]
      obtain ⟨h1, h2, h3⟩ := ih (n / 10) (by omega)
      have e : (UInt8.ofNat (48 + n % 10)).toNat = 48 + n % 10 := by rw [UInt8.toNat_ofNat']; omega
      refine ⟨?_, ?_, by simp⟩
      · rw [List.all_append, h1]
        simp only [List.all_cons, List.all_nil, Bool.and_true, Bool.true_and, dig?, e, decide_eq_true_eq]; omega
      · rw [valD_snoc, h2, e]; omega
theorem nD_le : ∀ (k n : Nat), n < 10 ^ (k + 1) → nDigits n ≤ k + 1
  | 0, n, h => by rw [Go.Lib.nDigits_small (by simpa using h)]; exact Nat.le_refl _
  | k + 1, n, h => by
    by_cases h10 : n < 10
    · rw [Go.Lib.nDigits_small h10]; omega
    · rw [Go.Lib.nDigits_big h10]
      have := nD_le k (n / 10) (by rw [Nat.pow_succ] at h; omega)
      omega
theorem dec_len {n : Nat} (h : n < 4294967296) : 1 ≤ (decDigits n).length ∧ (decDigits n).length ≤ 10 := by
  rw [Go.Lib.decDigits_length]
  exact ⟨Go.Lib.nDigits_pos n, nD_le 9 n (by omega)⟩
theorem dig_sgn {x : UInt8} (h : dig? x = true) : tsgn x = true := by
  have h := of_decide_eq_true h
  unfold tsgn
  rw [decide_eq_true_eq]
  omega
theorem dec_tok {n : Nat} (h : n < 4294967296) : tokL (decDigits n) = true := by
  obtain ⟨h1, h2⟩ := dec_len h
  unfold tokL
  rw [Bool.and_eq_true, decide_eq_true_eq]
  refine ⟨by omega, List.all_eq_true.2 fun x hx => dig_sgn (List.all_eq_true.1 (dec_facts n).1 x hx)⟩
/-! Each word of a plan that is right is one. -/
def plNum (p : Pl) : Prop := 0 ≤ p.seq ∧ p.seq < 65536 ∧ 0 ≤ p.time ∧ p.time < 4294967296 ∧ 0 ≤ p.ssrc ∧ p.ssrc < 4294967296
instance (p : Pl) : Decidable (plNum p) := by unfold plNum; infer_instance
theorem num_tok {n : Int} (h : n < 4294967296) : tokL (numI n) = true := dec_tok (by omega)
theorem ids_lt {l : List Int} (h : idsRight l) : ∀ x ∈ l, 1 ≤ x ∧ x ≤ 255 := by
  intro x hx
  obtain ⟨j, hj⟩ := List.getElem?_of_mem hx
  have hlt := (List.getElem?_eq_some_iff.1 hj).1
  have := h j hlt
  unfold idAt at this
  have e : l.getD j 0 = x := by simp [List.getD, hj]
  rw [e] at this
  exact ⟨this.1, this.2.1⟩
theorem els_lt {l : List El} (h : elRight l) : ∀ e ∈ l, 1 ≤ e.id ∧ e.id ≤ 255 ∧ e.data.length ≤ 255 := by
  intro x hx
  obtain ⟨j, hj⟩ := List.getElem?_of_mem hx
  have hlt := (List.getElem?_eq_some_iff.1 hj).1
  have := h j hlt
  unfold elAt at this
  have e : l.getD j El.zero = x := by simp [List.getD, hj]
  rw [e] at this
  exact ⟨this.1, this.2.1, this.2.2.1⟩
theorem toks_word {p : Pl} (h : plRight p) (hn : plNum p) : ∀ w ∈ toks p, isWord w := by
  obtain ⟨⟨_, _, _, _, _, t0, t1⟩, r1, r2, r3, r4, r5, _⟩ := h
  obtain ⟨n1, n2, n3, n4, n5, n6⟩ := hn
  intro w hw
  unfold toks at hw
  simp only [List.mem_append] at hw
  rcases hw with hw | hw | hw | hw | hw | hw | hw | hw | hw | hw
  · unfold tk1 at hw
    split at hw
    · simp only [List.mem_cons, List.mem_nil_iff, or_false] at hw
      rcases hw with rfl | rfl
      · exact .inr (by decide)
      · split <;> exact .inr (by decide)
    · cases hw
  · unfold tk2 at hw
    split at hw
    · simp only [List.mem_cons, List.mem_nil_iff, or_false] at hw
      rcases hw with rfl | rfl
      · exact .inr (by decide)
      · exact .inr (num_tok (by omega))
    · cases hw
  · unfold tk3 at hw
    split at hw
    · simp only [List.mem_cons, List.mem_nil_iff, or_false] at hw
      rcases hw with rfl | rfl
      · exact .inr (by decide)
      · exact .inr (num_tok (by omega))
    · cases hw
  · unfold tk4 at hw
    split at hw
    · simp only [List.mem_cons, List.mem_nil_iff, or_false] at hw
      rcases hw with rfl | rfl
      · exact .inr (by decide)
      · exact .inr (num_tok (by omega))
    · cases hw
  · unfold tk5 at hw
    split at hw
    · simp only [List.mem_cons, List.mem_nil_iff, or_false] at hw
      rcases hw with rfl | rfl
      · exact .inr (by decide)
      · exact .inr (num_tok (by omega))
    · cases hw
  · obtain ⟨m, hm, hw⟩ := List.mem_flatMap.1 hw
    have a1 := ids_lt r1 m.fr (List.mem_map.2 ⟨m, hm, rfl⟩)
    have a2 := ids_lt r2 m.to (List.mem_map.2 ⟨m, hm, rfl⟩)
    simp only [List.mem_cons, List.mem_nil_iff, or_false] at hw
    rcases hw with rfl | rfl | rfl
    · exact .inr (by decide)
    · exact .inr (num_tok (by omega))
    · exact .inr (num_tok (by omega))
  · obtain ⟨e, he, hw⟩ := List.mem_flatMap.1 hw
    have a1 := els_lt r4 e he
    simp only [List.mem_cons, List.mem_nil_iff, or_false] at hw
    rcases hw with rfl | rfl | rfl
    · exact .inr (by decide)
    · exact .inr (num_tok (by omega))
    · exact .inl ⟨_, rfl⟩
  · obtain ⟨d, hd, hw⟩ := List.mem_flatMap.1 hw
    have a1 := ids_lt r3 d hd
    simp only [List.mem_cons, List.mem_nil_iff, or_false] at hw
    rcases hw with rfl | rfl
    · exact .inr (by decide)
    · exact .inr (num_tok (by omega))
  · obtain ⟨e, he, hw⟩ := List.mem_flatMap.1 hw
    have a1 := els_lt r5 e he
    simp only [List.mem_cons, List.mem_nil_iff, or_false] at hw
    rcases hw with rfl | rfl | rfl
    · exact .inr (by decide)
    · exact .inr (num_tok (by omega))
    · exact .inl ⟨_, rfl⟩
  · unfold tkN at hw
    split at hw
    · simp only [List.mem_cons, List.mem_nil_iff, or_false] at hw
      rw [hw]
      exact .inr (by decide)
    · cases hw
end Go.Vc
