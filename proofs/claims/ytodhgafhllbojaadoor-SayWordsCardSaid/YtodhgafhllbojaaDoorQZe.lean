/-
  Plain: what the laws of say ask of a plan's text.
-/
import Derived.Test.YtodhgafhllbojaaDoorQYz
import Derived.Test.YtodhgafhllbojaaDoorQTm
set_option maxRecDepth 100000
namespace Go.Vc
open Go Go.Proofs Go.Plain
open Go.Lib (decDigits nDigits)
theorem parse_g (s : List UInt8) (p : Pl) : parseBy grpS s = some p ↔ plRight p ∧ plNum p ∧ printL p = s := parse_iff good_grp grpS_num s p
theorem parse_back {p : Pl} (hp : plRight p) (hn : plNum p) : parseBy grpS (printL p) = some p := (parse_g _ _).2 ⟨hp, hn, rfl⟩
theorem print_inj {p q : Pl} (hp : plRight p) (hn : plNum p) (hq : plRight q) (hm : plNum q) : printL p = printL q ↔ p = q := by
  constructor
  · intro h
    have h1 := parse_back hp hn
    have h2 := parse_back hq hm
    rw [h, h2] at h1
    exact (Option.some.inj h1).symm
  · intro h; rw [h]
theorem idsRight_iff (l : List Int) : idsRight l ↔ (∀ x ∈ l, 1 ≤ x ∧ x ≤ 255) ∧ l.Nodup := by
  constructor
  · intro h
    refine ⟨ids_lt h, ?_⟩
    rw [List.Nodup, List.pairwise_iff_getElem]
    intro i j hi hj hij he
    have := (h j hj).2.2
    apply this
    rw [List.mem_take_iff_getElem]
    refine ⟨i, by omega, ?_⟩
    simp [List.getD, hj, he]
  · rintro ⟨h1, h2⟩ j hj
    have hm : l.getD j 0 ∈ l := by simp [List.getD, hj]
    refine ⟨(h1 _ hm).1, (h1 _ hm).2, fun h3 => ?_⟩
    rw [List.mem_take_iff_getElem] at h3
    obtain ⟨i, hi, he⟩ := h3
    rw [List.Nodup, List.pairwise_iff_getElem] at h2
    have hi2 : i < l.length := by omega
    apply h2 i j hi2 hj (by omega)
    rw [he]
    simp [List.getD, hj]
theorem ids_cut {l : List Int} (h : idsRight l) (k : Nat) : idsRight (l.take k ++ l.drop (k + 1)) := by
  rw [idsRight_iff] at h ⊢
  have hs : (l.take k ++ l.drop (k + 1)).Sublist l := by
    have := List.take_append_drop k l
    conv => rhs; rw [← this]
    refine List.Sublist.append (List.Sublist.refl _) ?_
    rw [← List.drop_drop]
    exact List.drop_sublist _ _
  exact ⟨fun x hx => h.1 x (hs.subset hx), h.2.sublist hs⟩
def cutP (p : Pl) (k : Nat) : Pl := { p with drops := p.drops.take k ++ p.drops.drop (k + 1) }
theorem cut_right {p : Pl} (h : plRight p) (k : Nat) : plRight (cutP p k) := by
  obtain ⟨h0, h1, h2, h3, h4, h5, h6, h7⟩ := h
  have hm : ∀ d ∈ (cutP p k).drops, d ∈ p.drops := by
    intro d hd
    rcases List.mem_append.1 hd with h | h
    · exact List.mem_of_mem_take h
    · exact List.mem_of_mem_drop h
  exact ⟨h0, h1, h2, ids_cut h3 k, h4, h5, fun d hd => h6 d (hm d hd), fun d hd => h7 d (hm d hd)⟩
theorem tkD_app (a b : List Int) : tkD (a ++ b) = tkD a ++ tkD b := by simp [tkD]
theorem cut_len {p : Pl} {k : Nat} (hk : k < p.drops.length) : (toks (cutP p k)).length + 2 = (toks p).length := by
  have h1 : (tkD (cutP p k).drops).length + 2 = (tkD p.drops).length := by
    rw [tkD_len, tkD_len]
    unfold cutP
    simp only [List.length_append, List.length_take, List.length_drop]
    omega
  unfold toks
  simp only [List.length_append]
  rw [← h1]
  unfold cutP tk1 tk2 tk3 tk4 tk5 tkN
  simp only
  omega
theorem may_word {w : List UInt8} (h : isWord w) : mayL w = true := by
  rcases h with ⟨l, rfl⟩ | h
  · exact mayL_qs l
  · exact (tok_facts h).1
theorem may_join : ∀ (ws : Wds), (∀ w ∈ ws, isWord w) → mayL (joinSp ws) = true
  | [], _ => by unfold mayL joinSp; rw [chunks_nil]; rfl
  | [w], h => may_word (h w (by simp))
  | w :: v :: r, h => by
    have h1 := may_join (v :: r) (fun x hx => h x (by simp [hx]))
    have h2 : mayL [32] = true := (tok_facts (a := [97]) (by decide)).1 ▸ by
      unfold mayL
      rw [chunks_a _ (by decide), chunks_nil]
      decide +kernel
    have h3 := (mayL_app (may_word (h w (by simp))) (mayL_app h2 h1).1).1
    exact h3
theorem word_kind {w : List UInt8} (h : isWord w) : tokL w = !(unqL w).isSome := by
  rcases h with ⟨l, rfl⟩ | h
  · rw [unqL_qs]
    unfold qs tokL
    simp
    intro _ h34
    exact absurd h34 (by decide)
  · rw [h]
    have : unqL w = none := by
      unfold unqL
      rw [if_neg]
      rintro ⟨h1, h2, _⟩
      unfold tokL at h
      simp only [Bool.and_eq_true] at h
      cases w with
      | nil => simp at h1
      | cons x r =>
        have h2 : x = 34 := by simpa using h2
        have := List.all_eq_true.1 h.2 x (by simp)
        rw [h2] at this
        exact absurd this (by decide)
    rw [this]
    rfl
theorem head_p {p : Pl} (h : plRight p) (hn : plNum p) : ∀ w ∈ toks p, w ≠ [112, 97, 100] := by
  have hd : ∀ n : Int, numI n ≠ [112, 97, 100] := by
    intro n e
    have := (dec_facts n.toNat).1
    change (numI n).all dig? = true at this
    rw [e] at this
    exact absurd this (by decide)
  have hq : ∀ l, qs l ≠ [112, 97, 100] := by
    intro l e
    unfold qs at e
    simp at e
  intro w hw
  unfold toks at hw
  simp only [List.mem_append] at hw
  rcases hw with hw | hw | hw | hw | hw | hw | hw | hw | hw | hw
  · unfold tk1 at hw
    split at hw
    · simp only [List.mem_cons, List.mem_nil_iff, or_false] at hw
      rcases hw with rfl | rfl
      · decide
      · split <;> decide
    · cases hw
  · unfold tk2 at hw
    split at hw
    · simp only [List.mem_cons, List.mem_nil_iff, or_false] at hw
      rcases hw with rfl | rfl
      · decide
      · exact hd _
    · cases hw
  · unfold tk3 at hw
    split at hw
    · simp only [List.mem_cons, List.mem_nil_iff, or_false] at hw
      rcases hw with rfl | rfl
      · decide
      · exact hd _
    · cases hw
  · unfold tk4 at hw
    split at hw
    · simp only [List.mem_cons, List.mem_nil_iff, or_false] at hw
      rcases hw with rfl | rfl
      · decide
      · exact hd _
    · cases hw
  · unfold tk5 at hw
    split at hw
    · simp only [List.mem_cons, List.mem_nil_iff, or_false] at hw
      rcases hw with rfl | rfl
      · decide
      · exact hd _
    · cases hw
  · unfold tkM at hw
    obtain ⟨m, _, hw⟩ := List.mem_flatMap.1 hw
    simp only [List.mem_cons, List.mem_nil_iff, or_false] at hw
    rcases hw with rfl | rfl | rfl
    · decide
    · exact hd _
    · exact hd _
  · unfold tkE at hw
    obtain ⟨m, _, hw⟩ := List.mem_flatMap.1 hw
    simp only [List.mem_cons, List.mem_nil_iff, or_false] at hw
    rcases hw with rfl | rfl | rfl
    · decide
    · exact hd _
    · exact hq _
  · unfold tkD at hw
    obtain ⟨m, _, hw⟩ := List.mem_flatMap.1 hw
    simp only [List.mem_cons, List.mem_nil_iff, or_false] at hw
    rcases hw with rfl | rfl
    · decide
    · exact hd _
  · unfold tkE at hw
    obtain ⟨m, _, hw⟩ := List.mem_flatMap.1 hw
    simp only [List.mem_cons, List.mem_nil_iff, or_false] at hw
    rcases hw with rfl | rfl | rfl
    · decide
    · exact hd _
    · exact hq _
  · unfold tkN at hw
    split at hw
    · simp only [List.mem_cons, List.mem_nil_iff, or_false] at hw
      subst hw
      decide
    · cases hw
theorem val_sp : wordsL [32] = none := by
  unfold wordsL
  rw [chunks_a _ (by decide), chunks_nil]
  decide +kernel
theorem val_pad : wordsL [32, 112, 97, 100] = none := by
  unfold wordsL
  rw [chunks_a _ (by decide), chunks_a _ (by decide), chunks_a _ (by decide), chunks_a _ (by decide), chunks_nil]
  decide +kernel
theorem parse_words {s : List UInt8} {q : Pl} (h : parseBy grpS s = some q) (hs : s ≠ []) : wordsL s = some (toks q) := by
  obtain ⟨h1, h2, rfl⟩ := (parse_g _ _).1 h
  exact (print_words h1 h2 hs).1
theorem parse_sp {p : Pl} (hp : plRight p) (hn : plNum p) : parseBy grpS (printL p ++ [32]) = none := by
  cases h : parseBy grpS (printL p ++ [32]) with
  | none => rfl
  | some q =>
    have hw := parse_words h (by simp)
    by_cases h0 : printL p = []
    · rw [h0, List.nil_append, val_sp] at hw
      cases hw
    · rw [(print_words hp hn h0).2] at hw
      cases hw
theorem join_app1 : ∀ (ws : Wds) (w : List UInt8), ws ≠ [] → joinSp (ws ++ [w]) = joinSp ws ++ 32 :: w
  | [], _, h => absurd rfl h
  | [a], w, _ => rfl
  | a :: b :: r, w, _ => by
    have := join_app1 (b :: r) w (by simp)
    simp only [List.cons_append] at this ⊢
    unfold joinSp
    rw [this]
    simp
theorem parse_pad {p : Pl} (hp : plRight p) (hn : plNum p) : parseBy grpS (printL p ++ [32, 112, 97, 100]) = none := by
  cases h : parseBy grpS (printL p ++ [32, 112, 97, 100]) with
  | none => rfl
  | some q =>
    have hw := parse_words h (by simp)
    obtain ⟨q1, q2, q3⟩ := (parse_g _ _).1 h
    by_cases h0 : printL p = []
    · rw [h0, List.nil_append, val_pad] at hw
      cases hw
    · have hne : toks p ≠ [] := fun e => h0 (by unfold printL; rw [e]; rfl)
      have hj : printL p ++ [32, 112, 97, 100] = joinSp (toks p ++ [[112, 97, 100]]) := (join_app1 _ _ hne).symm
      rw [hj, (words_of _ (by simp) (fun w hw => by
        rcases List.mem_append.1 hw with h | h
        · exact toks_word hp hn w h
        · rw [List.mem_singleton.1 h]; exact .inr (by decide))).1] at hw
      have hm : [112, 97, 100] ∈ toks q := by
        rw [← Option.some.inj hw]
        simp
      exact absurd rfl (head_p q1 q2 _ hm)
theorem toks_lens (p : Pl) : p.maps.length ≤ (toks p).length ∧ p.over.length ≤ (toks p).length ∧ p.drops.length ≤ (toks p).length ∧ p.adds.length ≤ (toks p).length := by
  unfold toks
  simp only [List.length_append, tkM_len, tkE_len, tkD_len]
  omega
theorem join_count : ∀ {ws : Wds}, (∀ w ∈ ws, w ≠ []) → ws.length ≤ (joinSp ws).length
  | [], _ => Nat.le_refl _
  | [w], h => by
    have := List.length_pos_iff.2 (h w (by simp))
    simp only [joinSp, List.length_singleton]
    omega
  | w :: v :: r, h => by
    have := join_count (ws := v :: r) (fun x hx => h x (by simp [hx]))
    have := List.length_pos_iff.2 (h w (by simp))
    simp only [joinSp, List.length_append, List.length_cons] at *
    omega
theorem parse_few {s : List UInt8} {q : Pl} (hs : s.length ≤ 1000000) (h : parseBy grpS s = some q) : plFew q := by
  obtain ⟨q1, q2, rfl⟩ := (parse_g _ _).1 h
  have h1 := join_count (fun w hw => isWord_ne (toks_word q1 q2 w hw))
  have h2 := toks_lens q
  change (toks q).length ≤ (printL q).length at h1
  unfold plFew
  omega
theorem few_zero : plFew Pl.zero := by unfold plFew; decide
theorem parse_few2 {s : List UInt8} (hs : s.length ≤ 1000000) : plFew ((parseBy grpS s).getD Pl.zero) := by
  cases h : parseBy grpS s with
  | none => exact few_zero
  | some q => exact parse_few hs h
theorem print_short {p : Pl} (h : plShort p) (hp : plRight p) (hn : plNum p) : (printL p).length ≤ 600000 := by
  have := print_le p hp hn
  obtain ⟨h1, h2, h3, h4, _⟩ := plShort_few h
  omega
/-! The fixed answer. -/
def pA : Pl := { Pl.zero with sq := true, seq := 7, maps := [⟨3, 4⟩], over := [⟨3, [97, 0]⟩] }
def pB : Pl := { Pl.zero with sm := true, drops := [5], adds := [⟨9, [255]⟩], np := true }
theorem qs_a0 : qs [97, 0] = [34, 97, 92, 48, 48, 34] := by
  unfold qs
  rw [chunks_a _ (by decide), chunks_a _ (by decide), chunks_nil]
  decide +kernel
theorem chunks_255 : chunks [255] = [[255]] := by
  rw [chunks, dif_neg (by simp), val_w3]
  show [255] :: chunks [] = _
  rw [chunks_nil]
theorem okc_255 : okc [255] = false := by
  have h := may255 []
  unfold mayL at h
  rw [chunks_255] at h
  simpa using h
theorem qs_ff : qs [255] = [34, 92, 102, 102, 34] := by
  unfold qs
  rw [chunks_255]
  unfold qc qk
  simp only [List.flatMap_cons, List.flatMap_nil, okc_255, Bool.false_eq_true, if_false]
  decide +kernel
theorem num_small (n : Nat) (h : n < 10) : numI (n : Nat) = [UInt8.ofNat (48 + n)] := dec_small h
theorem valA : parseBy grpS [115, 101, 113, 32, 55, 32, 109, 97, 112, 32, 51, 32, 52, 32, 111, 118, 101, 114, 32, 51, 32, 34, 97, 92, 48, 48, 34] = some pA := by
  rw [parse_g]
  refine ⟨by decide, by decide, ?_⟩
  show joinSp [wSeq, numI 7, wMap, numI 3, numI 4, wOver, numI 3, qs [97, 0]] = _
  rw [show numI 7 = [55] from num_small 7 (by decide), show numI 3 = [51] from num_small 3 (by decide), show numI 4 = [52] from num_small 4 (by decide), qs_a0]
  decide +kernel
theorem rightB : plRight pB ∧ plNum pB := ⟨by decide, by decide⟩
theorem valB : printL pB = [109, 97, 114, 107, 101, 114, 32, 111, 102, 102, 32, 100, 114, 111, 112, 32, 53, 32, 97, 100, 100, 32, 57, 32, 34, 92, 102, 102, 34, 32, 110, 111, 112, 97, 100] := by
  show joinSp [wMarker, wOff, wDrop, numI 5, wAdd, numI 9, qs [255], wNopad] = _
  rw [show numI 5 = [53] from num_small 5 (by decide), show numI 9 = [57] from num_small 9 (by decide), qs_ff]
  decide +kernel
theorem num_07 : numR 65535 [48, 55] = (7, false) := by
  have h1 : ([48, 55] : List UInt8).all dig? = true := by decide
  unfold numR
  rw [chunks_digs h1]
  exact (numGo_digs 65535 [48, 55] 0 h1 (by decide)).trans (by decide)
theorem valC : parseBy grpS [115, 101, 113, 32, 48, 55] = none := by
  cases h : parseBy grpS [115, 101, 113, 32, 48, 55] with
  | none => rfl
  | some q =>
    exfalso
    have hw := parse_words h (by simp)
    obtain ⟨q1, q2, q3⟩ := (parse_g _ _).1 h
    have hv : wordsL [115, 101, 113, 32, 48, 55] = some [wSeq, [48, 55]] := by
      unfold wordsL
      rw [chunks_a _ (by decide), chunks_a _ (by decide), chunks_a _ (by decide), chunks_a _ (by decide), chunks_a _ (by decide), chunks_a _ (by decide), chunks_nil]
      decide +kernel
    rw [hv] at hw
    have ht := Option.some.inj hw
    have hi := iter_toks good_grp q q1 q2
    rw [← ht] at hi
    have hg : grpR Pl.zero [wSeq, [48, 55]] false = ({ Pl.zero with sq := true, seq := 7 }, [], false) := by
      unfold grpR
      simp [num_07, ne_wSeq_wMarker, ne_wSeq_wType]
    change iter grpS 2 Pl.zero [wSeq, [48, 55]] = some q at hi
    rw [iter_some (by simp) (grpS_of hg), iter_nil] at hi
    obtain rfl := Option.some.inj hi
    have : toks { Pl.zero with sq := true, seq := 7 } = [wSeq, numI 7] := rfl
    rw [this, show numI 7 = [55] from num_small 7 (by decide)] at ht
    exact absurd ht (by decide)
end Go.Vc
