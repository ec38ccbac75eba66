/-
  Plain values for the fixed answer of the laws of text.
-/
import Derived.Test.YtodhgafhllbojaaDoorQTl
set_option maxRecDepth 100000
namespace Go.Vc
open Go Go.Proofs Go.Plain
theorem chunks_a (x : UInt8) (hx : x.toNat < 128) (r : List UInt8) : chunks (x :: r) = [x] :: chunks r := chunks_whole (whole_ascii x hx) r
theorem val_qs : qs [97, 34, 98, 10] = [34, 97, 92, 34, 98, 92, 48, 97, 34] := by
  unfold qs
  rw [chunks_a _ (by decide), chunks_a _ (by decide), chunks_a _ (by decide), chunks_a _ (by decide), chunks_nil]
  decide +kernel
theorem val_unq : unqL [34, 97, 92, 34, 98, 92, 48, 97, 34] = some [97, 34, 98, 10] := by rw [← val_qs, unqL_qs]
theorem val_words : wordsL [97, 32, 34, 98, 32, 99, 34, 32, 100] = some [[97], [34, 98, 32, 99, 34], [100]] := by
  unfold wordsL
  rw [chunks_a _ (by decide), chunks_a _ (by decide), chunks_a _ (by decide), chunks_a _ (by decide), chunks_a _ (by decide), chunks_a _ (by decide), chunks_a _ (by decide), chunks_a _ (by decide), chunks_a _ (by decide), chunks_nil]
  decide +kernel
theorem val_w1 : rwid [195, 169] = 2 := by unfold rwid; rw [Lib.decodeL_N]; decide +kernel
theorem val_w2 : rwid [195, 169, 255] = 2 := by unfold rwid; rw [Lib.decodeL_N]; decide +kernel
theorem val_w3 : rwid [255] = 1 := by unfold rwid; rw [Lib.decodeL_N]; decide +kernel
theorem val_may : mayL [195, 169] = true := by
  rw [may_step (by decide), val_w1]
  unfold stray
  rw [Lib.decodeL_N]
  have : mayL ([195, 169].drop 2) = true := by show mayL [] = true; unfold mayL; rw [chunks_nil]; rfl
  rw [this]
  decide +kernel
theorem val_nomay : mayL [195] = false := by
  rw [may_step (by decide)]
  have : stray [195] = true := stray_bad 195 (by decide)
  rw [this]
  simp
theorem val_runes : runesL [195, 169, 255] = 2 := by
  rw [runes_step (by decide), val_w2]
  show runesL [255] + 1 = 2
  rw [runes_step (by decide), val_w3]
  show runesL [] + 1 + 1 = 2
  unfold runesL
  rw [chunks_nil]
  rfl
theorem may255 (b : List UInt8) : mayL (255 :: b) = false := by
  have hne : (255 : UInt8) :: b ≠ [] := by simp
  have h0 : ((255 : UInt8) :: b).getD 0 0 = 255 := rfl
  rcases rune_cases hne with ⟨_, _, r3, _⟩ | ⟨_, _, _, _, r5⟩ | ⟨r1, _⟩
  · rw [may_step hne, r3]
    simp
  · rw [h0] at r5
    exact absurd r5 (by decide)
  · exfalso
    rw [runeN_N, rn0 (by rw [h0]; decide) (by rw [h0]; decide) (UInt8.toNat_lt _) (UInt8.toNat_lt _)] at r1
    omega
theorem tok_facts {a : List UInt8} (h : tokL a = true) : mayL a = true ∧ runesL a = a.length ∧ tokL (a ++ [32]) = false := by
  unfold tokL at h
  simp only [Bool.and_eq_true, decide_eq_true_eq] at h
  have hc := chunks_sgn a [] h.2
  rw [List.append_nil, chunks_nil, List.append_nil] at hc
  refine ⟨?_, by unfold runesL; rw [hc, List.length_map], ?_⟩
  · unfold mayL
    rw [hc, List.all_map, List.all_eq_true]
    intro x hx
    have ht := List.all_eq_true.1 h.2 x hx
    unfold tsgn at ht
    rw [decide_eq_true_eq] at ht
    exact (okc_ascii x (by omega)).2 (by omega)
  · unfold tokL
    have : (a ++ [32]).all tsgn = false := by rw [List.all_append]; simp; intro _; decide
    rw [this, Bool.and_false]
end Go.Vc
