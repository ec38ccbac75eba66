/-
  Plain values for the fixed answer of the laws of text.
-/
import Derived.Test.YtodhgafhllbojaaDoorQTl
set_option maxRecDepth 100000
namespace Go.Vc
open Go Go.Proofs Go.Plain
theorem chunks_a (x : UInt8) (hx : x.toNat < 128) (r : List UInt8) : chunks (x :: r) = [x] :: chunks r := chunks_whole (whole_ascii x hx) r
theorem val_qs : qs [97, 34, 98, 10] = [34, 97, 92, 34, 98, 92, 48, 97, 34] := by
  unfold qs
  rw [chunks_a _ (by decide), chunks_a _ (by decide), chunks_a _ (by decide), chunks_a _ (by decide), chunks_nil]
  decide +kernel
theorem val_unq : unqL [34, 97, 92, 34, 98, 92, 48, 97, 34] = some [97, 34, 98, 10] := by rw [← val_qs, unqL_qs]
theorem val_words : wordsL [97, 32, 34, 98, 32, 99, 34, 32, 100] = some [[97], [34, 98, 32, 99, 34], [100]] := by
  unfold wordsL
  rw [chunks_a _ (by decide), chunks_a _ (by decide), chunks_a _ (by decide), chunks_a _ (by decide), chunks_a _ (by decide), chunks_a _ (by decide), chunks_a _ (by decide), chunks_a _ (by decide), chunks_a _ (by decide), chunks_nil]
  decide +kernel
theorem val_w1 : rwid [195, 169] = 2 := by unfold rwid; rw [Lib.decodeL_N]; decide +kernel
theorem val_w2 : rwid [195, 169, 255] = 2 := by unfold rwid; rw [Lib.decodeL_N]; decide +kernel
theorem val_w3 : rwid [255] = 1 := by unfold rwid; rw [Lib.decodeL_N]; decide +kernel
theorem val_may : mayL [195, 169] = true := by
  rw [may_step (by decide), val_w1]
  unfold stray
  rw [Lib.decodeL_N]
  have : mayL ([195, 169].drop 2) = true := by show mayL [] = true; unfold mayL; rw [chunks_nil]; rfl
  rw [this]
  decide +kernel
theorem val_nomay : mayL [195] = false := by
  rw [may_step (by decide)]
  have : stray [195] = true := stray_bad 195 (by decide)
  rw [this]
  simp
theorem val_runes : runesL [195, 169, 255] = 2 := by
  rw [runes_step (by decide), val_w2]
  show runesL [255] + 1 = 2
  rw [runes_step (by decide), val_w3]
  show runesL [] + 1 + 1 = 2
  unfold runesL
  rw [chunks_nil]
  rfl
end Go.Vc
