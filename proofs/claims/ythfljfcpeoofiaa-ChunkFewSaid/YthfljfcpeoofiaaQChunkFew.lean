/-
  The given statements of these laws, each out of its function's contract.
-/
import Derived.Test.YthfljfcpeoofiaaRows
import Derived.Test.YthfljfcpeoofiaaQCn
import Derived.Test.YthfljfcpeoofiaaQBase3
namespace Go.Proofs.Ythfljfcpeoofiaa
open Go.Vc Go.ChangeShapes Go.WideShapes Go.ChangeAt Go.RowKit
set_option maxRecDepth 100000
theorem own_ChunkFew : ownKnob Try.prog.godebug = none := by kernel_rfl
theorem laidOut_ChunkFew : laidOutB Try.prog = true := by kernel_rfl
theorem chunkFew_step (os : Os) (started : os.Started) (H : Type) (enc : TypeId × Value → H) :
    ReturnsInHanded {} Try.checked os 5 .any (Rows.chunkFewSpec.pre6 enc Try.prog Try.f5 Rows.chunkFewRow.domain false) (Rows.chunkFewSpec.post enc Try.prog Try.f5 false true false false) :=
  lifted (C := Try.checked) (s := Rows.chunkFewSpec) (shs := [(.sl (.int .i64)), (.int .u8), (.int .u16)]) (by decide) own_ChunkFew laidOut_ChunkFew started (by kernel_rfl) Try.func5
    (ChangeSpec.witness6 (enc := enc) (C := Try.checked) false ⟨#[], #[.slice none 0 0, .int .u8 0, .int .u16 0], []⟩ 8 (by kernel_rfl) (by kernel_rfl) (by kernel_rfl) (by kernel_rfl))
    (by kernel_rfl) (by kernel_rfl) rfl Try.underlying4 rfl (fun ds h => match ds, h with | [d0, d1, d2], _ => rfl) law_ChunkFew
/-- The law ChunkFew returns true for every input; each argument reads as it did. -/
theorem chunkFew_holds : Rows.ChunkFewSaid :=
  OpenClaim.holds_of_wide 5 Try.f5 rfl rfl rfl rfl rfl rfl rfl ⟨rfl, rfl, rfl, rfl, rfl⟩ rfl rfl rfl rfl rfl (by kernel_rfl) Try.func5 (by kernel_rfl)
    (of_decide_eq_true (by kernel_rfl)) (by unfold Func.isWrapper; first | (rw [if_pos (by decide +kernel)]; kernel_rfl) | (rw [if_neg (by decide +kernel)]; exact ⟨rfl, rfl⟩))
    (fun os started H enc _ => chunkFew_step os started H enc)
#print axioms chunkFew_holds
end Go.Proofs.Ythfljfcpeoofiaa
