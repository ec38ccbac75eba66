/-
  The given statements of these laws, each out of its function's contract.
-/
import Derived.Test.YthfljfcpeoofiaaRows
import Derived.Test.YthfljfcpeoofiaaQCl
import Derived.Test.YthfljfcpeoofiaaQBase3
namespace Go.Proofs.Ythfljfcpeoofiaa
open Go.Vc Go.ChangeShapes Go.WideShapes Go.ChangeAt Go.RowKit
set_option maxRecDepth 100000
theorem own_ChunkRight : ownKnob Try.prog.godebug = none := by kernel_rfl
theorem laidOut_ChunkRight : laidOutB Try.prog = true := by kernel_rfl
theorem chunkRight_step (os : Os) (started : os.Started) (H : Type) (enc : TypeId × Value → H) :
    ReturnsInHanded {} Try.checked os 3 .any (Rows.chunkRightSpec.pre6 enc Try.prog Try.f3 Rows.chunkRightRow.domain false) (Rows.chunkRightSpec.post enc Try.prog Try.f3 false true false false) :=
  lifted (C := Try.checked) (s := Rows.chunkRightSpec) (shs := [(.sl (.int .i64)), (.sl (.int .u16)), (.int .i64)]) (by decide) own_ChunkRight laidOut_ChunkRight started (by kernel_rfl) Try.func3
    (ChangeSpec.witness6 (enc := enc) (C := Try.checked) false ⟨#[], #[.slice none 0 0, .slice none 0 0, .int .i64 0], []⟩ 8 (by kernel_rfl) (by kernel_rfl) (by kernel_rfl) (by kernel_rfl))
    (by kernel_rfl) (by kernel_rfl) rfl Try.underlying4 rfl (fun ds h => match ds, h with | [d0, d1, d2], _ => rfl) law_ChunkRight
/-- The law ChunkRight returns true for every input; each argument reads as it did. -/
theorem chunkRight_holds : Rows.ChunkRightSaid :=
  OpenClaim.holds_of_wide 3 Try.f3 rfl rfl rfl rfl rfl rfl rfl ⟨rfl, rfl, rfl, rfl, rfl⟩ rfl rfl rfl rfl rfl (by kernel_rfl) Try.func3 (by kernel_rfl)
    (of_decide_eq_true (by kernel_rfl)) (by unfold Func.isWrapper; first | (rw [if_pos (by decide +kernel)]; kernel_rfl) | (rw [if_neg (by decide +kernel)]; exact ⟨rfl, rfl⟩))
    (fun os started H enc _ => chunkRight_step os started H enc)
#print axioms chunkRight_holds
end Go.Proofs.Ythfljfcpeoofiaa
