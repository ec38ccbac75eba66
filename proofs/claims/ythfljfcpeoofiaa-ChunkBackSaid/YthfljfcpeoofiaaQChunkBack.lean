/-
  The given statements of these laws, each out of its function's contract.
-/
import Derived.Test.YthfljfcpeoofiaaRows
import Derived.Test.YthfljfcpeoofiaaQCq
import Derived.Test.YthfljfcpeoofiaaQBase3
namespace Go.Proofs.Ythfljfcpeoofiaa
open Go.Vc Go.ChangeShapes Go.WideShapes Go.ChangeAt Go.RowKit
set_option maxRecDepth 100000
theorem own_ChunkBack : ownKnob Try.prog.godebug = none := by kernel_rfl
theorem laidOut_ChunkBack : laidOutB Try.prog = true := by kernel_rfl
theorem chunkBack_step (os : Os) (started : os.Started) (H : Type) (enc : TypeId × Value → H) :
    ReturnsInHanded {} Try.checked os 4 .any (Rows.chunkBackSpec.pre6 enc Try.prog Try.f4 Rows.chunkBackRow.domain false) (Rows.chunkBackSpec.post enc Try.prog Try.f4 false true false false) :=
  lifted (C := Try.checked) (s := Rows.chunkBackSpec) (shs := [(.sl (.int .i64)), (.sl (.int .u16)), (.int .i64), (.sl (.int .u16))]) (by decide) own_ChunkBack laidOut_ChunkBack started (by kernel_rfl) Try.func4
    (ChangeSpec.witness6 (enc := enc) (C := Try.checked) false ⟨#[], #[.slice none 0 0, .slice none 0 0, .int .i64 0, .slice none 0 0], []⟩ 8 (by kernel_rfl) (by kernel_rfl) (by kernel_rfl) (by kernel_rfl))
    (by kernel_rfl) (by kernel_rfl) rfl Try.underlying4 rfl (fun ds h => match ds, h with | [d0, d1, d2, d3], _ => rfl) law_ChunkBack
/-- The law ChunkBack returns true for every input; each argument reads as it did. -/
theorem chunkBack_holds : Rows.ChunkBackSaid :=
  OpenClaim.holds_of_wide 4 Try.f4 rfl rfl rfl rfl rfl rfl rfl ⟨rfl, rfl, rfl, rfl, rfl⟩ rfl rfl rfl rfl rfl (by kernel_rfl) Try.func4 (by kernel_rfl)
    (of_decide_eq_true (by kernel_rfl)) (by unfold Func.isWrapper; first | (rw [if_pos (by decide +kernel)]; kernel_rfl) | (rw [if_neg (by decide +kernel)]; exact ⟨rfl, rfl⟩))
    (fun os started H enc _ => chunkBack_step os started H enc)
#print axioms chunkBack_holds
end Go.Proofs.Ythfljfcpeoofiaa
