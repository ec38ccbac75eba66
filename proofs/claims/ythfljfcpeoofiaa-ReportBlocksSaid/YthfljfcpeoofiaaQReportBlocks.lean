/-
  The given statements of these laws, each out of its function's contract.
-/
import Derived.Test.YthfljfcpeoofiaaRows
import Derived.Test.YthfljfcpeoofiaaQRl
import Derived.Test.YthfljfcpeoofiaaQBase3
namespace Go.Proofs.Ythfljfcpeoofiaa
open Go.Vc Go.ChangeShapes Go.WideShapes Go.ChangeAt Go.RowKit
set_option maxRecDepth 100000
theorem own_ReportBlocks : ownKnob Try.prog.godebug = none := by kernel_rfl
theorem laidOut_ReportBlocks : laidOutB Try.prog = true := by kernel_rfl
theorem reportBlocks_step (os : Os) (started : os.Started) (H : Type) (enc : TypeId × Value → H) :
    ReturnsInHanded {} Try.checked os 8 .any (Rows.reportBlocksSpec.pre6 enc Try.prog Try.f8 Rows.reportBlocksRow.domain false) (Rows.reportBlocksSpec.post enc Try.prog Try.f8 false true false false) :=
  lifted (C := Try.checked) (s := Rows.reportBlocksSpec) (shs := [.bool, (.int .u8), (.sl (.int .u8))]) (by decide) own_ReportBlocks laidOut_ReportBlocks started (by kernel_rfl) Try.func8
    (ChangeSpec.witness6 (enc := enc) (C := Try.checked) false ⟨#[], #[.bool false, .int .u8 0, .slice none 0 0], []⟩ 8 (by kernel_rfl) (by kernel_rfl) (by kernel_rfl) (by kernel_rfl))
    (by kernel_rfl) (by kernel_rfl) rfl Try.underlying4 rfl (fun ds h => match ds, h with | [d0, d1, d2], _ => rfl) law_ReportBlocks
/-- The law ReportBlocks returns true for every input; each argument reads as it did. -/
theorem reportBlocks_holds : Rows.ReportBlocksSaid :=
  OpenClaim.holds_of_wide 8 Try.f8 rfl rfl rfl rfl rfl rfl rfl ⟨rfl, rfl, rfl, rfl, rfl⟩ rfl rfl rfl rfl rfl (by kernel_rfl) Try.func8 (by kernel_rfl)
    (of_decide_eq_true (by kernel_rfl)) (by unfold Func.isWrapper; first | (rw [if_pos (by decide +kernel)]; kernel_rfl) | (rw [if_neg (by decide +kernel)]; exact ⟨rfl, rfl⟩))
    (fun os started H enc _ => reportBlocks_step os started H enc)
#print axioms reportBlocks_holds
end Go.Proofs.Ythfljfcpeoofiaa
