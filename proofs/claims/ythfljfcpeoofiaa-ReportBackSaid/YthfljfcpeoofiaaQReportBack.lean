/-
  The given statements of these laws, each out of its function's contract.
-/
import Derived.Test.YthfljfcpeoofiaaRows
import Derived.Test.YthfljfcpeoofiaaQRl
import Derived.Test.YthfljfcpeoofiaaQBase3
namespace Go.Proofs.Ythfljfcpeoofiaa
open Go.Vc Go.ChangeShapes Go.WideShapes Go.ChangeAt Go.RowKit
set_option maxRecDepth 100000
theorem own_ReportBack : ownKnob Try.prog.godebug = none := by kernel_rfl
theorem laidOut_ReportBack : laidOutB Try.prog = true := by kernel_rfl
theorem reportBack_step (os : Os) (started : os.Started) (H : Type) (enc : TypeId × Value → H) :
    ReturnsInHanded {} Try.checked os 7 .any (Rows.reportBackSpec.pre6 enc Try.prog Try.f7 Rows.reportBackRow.domain false) (Rows.reportBackSpec.post enc Try.prog Try.f7 false true false false) :=
  lifted (C := Try.checked) (s := Rows.reportBackSpec) (shs := [(.pair (.int .u32) (.pair .bool (.pair (.pair (.int .u64) (.pair (.int .u32) (.pair (.int .u32) (.pair (.int .u32) .unit)))) (.pair (.sl (.pair (.int .u32) (.pair (.int .u8) (.pair (.int .i32) (.pair (.int .u32) (.pair (.int .u32) (.pair (.int .u32) (.pair (.int .u32) .unit)))))))) (.pair (.sl (.int .u8)) .unit))))), (.pair (.int .u32) (.pair .bool (.pair (.pair (.int .u64) (.pair (.int .u32) (.pair (.int .u32) (.pair (.int .u32) .unit)))) (.pair (.sl (.pair (.int .u32) (.pair (.int .u8) (.pair (.int .i32) (.pair (.int .u32) (.pair (.int .u32) (.pair (.int .u32) (.pair (.int .u32) .unit)))))))) (.pair (.sl (.int .u8)) .unit))))), .bool, (.int .i64), (.sl (.int .u8))]) (by decide) own_ReportBack laidOut_ReportBack started (by kernel_rfl) Try.func7
    (ChangeSpec.witness6 (enc := enc) (C := Try.checked) false ⟨#[], #[.agg #[.int .u32 0, .bool false, .int .u64 0, .int .u32 0, .int .u32 0, .int .u32 0, .slice none 0 0, .slice none 0 0], .agg #[.int .u32 0, .bool false, .int .u64 0, .int .u32 0, .int .u32 0, .int .u32 0, .slice none 0 0, .slice none 0 0], .bool false, .int .i64 0, .slice none 0 0], []⟩ 8 (by kernel_rfl) (by kernel_rfl) (by kernel_rfl) (by kernel_rfl))
    (by kernel_rfl) (by kernel_rfl) rfl Try.underlying4 rfl (fun ds h => match ds, h with | [d0, d1, d2, d3, d4], _ => rfl) law_ReportBack
/-- The law ReportBack returns true for every input; each argument reads as it did. -/
theorem reportBack_holds : Rows.ReportBackSaid :=
  OpenClaim.holds_of_wide 7 Try.f7 rfl rfl rfl rfl rfl rfl rfl ⟨rfl, rfl, rfl, rfl, rfl⟩ rfl rfl rfl rfl rfl (by kernel_rfl) Try.func7 (by kernel_rfl)
    (of_decide_eq_true (by kernel_rfl)) (by unfold Func.isWrapper; first | (rw [if_pos (by decide +kernel)]; kernel_rfl) | (rw [if_neg (by decide +kernel)]; exact ⟨rfl, rfl⟩))
    (fun os started H enc _ => reportBack_step os started H enc)
#print axioms reportBack_holds
end Go.Proofs.Ythfljfcpeoofiaa
