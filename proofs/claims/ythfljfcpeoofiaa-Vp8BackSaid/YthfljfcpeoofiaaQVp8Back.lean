/-
  The given statements of these laws, each out of its function's contract.
-/
import Derived.Test.YthfljfcpeoofiaaRows
import Derived.Test.YthfljfcpeoofiaaQVl8
import Derived.Test.YthfljfcpeoofiaaQBase3
namespace Go.Proofs.Ythfljfcpeoofiaa
open Go.Vc Go.ChangeShapes Go.WideShapes Go.ChangeAt Go.RowKit
set_option maxRecDepth 100000
theorem own_Vp8Back : ownKnob Try.prog.godebug = none := by kernel_rfl
theorem laidOut_Vp8Back : laidOutB Try.prog = true := by kernel_rfl
theorem vp8Back_step (os : Os) (started : os.Started) (H : Type) (enc : TypeId × Value → H) :
    ReturnsInHanded {} Try.checked os 13 .any (Rows.vp8BackSpec.pre6 enc Try.prog Try.f13 Rows.vp8BackRow.domain false) (Rows.vp8BackSpec.post enc Try.prog Try.f13 false true false false) :=
  lifted (C := Try.checked) (s := Rows.vp8BackSpec) (shs := [(.pair .bool (.pair .bool (.pair (.int .i64) (.pair .bool (.pair .bool (.pair (.int .i64) (.pair .bool (.pair (.int .i64) (.pair .bool (.pair .bool (.pair (.int .i64) (.pair .bool (.pair (.int .i64) .unit))))))))))))), (.pair .bool (.pair .bool (.pair (.int .i64) (.pair .bool (.pair .bool (.pair (.int .i64) (.pair .bool (.pair (.int .i64) (.pair .bool (.pair .bool (.pair (.int .i64) (.pair .bool (.pair (.int .i64) .unit))))))))))))), (.sl (.int .u8)), (.int .u8)]) (by decide) own_Vp8Back laidOut_Vp8Back started (by kernel_rfl) Try.func13
    (ChangeSpec.witness6 (enc := enc) (C := Try.checked) false ⟨#[], #[.agg #[.bool false, .bool false, .int .i64 0, .bool false, .bool false, .int .i64 0, .bool false, .int .i64 0, .bool false, .bool false, .int .i64 0, .bool false, .int .i64 0], .agg #[.bool false, .bool false, .int .i64 0, .bool false, .bool false, .int .i64 0, .bool false, .int .i64 0, .bool false, .bool false, .int .i64 0, .bool false, .int .i64 0], .slice none 0 0, .int .u8 0], []⟩ 8 (by kernel_rfl) (by kernel_rfl) (by kernel_rfl) (by kernel_rfl))
    (by kernel_rfl) (by kernel_rfl) rfl Try.underlying4 rfl (fun ds h => match ds, h with | [d0, d1, d2, d3], _ => rfl) law_Vp8Back
/-- The law Vp8Back returns true for every input; each argument reads as it did. -/
theorem vp8Back_holds : Rows.Vp8BackSaid :=
  OpenClaim.holds_of_wide 13 Try.f13 rfl rfl rfl rfl rfl rfl rfl ⟨rfl, rfl, rfl, rfl, rfl⟩ rfl rfl rfl rfl rfl (by kernel_rfl) Try.func13 (by kernel_rfl)
    (of_decide_eq_true (by kernel_rfl)) (by unfold Func.isWrapper; first | (rw [if_pos (by decide +kernel)]; kernel_rfl) | (rw [if_neg (by decide +kernel)]; exact ⟨rfl, rfl⟩))
    (fun os started H enc _ => vp8Back_step os started H enc)
#print axioms vp8Back_holds
end Go.Proofs.Ythfljfcpeoofiaa
