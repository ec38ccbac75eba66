/-
  The given statements of these laws, each out of its function's contract.
-/
import Derived.Test.YtodhgafhllbojaaRows
import Derived.Test.YtodhgafhllbojaaQUk
import Derived.Test.YtodhgafhllbojaaQBase3
namespace Go.Proofs.Ytodhgafhllbojaa
open Go.Vc Go.ChangeShapes Go.WideShapes Go.ChangeAt Go.RowKit
set_option maxRecDepth 100000
theorem own_H264Parts : ownKnob Try.prog.godebug = none := by kernel_rfl
theorem laidOut_H264Parts : laidOutB Try.prog = true := by kernel_rfl
theorem h264Parts_step (os : Os) (started : os.Started) (H : Type) (enc : TypeId × Value → H) :
    ReturnsInHanded {} Try.checked os 4 .any (Rows.h264PartsSpec.pre6 enc Try.prog Try.f4 Rows.h264PartsRow.domain false) (Rows.h264PartsSpec.post enc Try.prog Try.f4 false true false false) :=
  lifted (C := Try.checked) (s := Rows.h264PartsSpec) (shs := [(.pair (.int .i64) (.pair (.int .i64) (.pair (.sl (.int .u8)) .unit))), (.int .i64), (.sl (.pair (.int .i64) (.pair (.int .i64) (.pair (.sl (.pair (.int .i64) (.pair (.int .i64) (.pair (.sl (.int .u8)) .unit)))) (.pair .bool (.pair .bool (.pair (.pair (.int .i64) (.pair (.int .i64) (.pair (.sl (.int .u8)) .unit))) .unit)))))))]) (by decide) own_H264Parts laidOut_H264Parts started (by kernel_rfl) Try.func4
    (ChangeSpec.witness6 (enc := enc) (C := Try.checked) false ⟨#[], #[.agg #[.int .i64 0, .int .i64 0, .slice none 0 0], .int .i64 0, .slice none 0 0], []⟩ 8 (by kernel_rfl) (by kernel_rfl) (by kernel_rfl) (by kernel_rfl))
    (by kernel_rfl) (by kernel_rfl) rfl Try.underlying4 rfl (fun ds h => match ds, h with | [d0, d1, d2], _ => rfl) law_H264Parts
/-- The law H264Parts returns true for every input; each argument reads as it did. -/
theorem h264Parts_holds : Rows.H264PartsSaid :=
  OpenClaim.holds_of_wide 4 Try.f4 rfl rfl rfl rfl rfl rfl rfl ⟨rfl, rfl, rfl, rfl, rfl⟩ rfl rfl rfl rfl rfl (by kernel_rfl) Try.func4 (by kernel_rfl)
    (of_decide_eq_true (by kernel_rfl)) (by unfold Func.isWrapper; first | (rw [if_pos (by decide +kernel)]; kernel_rfl) | (rw [if_neg (by decide +kernel)]; exact ⟨rfl, rfl⟩))
    (fun os started H enc _ => h264Parts_step os started H enc)
#print axioms h264Parts_holds
end Go.Proofs.Ytodhgafhllbojaa
