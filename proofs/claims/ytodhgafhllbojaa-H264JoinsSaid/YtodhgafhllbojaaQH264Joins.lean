/-
  The given statements of these laws, each out of its function's contract.
-/
import Derived.Test.YtodhgafhllbojaaRows
import Derived.Test.YtodhgafhllbojaaQUl
import Derived.Test.YtodhgafhllbojaaQBase3
namespace Go.Proofs.Ytodhgafhllbojaa
open Go.Vc Go.ChangeShapes Go.WideShapes Go.ChangeAt Go.RowKit
set_option maxRecDepth 100000
theorem own_H264Joins : ownKnob Try.prog.godebug = none := by kernel_rfl
theorem laidOut_H264Joins : laidOutB Try.prog = true := by kernel_rfl
theorem h264Joins_step (os : Os) (started : os.Started) (H : Type) (enc : TypeId × Value → H) :
    ReturnsInHanded {} Try.checked os 6 .any (Rows.h264JoinsSpec.pre6 enc Try.prog Try.f6 Rows.h264JoinsRow.domain false) (Rows.h264JoinsSpec.post enc Try.prog Try.f6 false true false false) :=
  lifted (C := Try.checked) (s := Rows.h264JoinsSpec) (shs := [(.pair (.int .i64) (.pair (.int .i64) (.pair (.sl (.int .u8)) .unit))), (.int .u16), (.int .u16)]) (by decide) own_H264Joins laidOut_H264Joins started (by kernel_rfl) Try.func6
    (ChangeSpec.witness6 (enc := enc) (C := Try.checked) false ⟨#[], #[.agg #[.int .i64 0, .int .i64 0, .slice none 0 0], .int .u16 0, .int .u16 0], []⟩ 8 (by kernel_rfl) (by kernel_rfl) (by kernel_rfl) (by kernel_rfl))
    (by kernel_rfl) (by kernel_rfl) rfl Try.underlying4 rfl (fun ds h => match ds, h with | [d0, d1, d2], _ => rfl) law_H264Joins
/-- The law H264Joins returns true for every input; each argument reads as it did. -/
theorem h264Joins_holds : Rows.H264JoinsSaid :=
  OpenClaim.holds_of_wide 6 Try.f6 rfl rfl rfl rfl rfl rfl rfl ⟨rfl, rfl, rfl, rfl, rfl⟩ rfl rfl rfl rfl rfl (by kernel_rfl) Try.func6 (by kernel_rfl)
    (of_decide_eq_true (by kernel_rfl)) (by unfold Func.isWrapper; first | (rw [if_pos (by decide +kernel)]; kernel_rfl) | (rw [if_neg (by decide +kernel)]; exact ⟨rfl, rfl⟩))
    (fun os started H enc _ => h264Joins_step os started H enc)
#print axioms h264Joins_holds
end Go.Proofs.Ytodhgafhllbojaa
