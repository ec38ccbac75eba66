/-
  The given statements of these laws, each out of its function's contract.
-/
import Derived.Test.YtoijaooechdemaaRows
import Derived.Test.YtoijaooechdemaaQHl
import Derived.Test.YtoijaooechdemaaQBase3
namespace Go.Proofs.Ytoijaooechdemaa
open Go.Vc Go.ChangeShapes Go.WideShapes Go.ChangeAt Go.RowKit
set_option maxRecDepth 100000
theorem own_HeadRight : ownKnob Try.prog.godebug = none := by kernel_rfl
theorem laidOut_HeadRight : laidOutB Try.prog = true := by kernel_rfl
theorem headRight_step (os : Os) (started : os.Started) (H : Type) (enc : TypeId × Value → H) :
    ReturnsInHanded {} Try.checked os 10 .any (Rows.headRightSpec.pre6 enc Try.prog Try.f10 Rows.headRightRow.domain false) (Rows.headRightSpec.post enc Try.prog Try.f10 false true false false) :=
  lifted (C := Try.checked) (s := Rows.headRightSpec) (shs := [(.pair .bool (.pair .bool (.pair .bool (.pair (.int .i64) (.pair (.int .u16) (.pair (.int .u32) (.pair (.int .u32) (.pair (.sl (.int .u32)) .unit)))))))), (.sl (.int .u8))]) (by decide) own_HeadRight laidOut_HeadRight started (by kernel_rfl) Try.func10
    (ChangeSpec.witness6 (enc := enc) (C := Try.checked) false ⟨#[], #[.agg #[.bool false, .bool false, .bool false, .int .i64 0, .int .u16 0, .int .u32 0, .int .u32 0, .slice none 0 0], .slice none 0 0], []⟩ 8 (by kernel_rfl) (by kernel_rfl) (by kernel_rfl) (by kernel_rfl))
    (by kernel_rfl) (by kernel_rfl) rfl Try.underlying4 rfl (fun ds h => match ds, h with | [d0, d1], _ => rfl) law_HeadRight
/-- The law HeadRight returns true for every input; each argument reads as it did. -/
theorem headRight_holds : Rows.HeadRightSaid :=
  OpenClaim.holds_of_wide 10 Try.f10 rfl rfl rfl rfl rfl rfl rfl ⟨rfl, rfl, rfl, rfl, rfl⟩ rfl rfl rfl rfl rfl (by kernel_rfl) Try.func10 (by kernel_rfl)
    (of_decide_eq_true (by kernel_rfl)) (by unfold Func.isWrapper; first | (rw [if_pos (by decide +kernel)]; kernel_rfl) | (rw [if_neg (by decide +kernel)]; exact ⟨rfl, rfl⟩))
    (fun os started H enc _ => headRight_step os started H enc)
#print axioms headRight_holds
end Go.Proofs.Ytoijaooechdemaa
