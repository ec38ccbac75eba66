/-
  The given statements of these laws, each out of its function's contract.
-/
import Derived.Test.YtoijaooechdemaaRows
import Derived.Test.YtoijaooechdemaaQHb
import Derived.Test.YtoijaooechdemaaQBase3
namespace Go.Proofs.Ytoijaooechdemaa
open Go.Vc Go.ChangeShapes Go.WideShapes Go.ChangeAt Go.RowKit
set_option maxRecDepth 100000
theorem own_HeadBits : ownKnob Try.prog.godebug = none := by kernel_rfl
theorem laidOut_HeadBits : laidOutB Try.prog = true := by kernel_rfl
theorem headBits_step (os : Os) (started : os.Started) (H : Type) (enc : TypeId × Value → H) :
    ReturnsInHanded {} Try.checked os 12 .any (Rows.headBitsSpec.pre6 enc Try.prog Try.f12 Rows.headBitsRow.domain false) (Rows.headBitsSpec.post enc Try.prog Try.f12 false true false false) :=
  lifted (C := Try.checked) (s := Rows.headBitsSpec) (shs := [(.pair .bool (.pair .bool (.pair .bool (.pair (.int .i64) (.pair (.int .u16) (.pair (.int .u32) (.pair (.int .u32) (.pair (.sl (.int .u32)) .unit)))))))), (.pair .bool (.pair .bool (.pair .bool (.pair (.int .i64) (.pair (.int .u16) (.pair (.int .u32) (.pair (.int .u32) (.pair (.sl (.int .u32)) .unit)))))))), (.int .u8)]) (by decide) own_HeadBits laidOut_HeadBits started (by kernel_rfl) Try.func12
    (ChangeSpec.witness6 (enc := enc) (C := Try.checked) false ⟨#[], #[.agg #[.bool false, .bool false, .bool false, .int .i64 0, .int .u16 0, .int .u32 0, .int .u32 0, .slice none 0 0], .agg #[.bool false, .bool false, .bool false, .int .i64 0, .int .u16 0, .int .u32 0, .int .u32 0, .slice none 0 0], .int .u8 0], []⟩ 8 (by kernel_rfl) (by kernel_rfl) (by kernel_rfl) (by kernel_rfl))
    (by kernel_rfl) (by kernel_rfl) rfl Try.underlying4 rfl (fun ds h => match ds, h with | [d0, d1, d2], _ => rfl) law_HeadBits
/-- The law HeadBits returns true for every input; each argument reads as it did. -/
theorem headBits_holds : Rows.HeadBitsSaid :=
  OpenClaim.holds_of_wide 12 Try.f12 rfl rfl rfl rfl rfl rfl rfl ⟨rfl, rfl, rfl, rfl, rfl⟩ rfl rfl rfl rfl rfl (by kernel_rfl) Try.func12 (by kernel_rfl)
    (of_decide_eq_true (by kernel_rfl)) (by unfold Func.isWrapper; first | (rw [if_pos (by decide +kernel)]; kernel_rfl) | (rw [if_neg (by decide +kernel)]; exact ⟨rfl, rfl⟩))
    (fun os started H enc _ => headBits_step os started H enc)
#print axioms headBits_holds
end Go.Proofs.Ytoijaooechdemaa
