/-
  The given statements of these laws, each out of its function's contract.
-/
import Derived.Test.YtkkkjjonjdkngaaRows
import Derived.Test.YtkkkjjonjdkngaaQMl
import Derived.Test.YtkkkjjonjdkngaaQBase3
namespace Go.Proofs.Ytkkkjjonjdkngaa
open Go.Vc Go.ChangeShapes Go.WideShapes Go.ChangeAt Go.RowKit
set_option maxRecDepth 100000
theorem own_RembRight : ownKnob Try.prog.godebug = none := by kernel_rfl
theorem laidOut_RembRight : laidOutB Try.prog = true := by kernel_rfl
theorem rembRight_step (os : Os) (started : os.Started) (H : Type) (enc : TypeId × Value → H) :
    ReturnsInHanded {} Try.checked os 9 .any (Rows.rembRightSpec.pre6 enc Try.prog Try.f9 Rows.rembRightRow.domain false) (Rows.rembRightSpec.post enc Try.prog Try.f9 false true false false) :=
  lifted (C := Try.checked) (s := Rows.rembRightSpec) (shs := [(.pair (.int .i64) (.pair (.int .u32) (.pair (.sl (.int .u32)) .unit))), (.sl (.int .u8)), (.int .u64)]) (by decide) own_RembRight laidOut_RembRight started (by kernel_rfl) Try.func9
    (ChangeSpec.witness6 (enc := enc) (C := Try.checked) false ⟨#[], #[.agg #[.int .i64 0, .int .u32 0, .slice none 0 0], .slice none 0 0, .int .u64 0], []⟩ 8 (by kernel_rfl) (by kernel_rfl) (by kernel_rfl) (by kernel_rfl))
    (by kernel_rfl) (by kernel_rfl) rfl Try.underlying4 rfl (fun ds h => match ds, h with | [d0, d1, d2], _ => rfl) law_RembRight
/-- The law RembRight returns true for every input; each argument reads as it did. -/
theorem rembRight_holds : Rows.RembRightSaid :=
  OpenClaim.holds_of_wide 9 Try.f9 rfl rfl rfl rfl rfl rfl rfl ⟨rfl, rfl, rfl, rfl, rfl⟩ rfl rfl rfl rfl rfl (by kernel_rfl) Try.func9 (by kernel_rfl)
    (of_decide_eq_true (by kernel_rfl)) (by unfold Func.isWrapper; first | (rw [if_pos (by decide +kernel)]; kernel_rfl) | (rw [if_neg (by decide +kernel)]; exact ⟨rfl, rfl⟩))
    (fun os started H enc _ => rembRight_step os started H enc)
#print axioms rembRight_holds
end Go.Proofs.Ytkkkjjonjdkngaa
