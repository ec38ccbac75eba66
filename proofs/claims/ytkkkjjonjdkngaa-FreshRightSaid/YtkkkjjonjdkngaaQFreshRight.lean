/-
  The given statements of these laws, each out of its function's contract.
-/
import Derived.Test.YtkkkjjonjdkngaaRows
import Derived.Test.YtkkkjjonjdkngaaQFl
import Derived.Test.YtkkkjjonjdkngaaQBase3
namespace Go.Proofs.Ytkkkjjonjdkngaa
open Go.Vc Go.ChangeShapes Go.WideShapes Go.ChangeAt Go.RowKit
set_option maxRecDepth 100000
theorem own_FreshRight : ownKnob Try.prog.godebug = none := by kernel_rfl
theorem laidOut_FreshRight : laidOutB Try.prog = true := by kernel_rfl
theorem freshRight_step (os : Os) (started : os.Started) (H : Type) (enc : TypeId × Value → H) :
    ReturnsInHanded {} Try.checked os 3 .any (Rows.freshRightSpec.pre6 enc Try.prog Try.f3 Rows.freshRightRow.domain false) (Rows.freshRightSpec.post enc Try.prog Try.f3 false true false false) :=
  lifted (C := Try.checked) (s := Rows.freshRightSpec) (shs := [(.sl (.pair (.int .u32) (.pair (.int .u8) .unit))), (.sl (.pair (.int .u32) (.pair (.int .u8) .unit))), (.sl (.int .u8))]) (by decide) own_FreshRight laidOut_FreshRight started (by kernel_rfl) Try.func3
    (ChangeSpec.witness6 (enc := enc) (C := Try.checked) false ⟨#[], #[.slice none 0 0, .slice none 0 0, .slice none 0 0], []⟩ 8 (by kernel_rfl) (by kernel_rfl) (by kernel_rfl) (by kernel_rfl))
    (by kernel_rfl) (by kernel_rfl) rfl Try.underlying4 rfl (fun ds h => match ds, h with | [d0, d1, d2], _ => rfl) law_FreshRight
/-- The law FreshRight returns true for every input; each argument reads as it did. -/
theorem freshRight_holds : Rows.FreshRightSaid :=
  OpenClaim.holds_of_wide 3 Try.f3 rfl rfl rfl rfl rfl rfl rfl ⟨rfl, rfl, rfl, rfl, rfl⟩ rfl rfl rfl rfl rfl (by kernel_rfl) Try.func3 (by kernel_rfl)
    (of_decide_eq_true (by kernel_rfl)) (by unfold Func.isWrapper; first | (rw [if_pos (by decide +kernel)]; kernel_rfl) | (rw [if_neg (by decide +kernel)]; exact ⟨rfl, rfl⟩))
    (fun os started H enc _ => freshRight_step os started H enc)
#print axioms freshRight_holds
end Go.Proofs.Ytkkkjjonjdkngaa
