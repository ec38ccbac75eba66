/-
  The given statements of these laws, each out of its function's contract.
-/
import Derived.Test.YtkkkjjonjdkngaaRows
import Derived.Test.YtkkkjjonjdkngaaQEh
import Derived.Test.YtkkkjjonjdkngaaQBase4
namespace Go.Proofs.Ytkkkjjonjdkngaa
open Go.Vc Go.ChangeShapes Go.WideShapes Go.ChangeAt Go.RowKit
set_option maxRecDepth 100000
theorem own_ElemRight : ownKnob Try.prog.godebug = none := by kernel_rfl
theorem laidOut_ElemRight : laidOutB Try.prog = true := by kernel_rfl
theorem elemRight_step (os : Os) (started : os.Started) (H : Type) (enc : TypeId × Value → H) :
    ReturnsInHanded {} Try.checked os 6 .any (Rows.elemRightSpec.pre6 enc Try.prog Try.f6 Rows.elemRightRow.domain false) (Rows.elemRightSpec.post enc Try.prog Try.f6 false true false false) :=
  lifted (C := Try.checked) (s := Rows.elemRightSpec) (shs := [(.sl (.pair (.int .i64) (.pair (.sl (.int .u8)) .unit))), (.int .u16), (.sl (.int .u8))]) (by decide) own_ElemRight laidOut_ElemRight started (by kernel_rfl) Try.func6
    (ChangeSpec.witness6 (enc := enc) (C := Try.checked) false ⟨#[], #[.slice none 0 0, .int .u16 0, .slice none 0 0], []⟩ 8 (by kernel_rfl) (by kernel_rfl) (by kernel_rfl) (by kernel_rfl))
    (by kernel_rfl) (by kernel_rfl) rfl Try.underlying4 rfl (fun ds h => match ds, h with | [d0, d1, d2], _ => rfl) law_ElemRight
/-- The law ElemRight returns true for every input; each argument reads as it did. -/
theorem elemRight_holds : Rows.ElemRightSaid :=
  OpenClaim.holds_of_wide 6 Try.f6 rfl rfl rfl rfl rfl rfl rfl ⟨rfl, rfl, rfl, rfl, rfl⟩ rfl rfl rfl rfl rfl (by kernel_rfl) Try.func6 (by kernel_rfl)
    (of_decide_eq_true (by kernel_rfl)) (by unfold Func.isWrapper; first | (rw [if_pos (by decide +kernel)]; kernel_rfl) | (rw [if_neg (by decide +kernel)]; exact ⟨rfl, rfl⟩))
    (fun os started H enc _ => elemRight_step os started H enc)
#print axioms elemRight_holds
end Go.Proofs.Ytkkkjjonjdkngaa
