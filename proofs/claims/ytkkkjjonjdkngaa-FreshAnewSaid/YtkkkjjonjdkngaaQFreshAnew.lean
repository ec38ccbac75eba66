/-
  The given statements of these laws, each out of its function's contract.
-/
import Derived.Test.YtkkkjjonjdkngaaRows
import Derived.Test.YtkkkjjonjdkngaaQFm
import Derived.Test.YtkkkjjonjdkngaaQBase3
namespace Go.Proofs.Ytkkkjjonjdkngaa
open Go.Vc Go.ChangeShapes Go.WideShapes Go.ChangeAt Go.RowKit
set_option maxRecDepth 100000
theorem own_FreshAnew : ownKnob Try.prog.godebug = none := by kernel_rfl
theorem laidOut_FreshAnew : laidOutB Try.prog = true := by kernel_rfl
theorem freshAnew_step (os : Os) (started : os.Started) (H : Type) (enc : TypeId × Value → H) :
    ReturnsInHanded {} Try.checked os 5 .any (Rows.freshAnewSpec.pre6 enc Try.prog Try.f5 Rows.freshAnewRow.domain false) (Rows.freshAnewSpec.post enc Try.prog Try.f5 false true false false) :=
  lifted (C := Try.checked) (s := Rows.freshAnewSpec) (shs := [(.sl (.pair (.int .u32) (.pair (.int .u8) .unit))), (.sl (.pair (.int .u32) (.pair (.int .u8) .unit))), (.sl (.pair (.int .u32) (.pair (.int .u8) .unit))), (.int .u32)]) (by decide) own_FreshAnew laidOut_FreshAnew started (by kernel_rfl) Try.func5
    (ChangeSpec.witness6 (enc := enc) (C := Try.checked) false ⟨#[], #[.slice none 0 0, .slice none 0 0, .slice none 0 0, .int .u32 0], []⟩ 8 (by kernel_rfl) (by kernel_rfl) (by kernel_rfl) (by kernel_rfl))
    (by kernel_rfl) (by kernel_rfl) rfl Try.underlying4 rfl (fun ds h => match ds, h with | [d0, d1, d2, d3], _ => rfl) law_FreshAnew
/-- The law FreshAnew returns true for every input; each argument reads as it did. -/
theorem freshAnew_holds : Rows.FreshAnewSaid :=
  OpenClaim.holds_of_wide 5 Try.f5 rfl rfl rfl rfl rfl rfl rfl ⟨rfl, rfl, rfl, rfl, rfl⟩ rfl rfl rfl rfl rfl (by kernel_rfl) Try.func5 (by kernel_rfl)
    (of_decide_eq_true (by kernel_rfl)) (by unfold Func.isWrapper; first | (rw [if_pos (by decide +kernel)]; kernel_rfl) | (rw [if_neg (by decide +kernel)]; exact ⟨rfl, rfl⟩))
    (fun os started H enc _ => freshAnew_step os started H enc)
#print axioms freshAnew_holds
end Go.Proofs.Ytkkkjjonjdkngaa
