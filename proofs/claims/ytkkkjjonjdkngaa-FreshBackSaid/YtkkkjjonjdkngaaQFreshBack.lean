/-
  The given statements of these laws, each out of its function's contract.
-/
import Derived.Test.YtkkkjjonjdkngaaRows
import Derived.Test.YtkkkjjonjdkngaaQFl
import Derived.Test.YtkkkjjonjdkngaaQBase3
namespace Go.Proofs.Ytkkkjjonjdkngaa
open Go.Vc Go.ChangeShapes Go.WideShapes Go.ChangeAt Go.RowKit
set_option maxRecDepth 100000
theorem own_FreshBack : ownKnob Try.prog.godebug = none := by kernel_rfl
theorem laidOut_FreshBack : laidOutB Try.prog = true := by kernel_rfl
theorem freshBack_step (os : Os) (started : os.Started) (H : Type) (enc : TypeId × Value → H) :
    ReturnsInHanded {} Try.checked os 4 .any (Rows.freshBackSpec.pre6 enc Try.prog Try.f4 Rows.freshBackRow.domain false) (Rows.freshBackSpec.post enc Try.prog Try.f4 false true false false) :=
  lifted (C := Try.checked) (s := Rows.freshBackSpec) (shs := [(.sl (.pair (.int .u32) (.pair (.int .u8) .unit))), (.sl (.int .u8)), (.int .u16)]) (by decide) own_FreshBack laidOut_FreshBack started (by kernel_rfl) Try.func4
    (ChangeSpec.witness6 (enc := enc) (C := Try.checked) false ⟨#[], #[.slice none 0 0, .slice none 0 0, .int .u16 0], []⟩ 8 (by kernel_rfl) (by kernel_rfl) (by kernel_rfl) (by kernel_rfl))
    (by kernel_rfl) (by kernel_rfl) rfl Try.underlying4 rfl (fun ds h => match ds, h with | [d0, d1, d2], _ => rfl) law_FreshBack
/-- The law FreshBack returns true for every input; each argument reads as it did. -/
theorem freshBack_holds : Rows.FreshBackSaid :=
  OpenClaim.holds_of_wide 4 Try.f4 rfl rfl rfl rfl rfl rfl rfl ⟨rfl, rfl, rfl, rfl, rfl⟩ rfl rfl rfl rfl rfl (by kernel_rfl) Try.func4 (by kernel_rfl)
    (of_decide_eq_true (by kernel_rfl)) (by unfold Func.isWrapper; first | (rw [if_pos (by decide +kernel)]; kernel_rfl) | (rw [if_neg (by decide +kernel)]; exact ⟨rfl, rfl⟩))
    (fun os started H enc _ => freshBack_step os started H enc)
#print axioms freshBack_holds
end Go.Proofs.Ytkkkjjonjdkngaa
