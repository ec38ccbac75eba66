/-
  The given statements of these laws, each out of its function's contract.
-/
import Derived.Test.YtkkkjjonjdkngaaRows
import Derived.Test.YtkkkjjonjdkngaaQMl
import Derived.Test.YtkkkjjonjdkngaaQBase3
namespace Go.Proofs.Ytkkkjjonjdkngaa
open Go.Vc Go.ChangeShapes Go.WideShapes Go.ChangeAt Go.RowKit
set_option maxRecDepth 100000
theorem own_RembBack : ownKnob Try.prog.godebug = none := by kernel_rfl
theorem laidOut_RembBack : laidOutB Try.prog = true := by kernel_rfl
theorem rembBack_step (os : Os) (started : os.Started) (H : Type) (enc : TypeId × Value → H) :
    ReturnsInHanded {} Try.checked os 10 .any (Rows.rembBackSpec.pre6 enc Try.prog Try.f10 Rows.rembBackRow.domain false) (Rows.rembBackSpec.post enc Try.prog Try.f10 false true false false) :=
  lifted (C := Try.checked) (s := Rows.rembBackSpec) (shs := [(.pair (.int .i64) (.pair (.int .u32) (.pair (.sl (.int .u32)) .unit))), (.pair (.int .i64) (.pair (.int .u32) (.pair (.sl (.int .u32)) .unit))), (.sl (.int .u8))]) (by decide) own_RembBack laidOut_RembBack started (by kernel_rfl) Try.func10
    (ChangeSpec.witness6 (enc := enc) (C := Try.checked) false ⟨#[], #[.agg #[.int .i64 0, .int .u32 0, .slice none 0 0], .agg #[.int .i64 0, .int .u32 0, .slice none 0 0], .slice none 0 0], []⟩ 8 (by kernel_rfl) (by kernel_rfl) (by kernel_rfl) (by kernel_rfl))
    (by kernel_rfl) (by kernel_rfl) rfl Try.underlying4 rfl (fun ds h => match ds, h with | [d0, d1, d2], _ => rfl) law_RembBack
/-- The law RembBack returns true for every input; each argument reads as it did. -/
theorem rembBack_holds : Rows.RembBackSaid :=
  OpenClaim.holds_of_wide 10 Try.f10 rfl rfl rfl rfl rfl rfl rfl ⟨rfl, rfl, rfl, rfl, rfl⟩ rfl rfl rfl rfl rfl (by kernel_rfl) Try.func10 (by kernel_rfl)
    (of_decide_eq_true (by kernel_rfl)) (by unfold Func.isWrapper; first | (rw [if_pos (by decide +kernel)]; kernel_rfl) | (rw [if_neg (by decide +kernel)]; exact ⟨rfl, rfl⟩))
    (fun os started H enc _ => rembBack_step os started H enc)
#print axioms rembBack_holds
end Go.Proofs.Ytkkkjjonjdkngaa
