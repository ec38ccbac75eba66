/-
  The given statements of these laws, each out of its function's contract.
-/
import Derived.Test.YtkkkjjonjdkngaaRows
import Derived.Test.YtkkkjjonjdkngaaQMl
import Derived.Test.YtkkkjjonjdkngaaQBase3
namespace Go.Proofs.Ytkkkjjonjdkngaa
open Go.Vc Go.ChangeShapes Go.WideShapes Go.ChangeAt Go.RowKit
set_option maxRecDepth 100000
theorem own_RembSame : ownKnob Try.prog.godebug = none := by kernel_rfl
theorem laidOut_RembSame : laidOutB Try.prog = true := by kernel_rfl
theorem rembSame_step (os : Os) (started : os.Started) (H : Type) (enc : TypeId × Value → H) :
    ReturnsInHanded {} Try.checked os 12 .any (Rows.rembSameSpec.pre6 enc Try.prog Try.f12 Rows.rembSameRow.domain false) (Rows.rembSameSpec.post enc Try.prog Try.f12 false true false false) :=
  lifted (C := Try.checked) (s := Rows.rembSameSpec) (shs := [(.int .u8), (.int .u32)]) (by decide) own_RembSame laidOut_RembSame started (by kernel_rfl) Try.func12
    (ChangeSpec.witness6 (enc := enc) (C := Try.checked) false ⟨#[], #[.int .u8 0, .int .u32 0], []⟩ 8 (by kernel_rfl) (by kernel_rfl) (by kernel_rfl) (by kernel_rfl))
    (by kernel_rfl) (by kernel_rfl) rfl Try.underlying4 rfl (fun ds h => match ds, h with | [d0, d1], _ => rfl) law_RembSame
/-- The law RembSame returns true for every input; each argument reads as it did. -/
theorem rembSame_holds : Rows.RembSameSaid :=
  OpenClaim.holds_of_wide 12 Try.f12 rfl rfl rfl rfl rfl rfl rfl ⟨rfl, rfl, rfl, rfl, rfl⟩ rfl rfl rfl rfl rfl (by kernel_rfl) Try.func12 (by kernel_rfl)
    (of_decide_eq_true (by kernel_rfl)) (by unfold Func.isWrapper; first | (rw [if_pos (by decide +kernel)]; kernel_rfl) | (rw [if_neg (by decide +kernel)]; exact ⟨rfl, rfl⟩))
    (fun os started H enc _ => rembSame_step os started H enc)
#print axioms rembSame_holds
end Go.Proofs.Ytkkkjjonjdkngaa
