/-
  The given statements of these laws, each out of its function's contract.
-/
import Derived.Test.YtkkkjjonjdkngaaRows
import Derived.Test.YtkkkjjonjdkngaaQEh
import Derived.Test.YtkkkjjonjdkngaaQBase4
namespace Go.Proofs.Ytkkkjjonjdkngaa
open Go.Vc Go.ChangeShapes Go.WideShapes Go.ChangeAt Go.RowKit
set_option maxRecDepth 100000
theorem own_ElemBack : ownKnob Try.prog.godebug = none := by kernel_rfl
theorem laidOut_ElemBack : laidOutB Try.prog = true := by kernel_rfl
theorem elemBack_step (os : Os) (started : os.Started) (H : Type) (enc : TypeId × Value → H) :
    ReturnsInHanded {} Try.checked os 7 .any (Rows.elemBackSpec.pre6 enc Try.prog Try.f7 Rows.elemBackRow.domain false) (Rows.elemBackSpec.post enc Try.prog Try.f7 false true false false) :=
  lifted (C := Try.checked) (s := Rows.elemBackSpec) (shs := [(.sl (.pair (.int .i64) (.pair (.sl (.int .u8)) .unit))), (.sl (.pair (.int .i64) (.pair (.sl (.int .u8)) .unit))), (.int .u16), (.sl (.int .u8))]) (by decide) own_ElemBack laidOut_ElemBack started (by kernel_rfl) Try.func7
    (ChangeSpec.witness6 (enc := enc) (C := Try.checked) false ⟨#[], #[.slice none 0 0, .slice none 0 0, .int .u16 0, .slice none 0 0], []⟩ 8 (by kernel_rfl) (by kernel_rfl) (by kernel_rfl) (by kernel_rfl))
    (by kernel_rfl) (by kernel_rfl) rfl Try.underlying4 rfl (fun ds h => match ds, h with | [d0, d1, d2, d3], _ => rfl) law_ElemBack
/-- The law ElemBack returns true for every input; each argument reads as it did. -/
theorem elemBack_holds : Rows.ElemBackSaid :=
  OpenClaim.holds_of_wide 7 Try.f7 rfl rfl rfl rfl rfl rfl rfl ⟨rfl, rfl, rfl, rfl, rfl⟩ rfl rfl rfl rfl rfl (by kernel_rfl) Try.func7 (by kernel_rfl)
    (of_decide_eq_true (by kernel_rfl)) (by unfold Func.isWrapper; first | (rw [if_pos (by decide +kernel)]; kernel_rfl) | (rw [if_neg (by decide +kernel)]; exact ⟨rfl, rfl⟩))
    (fun os started H enc _ => elemBack_step os started H enc)
#print axioms elemBack_holds
end Go.Proofs.Ytkkkjjonjdkngaa
