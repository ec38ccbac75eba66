/-
  The given statements of these laws, each out of its function's contract.
-/
import Derived.Test.YtkkkjjonjdkngaaRows
import Derived.Test.YtkkkjjonjdkngaaQEi
import Derived.Test.YtkkkjjonjdkngaaQBase4
namespace Go.Proofs.Ytkkkjjonjdkngaa
open Go.Vc Go.ChangeShapes Go.WideShapes Go.ChangeAt Go.RowKit
set_option maxRecDepth 100000
theorem own_ElemPads : ownKnob Try.prog.godebug = none := by kernel_rfl
theorem laidOut_ElemPads : laidOutB Try.prog = true := by kernel_rfl
theorem elemPads_step (os : Os) (started : os.Started) (H : Type) (enc : TypeId × Value → H) :
    ReturnsInHanded {} Try.checked os 8 .any (Rows.elemPadsSpec.pre6 enc Try.prog Try.f8 Rows.elemPadsRow.domain false) (Rows.elemPadsSpec.post enc Try.prog Try.f8 false true false false) :=
  lifted (C := Try.checked) (s := Rows.elemPadsSpec) (shs := [(.sl (.pair (.int .i64) (.pair (.sl (.int .u8)) .unit))), (.sl (.int .u8)), (.int .u8), (.sl (.int .u8))]) (by decide) own_ElemPads laidOut_ElemPads started (by kernel_rfl) Try.func8
    (ChangeSpec.witness6 (enc := enc) (C := Try.checked) false ⟨#[], #[.slice none 0 0, .slice none 0 0, .int .u8 0, .slice none 0 0], []⟩ 8 (by kernel_rfl) (by kernel_rfl) (by kernel_rfl) (by kernel_rfl))
    (by kernel_rfl) (by kernel_rfl) rfl Try.underlying4 rfl (fun ds h => match ds, h with | [d0, d1, d2, d3], _ => rfl) law_ElemPads
/-- The law ElemPads returns true for every input; each argument reads as it did. -/
theorem elemPads_holds : Rows.ElemPadsSaid :=
  OpenClaim.holds_of_wide 8 Try.f8 rfl rfl rfl rfl rfl rfl rfl ⟨rfl, rfl, rfl, rfl, rfl⟩ rfl rfl rfl rfl rfl (by kernel_rfl) Try.func8 (by kernel_rfl)
    (of_decide_eq_true (by kernel_rfl)) (by unfold Func.isWrapper; first | (rw [if_pos (by decide +kernel)]; kernel_rfl) | (rw [if_neg (by decide +kernel)]; exact ⟨rfl, rfl⟩))
    (fun os started H enc _ => elemPads_step os started H enc)
#print axioms elemPads_holds
end Go.Proofs.Ytkkkjjonjdkngaa
