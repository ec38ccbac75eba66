/-
  The given statements of these laws, each out of its function's contract.
-/
import Derived.Test.YtoijaooechdemaaRows
import Derived.Test.YtoijaooechdemaaQNl
import Derived.Test.YtoijaooechdemaaQBase3
namespace Go.Proofs.Ytoijaooechdemaa
open Go.Vc Go.ChangeShapes Go.WideShapes Go.ChangeAt Go.RowKit
set_option maxRecDepth 100000
theorem own_NackRight : ownKnob Try.prog.godebug = none := by kernel_rfl
theorem laidOut_NackRight : laidOutB Try.prog = true := by kernel_rfl
theorem nackRight_step (os : Os) (started : os.Started) (H : Type) (enc : TypeId × Value → H) :
    ReturnsInHanded {} Try.checked os 6 .any (Rows.nackRightSpec.pre6 enc Try.prog Try.f6 Rows.nackRightRow.domain false) (Rows.nackRightSpec.post enc Try.prog Try.f6 false true false false) :=
  lifted (C := Try.checked) (s := Rows.nackRightSpec) (shs := [(.sl (.pair (.int .u16) (.pair (.int .u16) .unit))), (.sl (.int .u16)), (.sl (.int .u8))]) (by decide) own_NackRight laidOut_NackRight started (by kernel_rfl) Try.func6
    (ChangeSpec.witness6 (enc := enc) (C := Try.checked) false ⟨#[], #[.slice none 0 0, .slice none 0 0, .slice none 0 0], []⟩ 8 (by kernel_rfl) (by kernel_rfl) (by kernel_rfl) (by kernel_rfl))
    (by kernel_rfl) (by kernel_rfl) rfl Try.underlying4 rfl (fun ds h => match ds, h with | [d0, d1, d2], _ => rfl) law_NackRight
/-- The law NackRight returns true for every input; each argument reads as it did. -/
theorem nackRight_holds : Rows.NackRightSaid :=
  OpenClaim.holds_of_wide 6 Try.f6 rfl rfl rfl rfl rfl rfl rfl ⟨rfl, rfl, rfl, rfl, rfl⟩ rfl rfl rfl rfl rfl (by kernel_rfl) Try.func6 (by kernel_rfl)
    (of_decide_eq_true (by kernel_rfl)) (by unfold Func.isWrapper; first | (rw [if_pos (by decide +kernel)]; kernel_rfl) | (rw [if_neg (by decide +kernel)]; exact ⟨rfl, rfl⟩))
    (fun os started H enc _ => nackRight_step os started H enc)
#print axioms nackRight_holds
end Go.Proofs.Ytoijaooechdemaa
