/-
  The given statements of these laws, each out of its function's contract.
-/
import Derived.Test.YtoijaooechdemaaRows
import Derived.Test.YtoijaooechdemaaQNm
import Derived.Test.YtoijaooechdemaaQBase3
namespace Go.Proofs.Ytoijaooechdemaa
open Go.Vc Go.ChangeShapes Go.WideShapes Go.ChangeAt Go.RowKit
set_option maxRecDepth 100000
theorem own_NackMany : ownKnob Try.prog.godebug = none := by kernel_rfl
theorem laidOut_NackMany : laidOutB Try.prog = true := by kernel_rfl
theorem nackMany_step (os : Os) (started : os.Started) (H : Type) (enc : TypeId × Value → H) :
    ReturnsInHanded {} Try.checked os 7 .any (Rows.nackManySpec.pre6 enc Try.prog Try.f7 Rows.nackManyRow.domain false) (Rows.nackManySpec.post enc Try.prog Try.f7 false true false false) :=
  lifted (C := Try.checked) (s := Rows.nackManySpec) (shs := [(.pair (.int .u16) (.pair (.int .u16) .unit)), (.int .u16)]) (by decide) own_NackMany laidOut_NackMany started (by kernel_rfl) Try.func7
    (ChangeSpec.witness6 (enc := enc) (C := Try.checked) false ⟨#[], #[.agg #[.int .u16 0, .int .u16 0], .int .u16 0], []⟩ 8 (by kernel_rfl) (by kernel_rfl) (by kernel_rfl) (by kernel_rfl))
    (by kernel_rfl) (by kernel_rfl) rfl Try.underlying4 rfl (fun ds h => match ds, h with | [d0, d1], _ => rfl) law_NackMany
/-- The law NackMany returns true for every input; each argument reads as it did. -/
theorem nackMany_holds : Rows.NackManySaid :=
  OpenClaim.holds_of_wide 7 Try.f7 rfl rfl rfl rfl rfl rfl rfl ⟨rfl, rfl, rfl, rfl, rfl⟩ rfl rfl rfl rfl rfl (by kernel_rfl) Try.func7 (by kernel_rfl)
    (of_decide_eq_true (by kernel_rfl)) (by unfold Func.isWrapper; first | (rw [if_pos (by decide +kernel)]; kernel_rfl) | (rw [if_neg (by decide +kernel)]; exact ⟨rfl, rfl⟩))
    (fun os started H enc _ => nackMany_step os started H enc)
#print axioms nackMany_holds
end Go.Proofs.Ytoijaooechdemaa
