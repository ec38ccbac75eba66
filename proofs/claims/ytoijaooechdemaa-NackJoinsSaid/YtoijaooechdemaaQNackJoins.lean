/-
  The given statements of these laws, each out of its function's contract.
-/
import Derived.Test.YtoijaooechdemaaRows
import Derived.Test.YtoijaooechdemaaQNl
import Derived.Test.YtoijaooechdemaaQBase3
namespace Go.Proofs.Ytoijaooechdemaa
open Go.Vc Go.ChangeShapes Go.WideShapes Go.ChangeAt Go.RowKit
set_option maxRecDepth 100000
theorem own_NackJoins : ownKnob Try.prog.godebug = none := by kernel_rfl
theorem laidOut_NackJoins : laidOutB Try.prog = true := by kernel_rfl
theorem nackJoins_step (os : Os) (started : os.Started) (H : Type) (enc : TypeId × Value → H) :
    ReturnsInHanded {} Try.checked os 9 .any (Rows.nackJoinsSpec.pre6 enc Try.prog Try.f9 Rows.nackJoinsRow.domain false) (Rows.nackJoinsSpec.post enc Try.prog Try.f9 false true false false) :=
  lifted (C := Try.checked) (s := Rows.nackJoinsSpec) (shs := [(.sl (.pair (.int .u16) (.pair (.int .u16) .unit))), (.sl (.pair (.int .u16) (.pair (.int .u16) .unit))), (.int .u16), (.int .u16)]) (by decide) own_NackJoins laidOut_NackJoins started (by kernel_rfl) Try.func9
    (ChangeSpec.witness6 (enc := enc) (C := Try.checked) false ⟨#[], #[.slice none 0 0, .slice none 0 0, .int .u16 0, .int .u16 0], []⟩ 8 (by kernel_rfl) (by kernel_rfl) (by kernel_rfl) (by kernel_rfl))
    (by kernel_rfl) (by kernel_rfl) rfl Try.underlying4 rfl (fun ds h => match ds, h with | [d0, d1, d2, d3], _ => rfl) law_NackJoins
/-- The law NackJoins returns true for every input; each argument reads as it did. -/
theorem nackJoins_holds : Rows.NackJoinsSaid :=
  OpenClaim.holds_of_wide 9 Try.f9 rfl rfl rfl rfl rfl rfl rfl ⟨rfl, rfl, rfl, rfl, rfl⟩ rfl rfl rfl rfl rfl (by kernel_rfl) Try.func9 (by kernel_rfl)
    (of_decide_eq_true (by kernel_rfl)) (by unfold Func.isWrapper; first | (rw [if_pos (by decide +kernel)]; kernel_rfl) | (rw [if_neg (by decide +kernel)]; exact ⟨rfl, rfl⟩))
    (fun os started H enc _ => nackJoins_step os started H enc)
#print axioms nackJoins_holds
end Go.Proofs.Ytoijaooechdemaa
