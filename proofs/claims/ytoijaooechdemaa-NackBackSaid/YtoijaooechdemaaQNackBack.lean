/-
  The given statements of these laws, each out of its function's contract.
-/
import Derived.Test.YtoijaooechdemaaRows
import Derived.Test.YtoijaooechdemaaQNl
import Derived.Test.YtoijaooechdemaaQBase3
namespace Go.Proofs.Ytoijaooechdemaa
open Go.Vc Go.ChangeShapes Go.WideShapes Go.ChangeAt Go.RowKit
set_option maxRecDepth 100000
theorem own_NackBack : ownKnob Try.prog.godebug = none := by kernel_rfl
theorem laidOut_NackBack : laidOutB Try.prog = true := by kernel_rfl
theorem nackBack_step (os : Os) (started : os.Started) (H : Type) (enc : TypeId × Value → H) :
    ReturnsInHanded {} Try.checked os 8 .any (Rows.nackBackSpec.pre6 enc Try.prog Try.f8 Rows.nackBackRow.domain false) (Rows.nackBackSpec.post enc Try.prog Try.f8 false true false false) :=
  lifted (C := Try.checked) (s := Rows.nackBackSpec) (shs := [(.sl (.pair (.int .u16) (.pair (.int .u16) .unit))), (.sl (.int .u16)), (.sl (.int .u8))]) (by decide) own_NackBack laidOut_NackBack started (by kernel_rfl) Try.func8
    (ChangeSpec.witness6 (enc := enc) (C := Try.checked) false ⟨#[], #[.slice none 0 0, .slice none 0 0, .slice none 0 0], []⟩ 8 (by kernel_rfl) (by kernel_rfl) (by kernel_rfl) (by kernel_rfl))
    (by kernel_rfl) (by kernel_rfl) rfl Try.underlying4 rfl (fun ds h => match ds, h with | [d0, d1, d2], _ => rfl) law_NackBack
/-- The law NackBack returns true for every input; each argument reads as it did. -/
theorem nackBack_holds : Rows.NackBackSaid :=
  OpenClaim.holds_of_wide 8 Try.f8 rfl rfl rfl rfl rfl rfl rfl ⟨rfl, rfl, rfl, rfl, rfl⟩ rfl rfl rfl rfl rfl (by kernel_rfl) Try.func8 (by kernel_rfl)
    (of_decide_eq_true (by kernel_rfl)) (by unfold Func.isWrapper; first | (rw [if_pos (by decide +kernel)]; kernel_rfl) | (rw [if_neg (by decide +kernel)]; exact ⟨rfl, rfl⟩))
    (fun os started H enc _ => nackBack_step os started H enc)
#print axioms nackBack_holds
end Go.Proofs.Ytoijaooechdemaa
