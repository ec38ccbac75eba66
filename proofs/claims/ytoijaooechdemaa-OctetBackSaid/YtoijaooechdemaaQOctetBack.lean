/-
  The given statements of these laws, each out of its function's contract.
-/
import Derived.Test.YtoijaooechdemaaRows
import Derived.Test.YtoijaooechdemaaQOl
import Derived.Test.YtoijaooechdemaaQBase2
namespace Go.Proofs.Ytoijaooechdemaa
open Go.Vc Go.ChangeShapes Go.WideShapes Go.ChangeAt Go.RowKit
set_option maxRecDepth 100000
theorem own_OctetBack : ownKnob Try.prog.godebug = none := by kernel_rfl
theorem laidOut_OctetBack : laidOutB Try.prog = true := by kernel_rfl
theorem octetBack_step (os : Os) (started : os.Started) (H : Type) (enc : TypeId × Value → H) :
    ReturnsInHanded {} Try.checked os 13 .any (Rows.octetBackSpec.pre6 enc Try.prog Try.f13 Rows.octetBackRow.domain false) (Rows.octetBackSpec.post enc Try.prog Try.f13 false true false false) :=
  lifted (C := Try.checked) (s := Rows.octetBackSpec) (shs := [(.sl (.int .u8)), (.int .i64), (.int .i64), (.int .u64), (.int .u64), (.int .i64)]) own_OctetBack laidOut_OctetBack started (by kernel_rfl) Try.func13
    (ChangeSpec.witness6 (enc := enc) (C := Try.checked) false ⟨#[], #[.slice none 0 0, .int .i64 0, .int .i64 0, .int .u64 0, .int .u64 0, .int .i64 0], []⟩ 8 (by kernel_rfl) (by kernel_rfl) (by kernel_rfl) (by kernel_rfl))
    (by kernel_rfl) (by kernel_rfl) rfl Try.underlying4 rfl (fun ds h => match ds, h with | [d0, d1, d2, d3, d4, d5], _ => rfl) law_OctetBack
/-- The law OctetBack returns true for every input; each argument reads as it did. -/
theorem octetBack_holds : Rows.OctetBackSaid :=
  OpenClaim.holds_of_wide 13 Try.f13 rfl rfl rfl rfl rfl rfl rfl ⟨rfl, rfl, rfl, rfl, rfl⟩ rfl rfl rfl rfl rfl (by kernel_rfl) Try.func13 (by kernel_rfl)
    (of_decide_eq_true (by kernel_rfl)) (by unfold Func.isWrapper; first | (rw [if_pos (by decide +kernel)]; kernel_rfl) | (rw [if_neg (by decide +kernel)]; exact ⟨rfl, rfl⟩))
    (fun os started H enc _ => octetBack_step os started H enc)
#print axioms octetBack_holds
end Go.Proofs.Ytoijaooechdemaa
