/-
  The given statements of these laws, each out of its function's contract.
-/
import Derived.Test.YtoijaooechdemaaRows
import Derived.Test.YtoijaooechdemaaQOl
import Derived.Test.YtoijaooechdemaaQBase2
namespace Go.Proofs.Ytoijaooechdemaa
open Go.Vc Go.ChangeShapes Go.WideShapes Go.ChangeAt Go.RowKit
set_option maxRecDepth 100000
theorem own_OctetJoin : ownKnob Try.prog.godebug = none := by kernel_rfl
theorem laidOut_OctetJoin : laidOutB Try.prog = true := by kernel_rfl
theorem octetJoin_step (os : Os) (started : os.Started) (H : Type) (enc : TypeId × Value → H) :
    ReturnsInHanded {} Try.checked os 5 .any (Rows.octetJoinSpec.pre6 enc Try.prog Try.f5 Rows.octetJoinRow.domain false) (Rows.octetJoinSpec.post enc Try.prog Try.f5 false true false false) :=
  lifted (C := Try.checked) (s := Rows.octetJoinSpec) (shs := [(.sl (.int .u8)), (.int .i64), (.int .i64), (.int .i64), (.int .i64)]) own_OctetJoin laidOut_OctetJoin started (by kernel_rfl) Try.func5
    (ChangeSpec.witness6 (enc := enc) (C := Try.checked) false ⟨#[], #[.slice none 0 0, .int .i64 0, .int .i64 0, .int .i64 0, .int .i64 0], []⟩ 8 (by kernel_rfl) (by kernel_rfl) (by kernel_rfl) (by kernel_rfl))
    (by kernel_rfl) (by kernel_rfl) rfl Try.underlying4 rfl (fun ds h => match ds, h with | [d0, d1, d2, d3, d4], _ => rfl) law_OctetJoin
/-- The law OctetJoin returns true for every input; each argument reads as it did. -/
theorem octetJoin_holds : Rows.OctetJoinSaid :=
  OpenClaim.holds_of_wide 5 Try.f5 rfl rfl rfl rfl rfl rfl rfl ⟨rfl, rfl, rfl, rfl, rfl⟩ rfl rfl rfl rfl rfl (by kernel_rfl) Try.func5 (by kernel_rfl)
    (of_decide_eq_true (by kernel_rfl)) (by unfold Func.isWrapper; first | (rw [if_pos (by decide +kernel)]; kernel_rfl) | (rw [if_neg (by decide +kernel)]; exact ⟨rfl, rfl⟩))
    (fun os started H enc _ => octetJoin_step os started H enc)
#print axioms octetJoin_holds
end Go.Proofs.Ytoijaooechdemaa
