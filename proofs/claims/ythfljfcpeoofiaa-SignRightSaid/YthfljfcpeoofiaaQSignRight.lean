/-
  The given statements of these laws, each out of its function's contract.
-/
import Derived.Test.YthfljfcpeoofiaaRows
import Derived.Test.YthfljfcpeoofiaaQSd
import Derived.Test.YthfljfcpeoofiaaQBase3
namespace Go.Proofs.Ythfljfcpeoofiaa
open Go.Vc Go.ChangeShapes Go.WideShapes Go.ChangeAt Go.RowKit
set_option maxRecDepth 100000
theorem own_SignRight : ownKnob Try.prog.godebug = none := by kernel_rfl
theorem laidOut_SignRight : laidOutB Try.prog = true := by kernel_rfl
theorem signRight_step (os : Os) (started : os.Started) (H : Type) (enc : TypeId × Value → H) :
    ReturnsInHanded {} Try.checked os 9 .any (Rows.signRightSpec.pre6 enc Try.prog Try.f9 Rows.signRightRow.domain false) (Rows.signRightSpec.post enc Try.prog Try.f9 false true false false) :=
  lifted (C := Try.checked) (s := Rows.signRightSpec) (shs := [(.pair (.int .i64) (.pair .str (.pair (.int .u32) (.pair .bool (.pair .bool (.pair (.int .i64) .unit)))))), (.int .i64), (.sl (.int .u8))]) (by decide) own_SignRight laidOut_SignRight started (by kernel_rfl) Try.func9
    (ChangeSpec.witness6 (enc := enc) (C := Try.checked) false ⟨#[], #[.agg #[.int .i64 0, .string ⟨#[]⟩, .int .u32 0, .bool false, .bool false, .int .i64 0], .int .i64 0, .slice none 0 0], []⟩ 8 (by kernel_rfl) (by kernel_rfl) (by kernel_rfl) (by kernel_rfl))
    (by kernel_rfl) (by kernel_rfl) rfl Try.underlying4 rfl (fun ds h => match ds, h with | [d0, d1, d2], _ => rfl) law_SignRight
/-- The law SignRight returns true for every input; each argument reads as it did. -/
theorem signRight_holds : Rows.SignRightSaid :=
  OpenClaim.holds_of_wide 9 Try.f9 rfl rfl rfl rfl rfl rfl rfl ⟨rfl, rfl, rfl, rfl, rfl⟩ rfl rfl rfl rfl rfl (by kernel_rfl) Try.func9 (by kernel_rfl)
    (of_decide_eq_true (by kernel_rfl)) (by unfold Func.isWrapper; first | (rw [if_pos (by decide +kernel)]; kernel_rfl) | (rw [if_neg (by decide +kernel)]; exact ⟨rfl, rfl⟩))
    (fun os started H enc _ => signRight_step os started H enc)
#print axioms signRight_holds
end Go.Proofs.Ythfljfcpeoofiaa
