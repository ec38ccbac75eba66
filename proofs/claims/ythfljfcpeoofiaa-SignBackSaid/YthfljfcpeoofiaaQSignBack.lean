/-
  The given statements of these laws, each out of its function's contract.
-/
import Derived.Test.YthfljfcpeoofiaaRows
import Derived.Test.YthfljfcpeoofiaaQSe
import Derived.Test.YthfljfcpeoofiaaQBase3
namespace Go.Proofs.Ythfljfcpeoofiaa
open Go.Vc Go.ChangeShapes Go.WideShapes Go.ChangeAt Go.RowKit
set_option maxRecDepth 100000
theorem own_SignBack : ownKnob Try.prog.godebug = none := by kernel_rfl
theorem laidOut_SignBack : laidOutB Try.prog = true := by kernel_rfl
theorem signBack_step (os : Os) (started : os.Started) (H : Type) (enc : TypeId × Value → H) :
    ReturnsInHanded {} Try.checked os 10 .any (Rows.signBackSpec.pre6 enc Try.prog Try.f10 Rows.signBackRow.domain false) (Rows.signBackSpec.post enc Try.prog Try.f10 false true false false) :=
  lifted (C := Try.checked) (s := Rows.signBackSpec) (shs := [(.pair (.int .i64) (.pair .str (.pair (.int .u32) (.pair .bool (.pair .bool (.pair (.int .i64) .unit)))))), (.pair (.int .i64) (.pair .str (.pair (.int .u32) (.pair .bool (.pair .bool (.pair (.int .i64) .unit)))))), (.int .i64), (.sl (.int .u8))]) (by decide) own_SignBack laidOut_SignBack started (by kernel_rfl) Try.func10
    (ChangeSpec.witness6 (enc := enc) (C := Try.checked) false ⟨#[], #[.agg #[.int .i64 0, .string ⟨#[]⟩, .int .u32 0, .bool false, .bool false, .int .i64 0], .agg #[.int .i64 0, .string ⟨#[]⟩, .int .u32 0, .bool false, .bool false, .int .i64 0], .int .i64 0, .slice none 0 0], []⟩ 8 (by kernel_rfl) (by kernel_rfl) (by kernel_rfl) (by kernel_rfl))
    (by kernel_rfl) (by kernel_rfl) rfl Try.underlying4 rfl (fun ds h => match ds, h with | [d0, d1, d2, d3], _ => rfl) law_SignBack
/-- The law SignBack returns true for every input; each argument reads as it did. -/
theorem signBack_holds : Rows.SignBackSaid :=
  OpenClaim.holds_of_wide 10 Try.f10 rfl rfl rfl rfl rfl rfl rfl ⟨rfl, rfl, rfl, rfl, rfl⟩ rfl rfl rfl rfl rfl (by kernel_rfl) Try.func10 (by kernel_rfl)
    (of_decide_eq_true (by kernel_rfl)) (by unfold Func.isWrapper; first | (rw [if_pos (by decide +kernel)]; kernel_rfl) | (rw [if_neg (by decide +kernel)]; exact ⟨rfl, rfl⟩))
    (fun os started H enc _ => signBack_step os started H enc)
#print axioms signBack_holds
end Go.Proofs.Ythfljfcpeoofiaa
