/-
  The given statements of these laws, each out of its function's contract.
-/
import Derived.Test.YthfljfcpeoofiaaRows
import Derived.Test.YthfljfcpeoofiaaQSf
import Derived.Test.YthfljfcpeoofiaaQBase3
namespace Go.Proofs.Ythfljfcpeoofiaa
open Go.Vc Go.ChangeShapes Go.WideShapes Go.ChangeAt Go.RowKit
set_option maxRecDepth 100000
theorem own_SignWhole : ownKnob Try.prog.godebug = none := by kernel_rfl
theorem laidOut_SignWhole : laidOutB Try.prog = true := by kernel_rfl
theorem signWhole_step (os : Os) (started : os.Started) (H : Type) (enc : TypeId × Value → H) :
    ReturnsInHanded {} Try.checked os 11 .any (Rows.signWholeSpec.pre6 enc Try.prog Try.f11 Rows.signWholeRow.domain false) (Rows.signWholeSpec.post enc Try.prog Try.f11 false true false false) :=
  lifted (C := Try.checked) (s := Rows.signWholeSpec) (shs := [(.int .u8), (.int .u8), (.int .u8), (.int .u8)]) (by decide) own_SignWhole laidOut_SignWhole started (by kernel_rfl) Try.func11
    (ChangeSpec.witness6 (enc := enc) (C := Try.checked) false ⟨#[], #[.int .u8 0, .int .u8 0, .int .u8 0, .int .u8 0], []⟩ 8 (by kernel_rfl) (by kernel_rfl) (by kernel_rfl) (by kernel_rfl))
    (by kernel_rfl) (by kernel_rfl) rfl Try.underlying4 rfl (fun ds h => match ds, h with | [d0, d1, d2, d3], _ => rfl) law_SignWhole
/-- The law SignWhole returns true for every input; each argument reads as it did. -/
theorem signWhole_holds : Rows.SignWholeSaid :=
  OpenClaim.holds_of_wide 11 Try.f11 rfl rfl rfl rfl rfl rfl rfl ⟨rfl, rfl, rfl, rfl, rfl⟩ rfl rfl rfl rfl rfl (by kernel_rfl) Try.func11 (by kernel_rfl)
    (of_decide_eq_true (by kernel_rfl)) (by unfold Func.isWrapper; first | (rw [if_pos (by decide +kernel)]; kernel_rfl) | (rw [if_neg (by decide +kernel)]; exact ⟨rfl, rfl⟩))
    (fun os started H enc _ => signWhole_step os started H enc)
#print axioms signWhole_holds
end Go.Proofs.Ythfljfcpeoofiaa
