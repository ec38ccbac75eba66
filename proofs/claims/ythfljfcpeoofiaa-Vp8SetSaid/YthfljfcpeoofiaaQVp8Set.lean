/-
  The given statements of these laws, each out of its function's contract.
-/
import Derived.Test.YthfljfcpeoofiaaRows
import Derived.Test.YthfljfcpeoofiaaQVm8
import Derived.Test.YthfljfcpeoofiaaQBase3
namespace Go.Proofs.Ythfljfcpeoofiaa
open Go.Vc Go.ChangeShapes Go.WideShapes Go.ChangeAt Go.RowKit
set_option maxRecDepth 100000
theorem own_Vp8Set : ownKnob Try.prog.godebug = none := by kernel_rfl
theorem laidOut_Vp8Set : laidOutB Try.prog = true := by kernel_rfl
theorem vp8Set_step (os : Os) (started : os.Started) (H : Type) (enc : TypeId × Value → H) :
    ReturnsInHanded {} Try.checked os 14 .any (Rows.vp8SetSpec.pre6 enc Try.prog Try.f14 Rows.vp8SetRow.domain false) (Rows.vp8SetSpec.post enc Try.prog Try.f14 false true false false) :=
  lifted (C := Try.checked) (s := Rows.vp8SetSpec) (shs := [(.sl (.int .u8)), (.int .i64), (.int .i64), (.int .i64)]) (by decide) own_Vp8Set laidOut_Vp8Set started (by kernel_rfl) Try.func14
    (ChangeSpec.witness6 (enc := enc) (C := Try.checked) false ⟨#[], #[.slice none 0 0, .int .i64 0, .int .i64 0, .int .i64 0], []⟩ 8 (by kernel_rfl) (by kernel_rfl) (by kernel_rfl) (by kernel_rfl))
    (by kernel_rfl) (by kernel_rfl) rfl Try.underlying4 rfl (fun ds h => match ds, h with | [d0, d1, d2, d3], _ => rfl) law_Vp8Set
/-- The law Vp8Set returns true for every input; each argument reads as it did. -/
theorem vp8Set_holds : Rows.Vp8SetSaid :=
  OpenClaim.holds_of_wide 14 Try.f14 rfl rfl rfl rfl rfl rfl rfl ⟨rfl, rfl, rfl, rfl, rfl⟩ rfl rfl rfl rfl rfl (by kernel_rfl) Try.func14 (by kernel_rfl)
    (of_decide_eq_true (by kernel_rfl)) (by unfold Func.isWrapper; first | (rw [if_pos (by decide +kernel)]; kernel_rfl) | (rw [if_neg (by decide +kernel)]; exact ⟨rfl, rfl⟩))
    (fun os started H enc _ => vp8Set_step os started H enc)
#print axioms vp8Set_holds
end Go.Proofs.Ythfljfcpeoofiaa
