/-
  The given statements of these laws, each out of its function's contract: the row that lists variables, and the tied card.
  What a card of this seat's second group says by the tie is the translator's report on a pruned copy of the program (the seat's AIM, PRUNED).
-/
import Derived.Test.YtodhgafhllbojaaDoorTie
import Derived.Test.YtodhgafhllbojaaDoorCards
import Derived.Test.YtodhgafhllbojaaDoorQTv
import Derived.Test.YtodhgafhllbojaaDoorQBase3
import Derived.PinnedBridge
namespace Go.Proofs.YtodhgafhllbojaaDoor
open Go.Vc Go.ChangeShapes Go.WideShapes Go.ChangeAt Go.RowKit Go.Lib
set_option maxRecDepth 100000
theorem own_TextWords : ownKnob Tryd.prog.godebug = none := by kernel_rfl
theorem laidOut_TextWords : laidOutB Tryd.prog = true := by kernel_rfl
theorem textWords_step (os : Os) (started : os.Started) (H : Type) (enc : TypeId × Value → H) :
    ReturnsInHanded {} Tryd.checked os 5 .any (fun w args => (Rows.textWordsSpec.pre enc Tryd.prog Tryd.f5 Rows.textWordsRow.domain false w args ∧ laidMetH Tryd.prog Rows.textWordsRow.laid w) ∧ sizedMet enc Tryd.prog Tryd.f5 (OpenSpec.ofChange Rows.textWordsSpec) false w args) (Rows.textWordsSpec.post enc Tryd.prog Tryd.f5 false true false false) :=
  lifted2 (C := Tryd.checked) (s := Rows.textWordsSpec) (laid := Rows.textWordsRow.laid) (shs := [(.sl .str), (.sl .bool), .str]) (by decide) (fun W h => by rw [MakeChecks.laidMetH_plain _ _ _ (by kernel_rfl)] at h; exact kw_row h) own_TextWords laidOut_TextWords started (by kernel_rfl) Tryd.func5
    (ChangeSpec.witness_shaped (enc := enc) (C := Tryd.checked) (os := os) (X := fun w _ => laidMetH Tryd.prog Rows.textWordsRow.laid w) false (World.laidAll Tryd.prog os Rows.textWordsRow.laid) #[.slice none 0 0, .slice none 0 0, .string ⟨#[]⟩] 8 (World.laidAll_os _ _ _)
      (World.shaped_of_ZipB (by kernel_rfl) (by kernel_rfl)) (by kernel_rfl) (by kernel_rfl) (by kernel_rfl)
      (by rw [MakeChecks.laidMetH_plain _ _ _ (by kernel_rfl)]; exact laidMet_laidAll _ (by kernel_rfl) (by kernel_rfl)))
    (by kernel_rfl) (by kernel_rfl) rfl Tryd.underlying4 rfl (fun ds h => match ds, h with | [d0, d1, d2], _ => rfl) law_TextWords
theorem textWords_row : Rows.TextWordsSaid :=
  OpenClaim.holds_of_wide 5 Tryd.f5 rfl rfl rfl rfl rfl rfl rfl ⟨rfl, rfl, rfl, rfl, rfl⟩ rfl rfl rfl rfl rfl (by kernel_rfl) Tryd.func5 (by kernel_rfl)
    (of_decide_eq_true (by kernel_rfl)) (by unfold Func.isWrapper; first | (rw [if_pos (by decide +kernel)]; kernel_rfl) | (rw [if_neg (by decide +kernel)]; exact ⟨rfl, rfl⟩))
    (fun os started H enc _ => textWords_step os started H enc)
/-- The law TextWords returns true for every input, the listed tables as the program's text lays them; each argument reads as it did: the tied card. -/
theorem textWords_holds : Rows.TextWordsCardSaid :=
  Claim7.holds_tied_plain_at .later [] [.data, .pinned] true (true, "e4e6853c3238f8fd3bf590eb20d5ac84a8fa235a56c716cdc61dafc22c85b6dc") false textWords_row (fun _ h => by cases h) (by kernel_rfl) (fun _ h => by cases h) textWords_row_tie rfl ⟨rfl, rfl⟩ (by kernel_rfl) rfl
    (fun f fn hf hfn => by
      obtain rfl : f = 5 := Option.some.inj ((show Tryd.prog.funcNamed "crossbar/crossbarlaw04.TextWords" = some 5 by kernel_rfl).symm.trans hf) |>.symm
      obtain rfl : fn = Tryd.f5 := (Option.some.inj (Tryd.func5.symm.trans hfn)).symm
      exact ⟨by kernel_rfl, fun j t ht => by
        have hm : t ∈ Tryd.f5.params.toList := by simpa using Array.mem_of_getElem? ht
        have hall : (Tryd.f5.params.toList.all fun u => !Tryd.prog.wantsStandIn u) = true := by kernel_rfl
        exact (show Tryd.prog.wantsStandIn t = false by simpa using List.all_eq_true.1 hall t hm)⟩)
    (by kernel_rfl)
#print axioms textWords_holds
end Go.Proofs.YtodhgafhllbojaaDoor
