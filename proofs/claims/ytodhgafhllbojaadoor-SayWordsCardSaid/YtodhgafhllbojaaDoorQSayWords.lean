/-
  The given statements of these laws, each out of its function's contract: the row that lists variables, and the tied card.
  What a card of this seat's second group says by the tie is the translator's report on a pruned copy of the program (the seat's AIM, PRUNED).
-/
import Derived.Test.YtodhgafhllbojaaDoorTie
import Derived.Test.YtodhgafhllbojaaDoorCards
import Derived.Test.YtodhgafhllbojaaDoorQZh
import Derived.Test.YtodhgafhllbojaaDoorQZg
import Derived.Test.YtodhgafhllbojaaDoorQBase4
import Derived.PinnedBridge
namespace Go.Proofs.YtodhgafhllbojaaDoor
open Go.Vc Go.ChangeShapes Go.WideShapes Go.ChangeAt Go.RowKit Go.Lib
set_option maxRecDepth 100000
theorem own_SayWords : ownKnob Tryd.prog.godebug = none := by kernel_rfl
theorem laidOut_SayWords : laidOutB Tryd.prog = true := by kernel_rfl
theorem sayWords_step (os : Os) (started : os.Started) (H : Type) (enc : TypeId × Value → H) :
    ReturnsInHanded {} Tryd.checked os 9 .any (fun w args => (Rows.sayWordsSpec.pre enc Tryd.prog Tryd.f9 Rows.sayWordsRow.domain false w args ∧ laidMetH Tryd.prog Rows.sayWordsRow.laid w) ∧ sizedMet enc Tryd.prog Tryd.f9 (OpenSpec.ofChange Rows.sayWordsSpec) false w args) (Rows.sayWordsSpec.post enc Tryd.prog Tryd.f9 false true false false) :=
  lifted2 (C := Tryd.checked) (s := Rows.sayWordsSpec) (laid := Rows.sayWordsRow.laid) (shs := [(.pair .bool (.pair .bool (.pair .bool (.pair (.int .i64) (.pair .bool (.pair (.int .u16) (.pair .bool (.pair (.int .u32) (.pair .bool (.pair (.int .u32) (.pair (.sl (.pair (.int .i64) (.pair (.int .i64) .unit))) (.pair (.sl (.pair (.int .i64) (.pair (.sl (.int .u8)) .unit))) (.pair (.sl (.int .i64)) (.pair (.sl (.pair (.int .i64) (.pair (.sl (.int .u8)) .unit))) (.pair .bool .unit))))))))))))))), (.int .u8)]) (by decide) (fun W h => by rw [MakeChecks.laidMetH_plain _ _ _ (by kernel_rfl)] at h; exact kw_row h) own_SayWords laidOut_SayWords started (by kernel_rfl) Tryd.func9
    (ChangeSpec.witness_shaped (enc := enc) (C := Tryd.checked) (os := os) (X := fun w _ => laidMetH Tryd.prog Rows.sayWordsRow.laid w) false (World.laidAll Tryd.prog os Rows.sayWordsRow.laid) #[.agg #[.bool false, .bool false, .bool false, .int .i64 0, .bool false, .int .u16 0, .bool false, .int .u32 0, .bool false, .int .u32 0, .slice none 0 0, .slice none 0 0, .slice none 0 0, .slice none 0 0, .bool false], .int .u8 0] 8 (World.laidAll_os _ _ _)
      (World.shaped_of_ZipB (by kernel_rfl) (by kernel_rfl)) (by kernel_rfl) (by kernel_rfl) (by kernel_rfl)
      (by rw [MakeChecks.laidMetH_plain _ _ _ (by kernel_rfl)]; exact laidMet_laidAll _ (by kernel_rfl) (by kernel_rfl)))
    (by kernel_rfl) (by kernel_rfl) rfl Tryd.underlying4 rfl (fun ds h => match ds, h with | [d0, d1], _ => rfl) law_SayWords
theorem sayWords_row : Rows.SayWordsSaid :=
  OpenClaim.holds_of_wide 9 Tryd.f9 rfl rfl rfl rfl rfl rfl rfl ⟨rfl, rfl, rfl, rfl, rfl⟩ rfl rfl rfl rfl rfl (by kernel_rfl) Tryd.func9 (by kernel_rfl)
    (of_decide_eq_true (by kernel_rfl)) (by unfold Func.isWrapper; first | (rw [if_pos (by decide +kernel)]; kernel_rfl) | (rw [if_neg (by decide +kernel)]; exact ⟨rfl, rfl⟩))
    (fun os started H enc _ => sayWords_step os started H enc)
/-- The law SayWords returns true for every input, the listed tables as the program's text lays them; each argument reads as it did: the tied card. -/
theorem sayWords_holds : Rows.SayWordsCardSaid :=
  Claim7.holds_tied_plain_at .later [] [.data, .data, .data, .data, .pinned] true (true, "e4e6853c3238f8fd3bf590eb20d5ac84a8fa235a56c716cdc61dafc22c85b6dc") false sayWords_row (fun _ h => by cases h) (by kernel_rfl) (fun _ h => by cases h) sayWords_row_tie rfl ⟨rfl, rfl⟩ (by kernel_rfl) rfl
    (fun f fn hf hfn => by
      obtain rfl : f = 9 := Option.some.inj ((show Tryd.prog.funcNamed "crossbar/crossbarlaw30.SayWords" = some 9 by kernel_rfl).symm.trans hf) |>.symm
      obtain rfl : fn = Tryd.f9 := (Option.some.inj (Tryd.func9.symm.trans hfn)).symm
      exact ⟨by kernel_rfl, fun j t ht => by
        have hm : t ∈ Tryd.f9.params.toList := by simpa using Array.mem_of_getElem? ht
        have hall : (Tryd.f9.params.toList.all fun u => !Tryd.prog.wantsStandIn u) = true := by kernel_rfl
        exact (show Tryd.prog.wantsStandIn t = false by simpa using List.all_eq_true.1 hall t hm)⟩)
    (by kernel_rfl)
#print axioms sayWords_holds
end Go.Proofs.YtodhgafhllbojaaDoor
