/-
  The given statements of these laws, each out of its function's contract: the row that lists variables, and the tied card.
  What a card of this seat's second group says by the tie is the translator's report on a pruned copy of the program (the seat's AIM, PRUNED).
-/
import Derived.Test.YtodhgafhllbojaaDoorTie
import Derived.Test.YtodhgafhllbojaaDoorCards
import Derived.Test.YtodhgafhllbojaaDoorQZh
import Derived.Test.YtodhgafhllbojaaDoorQZj
import Derived.Test.YtodhgafhllbojaaDoorQBase4
import Derived.PinnedBridge
namespace Go.Proofs.YtodhgafhllbojaaDoor
open Go.Vc Go.ChangeShapes Go.WideShapes Go.ChangeAt Go.RowKit Go.Lib
set_option maxRecDepth 100000
theorem own_SayBack : ownKnob Tryd.prog.godebug = none := by kernel_rfl
theorem laidOut_SayBack : laidOutB Tryd.prog = true := by kernel_rfl
theorem sayBack_step (os : Os) (started : os.Started) (H : Type) (enc : TypeId × Value → H) :
    ReturnsInHanded {} Tryd.checked os 8 .any (fun w args => (Rows.sayBackSpec.pre enc Tryd.prog Tryd.f8 Rows.sayBackRow.domain false w args ∧ laidMetH Tryd.prog Rows.sayBackRow.laid w) ∧ sizedMet enc Tryd.prog Tryd.f8 (OpenSpec.ofChange Rows.sayBackSpec) false w args) (Rows.sayBackSpec.post enc Tryd.prog Tryd.f8 false true false false) :=
  lifted2 (C := Tryd.checked) (s := Rows.sayBackSpec) (laid := Rows.sayBackRow.laid) (shs := [(.pair .bool (.pair .bool (.pair .bool (.pair (.int .i64) (.pair .bool (.pair (.int .u16) (.pair .bool (.pair (.int .u32) (.pair .bool (.pair (.int .u32) (.pair (.sl (.pair (.int .i64) (.pair (.int .i64) .unit))) (.pair (.sl (.pair (.int .i64) (.pair (.sl (.int .u8)) .unit))) (.pair (.sl (.int .i64)) (.pair (.sl (.pair (.int .i64) (.pair (.sl (.int .u8)) .unit))) (.pair .bool .unit))))))))))))))), (.pair .bool (.pair .bool (.pair .bool (.pair (.int .i64) (.pair .bool (.pair (.int .u16) (.pair .bool (.pair (.int .u32) (.pair .bool (.pair (.int .u32) (.pair (.sl (.pair (.int .i64) (.pair (.int .i64) .unit))) (.pair (.sl (.pair (.int .i64) (.pair (.sl (.int .u8)) .unit))) (.pair (.sl (.int .i64)) (.pair (.sl (.pair (.int .i64) (.pair (.sl (.int .u8)) .unit))) (.pair .bool .unit))))))))))))))), .str]) (by decide) (fun W h => by rw [MakeChecks.laidMetH_plain _ _ _ (by kernel_rfl)] at h; exact kw_row h) own_SayBack laidOut_SayBack started (by kernel_rfl) Tryd.func8
    (ChangeSpec.witness_shaped (enc := enc) (C := Tryd.checked) (os := os) (X := fun w _ => laidMetH Tryd.prog Rows.sayBackRow.laid w) false (World.laidAll Tryd.prog os Rows.sayBackRow.laid) #[.agg #[.bool false, .bool false, .bool false, .int .i64 0, .bool false, .int .u16 0, .bool false, .int .u32 0, .bool false, .int .u32 0, .slice none 0 0, .slice none 0 0, .slice none 0 0, .slice none 0 0, .bool false], .agg #[.bool false, .bool false, .bool false, .int .i64 0, .bool false, .int .u16 0, .bool false, .int .u32 0, .bool false, .int .u32 0, .slice none 0 0, .slice none 0 0, .slice none 0 0, .slice none 0 0, .bool false], .string ⟨#[]⟩] 8 (World.laidAll_os _ _ _)
      (World.shaped_of_ZipB (by kernel_rfl) (by kernel_rfl)) (by kernel_rfl) (by kernel_rfl) (by kernel_rfl)
      (by rw [MakeChecks.laidMetH_plain _ _ _ (by kernel_rfl)]; exact laidMet_laidAll _ (by kernel_rfl) (by kernel_rfl)))
    (by kernel_rfl) (by kernel_rfl) rfl Tryd.underlying4 rfl (fun ds h => match ds, h with | [d0, d1, d2], _ => rfl) law_SayBack
theorem sayBack_row : Rows.SayBackSaid :=
  OpenClaim.holds_of_wide 8 Tryd.f8 rfl rfl rfl rfl rfl rfl rfl ⟨rfl, rfl, rfl, rfl, rfl⟩ rfl rfl rfl rfl rfl (by kernel_rfl) Tryd.func8 (by kernel_rfl)
    (of_decide_eq_true (by kernel_rfl)) (by unfold Func.isWrapper; first | (rw [if_pos (by decide +kernel)]; kernel_rfl) | (rw [if_neg (by decide +kernel)]; exact ⟨rfl, rfl⟩))
    (fun os started H enc _ => sayBack_step os started H enc)
/-- The law SayBack returns true for every input, the listed tables as the program's text lays them; each argument reads as it did: the tied card. -/
theorem sayBack_holds : Rows.SayBackCardSaid :=
  Claim7.holds_tied_plain_at .later [] [.data, .data, .data, .data, .pinned] true (true, "e4e6853c3238f8fd3bf590eb20d5ac84a8fa235a56c716cdc61dafc22c85b6dc") false sayBack_row (fun _ h => by cases h) (by kernel_rfl) (fun _ h => by cases h) sayBack_row_tie rfl ⟨rfl, rfl⟩ (by kernel_rfl) rfl
    (fun f fn hf hfn => by
      obtain rfl : f = 8 := Option.some.inj ((show Tryd.prog.funcNamed "crossbar/crossbarlaw30.SayBack" = some 8 by kernel_rfl).symm.trans hf) |>.symm
      obtain rfl : fn = Tryd.f8 := (Option.some.inj (Tryd.func8.symm.trans hfn)).symm
      exact ⟨by kernel_rfl, fun j t ht => by
        have hm : t ∈ Tryd.f8.params.toList := by simpa using Array.mem_of_getElem? ht
        have hall : (Tryd.f8.params.toList.all fun u => !Tryd.prog.wantsStandIn u) = true := by kernel_rfl
        exact (show Tryd.prog.wantsStandIn t = false by simpa using List.all_eq_true.1 hall t hm)⟩)
    (by kernel_rfl)
#print axioms sayBack_holds
end Go.Proofs.YtodhgafhllbojaaDoor
