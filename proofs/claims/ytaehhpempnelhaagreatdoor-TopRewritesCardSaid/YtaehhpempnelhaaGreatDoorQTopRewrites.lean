/-
  The given statements of these laws, each out of its function's contract: the row that lists variables, and the tied card.
  What a card of this seat's second group says by the tie is the translator's report on a pruned copy of the program (the seat's AIM, PRUNED).
-/
import Derived.Test.YtaehhpempnelhaaGreatDoorTie
import Derived.Test.YtaehhpempnelhaaGreatDoorCards
import Derived.Test.YtaehhpempnelhaaGreatDoorQTx4
import Derived.Test.YtaehhpempnelhaaGreatDoorQTx7
import Derived.Test.YtaehhpempnelhaaGreatDoorQBase4
import Derived.PinnedBridge
namespace Go.Proofs.YtaehhpempnelhaaGreatDoor
open Go.Vc Go.ChangeShapes Go.WideShapes Go.ChangeAt Go.RowKit Go.Lib
set_option maxRecDepth 100000
theorem acJ:ownKnob Tryz.prog.godebug=none:=by kernel_rfl
theorem abA:laidOutB Tryz.prog=true:=by kernel_rfl
theorem topRewrites_step (os:Os) (started:os.Started) (H:Type) (enc:TypeId×Value→H):
  ReturnsInHanded {} Tryz.checked os 3 .any (fun w args=>(Rows.topRewritesSpec.pre enc Tryz.prog Tryz.f3 Rows.topRewritesRow.domain false w args∧laidMetH Tryz.prog Rows.topRewritesRow.laid w)∧sizedMet enc Tryz.prog Tryz.f3 (OpenSpec.ofChange Rows.topRewritesSpec) false w args) (Rows.topRewritesSpec.post enc Tryz.prog Tryz.f3 false true false false):=
 ajd (C:=Tryz.checked) (s:=Rows.topRewritesSpec) (laid:=Rows.topRewritesRow.laid) (bM:=[(.sl (.int .u8)),(.pair .bool (.pair .bool (.pair .bool (.pair (.int .i64) (.pair .bool (.pair (.int .u16) (.pair .bool (.pair (.int .u32) (.pair .bool (.pair (.int .u32) (.pair (.sl (.pair (.int .i64) (.pair (.int .i64) .unit))) (.pair (.sl (.pair (.int .i64) (.pair (.sl (.int .u8)) .unit))) (.pair (.sl (.int .i64)) (.pair (.sl (.pair (.int .i64) (.pair (.sl (.int .u8)) .unit))) (.pair .bool .unit)))))))))))))))]) (by decide) (fun W h=>by rw[MakeChecks.laidMetH_plain _ _ _ (by kernel_rfl)] at h;exact kw_row h) acJ abA started (by kernel_rfl) Tryz.func3
  (ChangeSpec.witness_shaped (enc:=enc) (C:=Tryz.checked) (os:=os) (X:=fun w _=>laidMetH Tryz.prog Rows.topRewritesRow.laid w) false (World.laidAll Tryz.prog os Rows.topRewritesRow.laid) #[.slice none 0 0,.agg #[.bool false,.bool false,.bool false,.int .i64 0,.bool false,.int .u16 0,.bool false,.int .u32 0,.bool false,.int .u32 0,.slice none 0 0,.slice none 0 0,.slice none 0 0,.slice none 0 0,.bool false]] 8 (World.laidAll_os _ _ _)
   (World.shaped_of_ZipB (by kernel_rfl) (by kernel_rfl)) (by kernel_rfl) (by kernel_rfl) (by kernel_rfl)
   (by rw[MakeChecks.laidMetH_plain _ _ _ (by kernel_rfl)];exact laidMet_laidAll _ (by kernel_rfl) (by kernel_rfl)))
  (by kernel_rfl) (by kernel_rfl) rfl Tryz.underlying4 rfl (fun ds h=>match ds,h with| [d0,d1],_=>rfl) acK
theorem acR:(Rows.topRewritesRow.wf (OpenSpec.ofChange Rows.topRewritesSpec))=true:=by kernel_rfl
theorem acQ:(laidOutB Tryz.prog)=true:=by kernel_rfl
theorem acP:(mapsRowed Tryz.prog)=true:=by kernel_rfl
theorem acO:(Tryz.f3.params.all (Tryz.prog.readableRec ·))=true:=by kernel_rfl
theorem acN:(namedTie Tryz.prog Rows.topRewritesRow.named Rows.topRewritesSpec.vars)=true:=by kernel_rfl
theorem acM:((Rows.topRewritesRow.stops==[])&&(Tryz.prog.stops==[])&&(Rows.topRewritesRow.knobs==[])&&(Tryz.prog.stopKnobs==[]))=true:=by kernel_rfl
theorem ach:(Rows.topRewritesRow.inPlace==Tryz.prog.inPlace 3)=true:=by kernel_rfl
theorem acg:(Rows.topRewritesRow.unfollowed==Tryz.prog.unfollowed 3)=true:=by kernel_rfl
theorem acf:(Rows.topRewritesRow.recurses==Tryz.prog.recurses 3)=true:=by kernel_rfl
theorem ace:(Rows.topRewritesRow.named==Tryz.prog.varsNamed 3)=true:=by kernel_rfl
theorem acd:((Rows.topRewritesRow.maps==(Tryz.f3.params.toList++Rows.topRewritesSpec.plain.varTypes Tryz.prog).any (Tryz.prog.mapsRec ·))&&(Rows.topRewritesRow.ifaces==(Tryz.f3.params.toList++Rows.topRewritesSpec.plain.varTypes Tryz.prog).any (Tryz.prog.ifacesRec ·))&&(Rows.topRewritesRow.mapsOut==Tryz.prog.mapsAmong Tryz.f3.resultTypes.toList))=true:=by kernel_rfl
theorem ab9:((Rows.topRewritesRow.loops==(Tryz.f3.params.toList++Rows.topRewritesSpec.plain.varTypes Tryz.prog).any (Tryz.prog.loopsFrom ·))&&(Rows.topRewritesRow.wideKeys==(Tryz.f3.params.toList++Rows.topRewritesSpec.plain.varTypes Tryz.prog++Tryz.f3.resultTypes.toList).any (Tryz.prog.wideKeysFrom ·)))=true:=by kernel_rfl
theorem ab8:(Rows.topRewritesSpec.vars.all (Tryz.prog.varReadable ·)&&Tryz.f3.resultTypes.all (fun t=>Tryz.prog.readableRec t&&decide (t<Tryz.prog.types.size))&&(Rows.topRewritesRow.ifacesOut==Tryz.f3.resultTypes.toList.any (Tryz.prog.ifacesRec ·))&&(Rows.topRewritesRow.loopsOut==Tryz.f3.resultTypes.toList.any (Tryz.prog.loopsFrom ·)))=true:=by kernel_rfl
theorem ab7:(Rows.topRewritesRow.plainKeys==Tryz.prog.plainKeys)=true:=by kernel_rfl
theorem ab6:(Rows.topRewritesRow.shortTexts.isNone&&Tryz.prog.stopsHeard)=true:=by kernel_rfl
theorem ab5:(Tryz.prog.mayEnter)=true:=by kernel_rfl
theorem abM:(Rows.topRewritesRow.lifted==Tryz.prog.liftsFinal)=true:=by kernel_rfl
theorem abL:(Tryz.prog.make==some Rows.topRewritesRow.make)=true:=by kernel_rfl
theorem ab4:((Rows.topRewritesRow.kinds==(if Rows.topRewritesRow.domain.isEmpty then [] else Tryz.f3.params.toList.map fun t=>match Tryz.prog.underlying t with|some (.int k)=>some k|_=>none))&&(Rows.topRewritesRow.pinned==Rows.topRewritesRow.pinnedBy))=true:=by kernel_rfl
theorem ab3:((Rows.topRewritesRow.veiled==(Tryz.f3.params.toList++Rows.topRewritesSpec.plain.varTypes Tryz.prog++Tryz.f3.resultTypes.toList).any (Tryz.prog.veiledRec ·))&&Rows.topRewritesRow.veiledFits Tryz.prog Tryz.f3.params.toList (Tryz.f3.params.toList++Rows.topRewritesSpec.plain.varTypes Tryz.prog++Tryz.f3.resultTypes.toList))=true:=by kernel_rfl
theorem OW:Tryz.prog.funcNamed "crossbar/crossbartop.TopRewrites" =some 3:=by kernel_rfl
theorem abN:Tryz.f3.isInstance Tryz.prog Rows.topRewritesRow.origin Rows.topRewritesRow.targs:=of_decide_eq_true (by kernel_rfl)
theorem abK:Tryz.f3.isWrapper Tryz.prog Rows.topRewritesRow.wrapper Rows.topRewritesRow.mainSum:=by unfold Func.isWrapper;first|(rw[if_pos (by decide+kernel)];kernel_rfl)|(rw[if_neg (by decide+kernel)];exact ⟨rfl,rfl⟩)
theorem abC:joinedFacts Tryz.prog 3 Tryz.f3 Rows.topRewritesSpec Rows.topRewritesRow=true:=ag4 acR acQ acP acO acN acM ach acg acf ace acd ab9 ab8 ab7 ab6 ab5 abM abL ab4 ab3
theorem topRewrites_row:Rows.TopRewritesSaid:=
 OpenClaim.holds_of_wide 3 Tryz.f3 rfl rfl rfl rfl rfl rfl rfl ⟨rfl,rfl,rfl,rfl,rfl⟩ rfl rfl rfl rfl rfl OW Tryz.func3 abC abN abK
  (fun os started H enc _=>topRewrites_step os started H enc)
theorem topRewrites_holds:Rows.TopRewritesCardSaid:=
 Claim7.holds_tied_plain_at .later [] [.data,.data,.data,.data,.data,.data,.pinned] true (true, "f002308bdaf109cd928f89f25d9c50b46a60085b6330b05fda51e882e93eaa07") true topRewrites_row (fun _ h=>by cases h) (by kernel_rfl) (fun _ h=>by cases h) topRewrites_row_tie rfl ⟨rfl,rfl⟩ (by kernel_rfl) rfl
  (fun f fn hf hfn=>by
   obtain rfl:f=3:=Option.some.inj ((show Tryz.prog.funcNamed "crossbar/crossbartop.TopRewrites" =some 3 from OW).symm.trans hf)|>.symm;obtain rfl:fn=Tryz.f3:=(Option.some.inj (Tryz.func3.symm.trans hfn)).symm;exact ⟨by kernel_rfl,fun j t ht=>by
    have hm:t∈Tryz.f3.params.toList:=by simpa using Array.mem_of_getElem? ht
    have hall:(Tryz.f3.params.toList.all fun u=> !Tryz.prog.wantsStandIn u)=true:=by kernel_rfl
    exact (show Tryz.prog.wantsStandIn t=false by simpa using List.all_eq_true.1 hall t hm)⟩)
  (by kernel_rfl)
#print axioms topRewrites_holds
end Go.Proofs.YtaehhpempnelhaaGreatDoor
