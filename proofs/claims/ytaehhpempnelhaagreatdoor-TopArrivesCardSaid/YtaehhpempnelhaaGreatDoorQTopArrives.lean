/-
  The given statements of these laws, each out of its function's contract: the row that lists variables, and the tied card.
  What a card of this seat's second group says by the tie is the translator's report on a pruned copy of the program (the seat's AIM, PRUNED).
-/
import Derived.Test.YtaehhpempnelhaaGreatDoorTie
import Derived.Test.YtaehhpempnelhaaGreatDoorCards
import Derived.Test.YtaehhpempnelhaaGreatDoorQTx5
import Derived.Test.YtaehhpempnelhaaGreatDoorQTx11
import Derived.Test.YtaehhpempnelhaaGreatDoorQBase4
import Derived.PinnedBridge
namespace Go.Proofs.YtaehhpempnelhaaGreatDoor
open Go.Vc Go.ChangeShapes Go.WideShapes Go.ChangeAt Go.RowKit Go.Lib
set_option maxRecDepth 100000
theorem aip:ownKnob Tryz.prog.godebug=none:=by kernel_rfl
theorem afE:laidOutB Tryz.prog=true:=by kernel_rfl
theorem topArrives_step(os:Os)(started:os.Started)(H:Type)(enc:TypeId×Value->H):
  ReturnsInHanded {} Tryz.checked os 6 .any (fun w args=>(Rows.topArrivesSpec.pre enc Tryz.prog Tryz.f6 Rows.topArrivesRow.domain false w args/\laidMetH Tryz.prog Rows.topArrivesRow.laid w)/\sizedMet enc Tryz.prog Tryz.f6 (OpenSpec.ofChange Rows.topArrivesSpec) false w args) (Rows.topArrivesSpec.post enc Tryz.prog Tryz.f6 false true false false):=
 ao8 (C:=Tryz.checked) (s:=Rows.topArrivesSpec) (laid:=Rows.topArrivesRow.laid) (bY:=[(.pair (.int .u16) (.pair (.int .i64) (.pair (.int .u8) (.pair (.sl (.pair (.int .i64) (.pair (.int .i64) .unit))) .unit)))),(.int .u64),.bool,(.int .u16)]) (by decide) (fun W h=>by rw[MakeChecks.laidMetH_plain _ _ _ (by kernel_rfl)] at h;exact kw_row h) aip afE started (by kernel_rfl) Tryz.func6
  (ChangeSpec.witness_shaped (enc:=enc) (C:=Tryz.checked) (os:=os) (X:=fun w _=>laidMetH Tryz.prog Rows.topArrivesRow.laid w) false (World.laidAll Tryz.prog os Rows.topArrivesRow.laid) #[.agg #[.int .u16 0,.int .i64 0,.int .u8 0,.slice none 0 0],.int .u64 0,.bool false,.int .u16 0] 8 (World.laidAll_os _ _ _)
   (World.shaped_of_ZipB (by kernel_rfl) (by kernel_rfl)) (by kernel_rfl) (by kernel_rfl) (by kernel_rfl)
   (by rw[MakeChecks.laidMetH_plain _ _ _ (by kernel_rfl)];exact laidMet_laidAll _ (by kernel_rfl) (by kernel_rfl)))
  (by kernel_rfl) (by kernel_rfl) rfl Tryz.underlying4 rfl (fun ds h=>match ds,h with| [d0,d1,d2,d3],_=>rfl) aiq
theorem aiA:(Rows.topArrivesRow.wf (OpenSpec.ofChange Rows.topArrivesSpec))=true:=by kernel_rfl
theorem aiz:(laidOutB Tryz.prog)=true:=by kernel_rfl
theorem aiy:(mapsRowed Tryz.prog)=true:=by kernel_rfl
theorem aix:(Tryz.f6.params.all (Tryz.prog.readableRec ·))=true:=by kernel_rfl
theorem aiw:(namedTie Tryz.prog Rows.topArrivesRow.named Rows.topArrivesSpec.vars)=true:=by kernel_rfl
theorem aiv:((Rows.topArrivesRow.stops==[])&&(Tryz.prog.stops==[])&&(Rows.topArrivesRow.knobs==[])&&(Tryz.prog.stopKnobs==[]))=true:=by kernel_rfl
theorem ahs:(Rows.topArrivesRow.inPlace==Tryz.prog.inPlace 6)=true:=by kernel_rfl
theorem ahr:(Rows.topArrivesRow.unfollowed==Tryz.prog.unfollowed 6)=true:=by kernel_rfl
theorem ahq:(Rows.topArrivesRow.recurses==Tryz.prog.recurses 6)=true:=by kernel_rfl
theorem ahp:(Rows.topArrivesRow.named==Tryz.prog.varsNamed 6)=true:=by kernel_rfl
theorem aho:((Rows.topArrivesRow.maps==(Tryz.f6.params.toList++Rows.topArrivesSpec.plain.varTypes Tryz.prog).any (Tryz.prog.mapsRec ·))&&(Rows.topArrivesRow.ifaces==(Tryz.f6.params.toList++Rows.topArrivesSpec.plain.varTypes Tryz.prog).any (Tryz.prog.ifacesRec ·))&&(Rows.topArrivesRow.mapsOut==Tryz.prog.mapsAmong Tryz.f6.resultTypes.toList))=true:=by kernel_rfl
theorem ahn:((Rows.topArrivesRow.loops==(Tryz.f6.params.toList++Rows.topArrivesSpec.plain.varTypes Tryz.prog).any (Tryz.prog.loopsFrom ·))&&(Rows.topArrivesRow.wideKeys==(Tryz.f6.params.toList++Rows.topArrivesSpec.plain.varTypes Tryz.prog++Tryz.f6.resultTypes.toList).any (Tryz.prog.wideKeysFrom ·)))=true:=by kernel_rfl
theorem ahm:(Rows.topArrivesSpec.vars.all (Tryz.prog.varReadable ·)&&Tryz.f6.resultTypes.all (fun t=>Tryz.prog.readableRec t&&decide (t<Tryz.prog.types.size))&&(Rows.topArrivesRow.ifacesOut==Tryz.f6.resultTypes.toList.any (Tryz.prog.ifacesRec ·))&&(Rows.topArrivesRow.loopsOut==Tryz.f6.resultTypes.toList.any (Tryz.prog.loopsFrom ·)))=true:=by kernel_rfl
theorem ahl:(Rows.topArrivesRow.plainKeys==Tryz.prog.plainKeys)=true:=by kernel_rfl
theorem ahk:(Rows.topArrivesRow.shortTexts.isNone&&Tryz.prog.stopsHeard)=true:=by kernel_rfl
theorem ahj:(Tryz.prog.mayEnter)=true:=by kernel_rfl
theorem agz:(Rows.topArrivesRow.lifted==Tryz.prog.liftsFinal)=true:=by kernel_rfl
theorem agy:(Tryz.prog.make==some Rows.topArrivesRow.make)=true:=by kernel_rfl
theorem ahi:((Rows.topArrivesRow.kinds==(if Rows.topArrivesRow.domain.isEmpty then [] else Tryz.f6.params.toList.map fun t=>match Tryz.prog.underlying t with|some (.int k)=>some k|_=>none))&&(Rows.topArrivesRow.pinned==Rows.topArrivesRow.pinnedBy))=true:=by kernel_rfl
theorem ahh:((Rows.topArrivesRow.veiled==(Tryz.f6.params.toList++Rows.topArrivesSpec.plain.varTypes Tryz.prog++Tryz.f6.resultTypes.toList).any (Tryz.prog.veiledRec ·))&&Rows.topArrivesRow.veiledFits Tryz.prog Tryz.f6.params.toList (Tryz.f6.params.toList++Rows.topArrivesSpec.plain.varTypes Tryz.prog++Tryz.f6.resultTypes.toList))=true:=by kernel_rfl
theorem R4:Tryz.prog.funcNamed "crossbar/crossbartop.TopArrives" =some 6:=by kernel_rfl
theorem agA:Tryz.f6.isInstance Tryz.prog Rows.topArrivesRow.origin Rows.topArrivesRow.targs:=of_decide_eq_true (by kernel_rfl)
theorem agx:Tryz.f6.isWrapper Tryz.prog Rows.topArrivesRow.wrapper Rows.topArrivesRow.mainSum:=by unfold Func.isWrapper;first|(rw[if_pos (by decide+kernel)];kernel_rfl)|(rw[if_neg (by decide+kernel)];exact ⟨rfl,rfl⟩)
theorem afH:joinedFacts Tryz.prog 6 Tryz.f6 Rows.topArrivesSpec Rows.topArrivesRow=true:=amJ aiA aiz aiy aix aiw aiv ahs ahr ahq ahp aho ahn ahm ahl ahk ahj agz agy ahi ahh
theorem topArrives_row:Rows.TopArrivesSaid:=
 OpenClaim.holds_of_wide 6 Tryz.f6 rfl rfl rfl rfl rfl rfl rfl ⟨rfl,rfl,rfl,rfl,rfl⟩ rfl rfl rfl rfl rfl R4 Tryz.func6 afH agA agx
  (fun os started H enc _=>topArrives_step os started H enc)
theorem topArrives_holds:Rows.TopArrivesCardSaid:=
 Claim7.holds_tied_plain_at .later [] [.data,.data,.data,.data,.data,.data,.pinned] true (true, "f002308bdaf109cd928f89f25d9c50b46a60085b6330b05fda51e882e93eaa07") true topArrives_row (fun _ h=>by cases h) (by kernel_rfl) (fun _ h=>by cases h) topArrives_row_tie rfl ⟨rfl,rfl⟩ (by kernel_rfl) rfl
  (fun f fn hf hfn=>by
   obtain rfl:f=6:=Option.some.inj ((show Tryz.prog.funcNamed "crossbar/crossbartop.TopArrives" =some 6 from R4).symm.trans hf)|>.symm;obtain rfl:fn=Tryz.f6:=(Option.some.inj (Tryz.func6.symm.trans hfn)).symm;exact ⟨by kernel_rfl,fun j t ht=>by
    have hm:t∈Tryz.f6.params.toList:=by simpa using Array.mem_of_getElem? ht
    have hall:(Tryz.f6.params.toList.all fun u=> !Tryz.prog.wantsStandIn u)=true:=by kernel_rfl
    exact (show Tryz.prog.wantsStandIn t=false by simpa using List.all_eq_true.1 hall t hm)⟩)
  (by kernel_rfl)
#print axioms topArrives_holds
end Go.Proofs.YtaehhpempnelhaaGreatDoor
