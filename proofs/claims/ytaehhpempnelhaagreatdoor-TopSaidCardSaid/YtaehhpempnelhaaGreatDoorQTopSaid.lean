/-
  The given statements of these laws, each out of its function's contract: the row that lists variables, and the tied card.
  What a card of this seat's second group says by the tie is the translator's report on a pruned copy of the program (the seat's AIM, PRUNED).
-/
import Derived.Test.YtaehhpempnelhaaGreatDoorTie
import Derived.Test.YtaehhpempnelhaaGreatDoorCards
import Derived.Test.YtaehhpempnelhaaGreatDoorQTx12
namespace Go.Proofs.YtaehhpempnelhaaGreatDoor
open Go.Vc Go.ChangeShapes Go.WideShapes Go.ChangeAt Go.RowKit Go.Lib
set_option maxRecDepth 100000
theorem atF:ownKnob Tryz.prog.godebug=none:=by kernel_rfl
theorem aoN:laidOutB Tryz.prog=true:=by kernel_rfl
theorem topSaid_step(os:Os)(started:os.Started)(H:Type)(enc:TypeId×Value->H):
  ReturnsInHanded {} Tryz.checked os 4 .any (fun w args=>(Rows.topSaidSpec.pre enc Tryz.prog Tryz.f4 Rows.topSaidRow.domain false w args/\laidMetH Tryz.prog Rows.topSaidRow.laid w)/\sizedMet enc Tryz.prog Tryz.f4 (OpenSpec.ofChange Rows.topSaidSpec) false w args) (Rows.topSaidSpec.post enc Tryz.prog Tryz.f4 false true false false):=
 azi (C:=Tryz.checked) (s:=Rows.topSaidSpec) (laid:=Rows.topSaidRow.laid) (dZ:=[(.sl (.int .u8)),(.jc .bool (.jc .bool (.jc .bool (.jc (.int .i64) (.jc .bool (.jc (.int .u16) (.jc .bool (.jc (.int .u32) (.jc .bool (.jc (.int .u32) (.jc (.sl (.jc (.int .i64) (.jc (.int .i64) .je))) (.jc (.sl (.jc (.int .i64) (.jc (.sl (.int .u8)) .je))) (.jc (.sl (.int .i64)) (.jc (.sl (.jc (.int .i64) (.jc (.sl (.int .u8)) .je))) (.jc .bool .je))))))))))))))),.str,.bool,(.int .i64)]) (by decide) (fun W h=>by rw[MakeChecks.laidMetH_plain _ _ _ (by kernel_rfl)]at h;exact kw_row h) atF aoN started (by kernel_rfl) Tryz.func4
  (ChangeSpec.witness_shaped (enc:=enc) (C:=Tryz.checked) (os:=os) (X:=fun w _=>laidMetH Tryz.prog Rows.topSaidRow.laid w) false (World.laidAll Tryz.prog os Rows.topSaidRow.laid) #[.slice none 0 0,.agg #[.bool false,.bool false,.bool false,.int .i64 0,.bool false,.int .u16 0,.bool false,.int .u32 0,.bool false,.int .u32 0,.slice none 0 0,.slice none 0 0,.slice none 0 0,.slice none 0 0,.bool false],.string ⟨#[]⟩,.bool false,.int .i64 0] 8 (World.laidAll_os _ _ _)
   (World.shaped_of_ZipB (by kernel_rfl) (by kernel_rfl)) (by kernel_rfl) (by kernel_rfl) (by kernel_rfl)
   (by rw[MakeChecks.laidMetH_plain _ _ _ (by kernel_rfl)];exact laidMet_laidAll _ (by kernel_rfl) (by kernel_rfl)))
  (by kernel_rfl) (by kernel_rfl) rfl Tryz.underlying4 rfl (fun ds h=>match ds,h with| [d0,d1,d2,d3,d4],_=>rfl) atT
theorem auK:(Rows.topSaidRow.wf (OpenSpec.ofChange Rows.topSaidSpec))=true:=by kernel_rfl
theorem auJ:(laidOutB Tryz.prog)=true:=by kernel_rfl
theorem auI:(mapsRowed Tryz.prog)=true:=by kernel_rfl
theorem auH:(Tryz.f4.params.all (Tryz.prog.readableRec ·))=true:=by kernel_rfl
theorem auG:(namedTie Tryz.prog Rows.topSaidRow.named Rows.topSaidSpec.vars)=true:=by kernel_rfl
theorem auF:((Rows.topSaidRow.stops==[])&&(Tryz.prog.stops==[])&&(Rows.topSaidRow.knobs==[])&&(Tryz.prog.stopKnobs==[]))=true:=by kernel_rfl
theorem ato:(Rows.topSaidRow.inPlace==Tryz.prog.inPlace 4)=true:=by kernel_rfl
theorem atn:(Rows.topSaidRow.unfollowed==Tryz.prog.unfollowed 4)=true:=by kernel_rfl
theorem atm:(Rows.topSaidRow.recurses==Tryz.prog.recurses 4)=true:=by kernel_rfl
theorem atl:(Rows.topSaidRow.named==Tryz.prog.varsNamed 4)=true:=by kernel_rfl
theorem atj:((Rows.topSaidRow.maps==(Tryz.f4.params.toList++Rows.topSaidSpec.plain.varTypes Tryz.prog).any (Tryz.prog.mapsRec ·))&&(Rows.topSaidRow.ifaces==(Tryz.f4.params.toList++Rows.topSaidSpec.plain.varTypes Tryz.prog).any (Tryz.prog.ifacesRec ·))&&(Rows.topSaidRow.mapsOut==Tryz.prog.mapsAmong Tryz.f4.resultTypes.toList))=true:=by kernel_rfl
theorem ati:((Rows.topSaidRow.loops==(Tryz.f4.params.toList++Rows.topSaidSpec.plain.varTypes Tryz.prog).any (Tryz.prog.loopsFrom ·))&&(Rows.topSaidRow.wideKeys==(Tryz.f4.params.toList++Rows.topSaidSpec.plain.varTypes Tryz.prog++Tryz.f4.resultTypes.toList).any (Tryz.prog.wideKeysFrom ·)))=true:=by kernel_rfl
theorem ath:(Rows.topSaidSpec.vars.all (Tryz.prog.varReadable ·)&&Tryz.f4.resultTypes.all (fun t=>Tryz.prog.readableRec t&&decide (t<Tryz.prog.types.size))&&(Rows.topSaidRow.ifacesOut==Tryz.f4.resultTypes.toList.any (Tryz.prog.ifacesRec ·))&&(Rows.topSaidRow.loopsOut==Tryz.f4.resultTypes.toList.any (Tryz.prog.loopsFrom ·)))=true:=by kernel_rfl
theorem atg:(Rows.topSaidRow.plainKeys==Tryz.prog.plainKeys)=true:=by kernel_rfl
theorem atf:(Rows.topSaidRow.shortTexts.isNone&&Tryz.prog.stopsHeard)=true:=by kernel_rfl
theorem ate:(Tryz.prog.mayEnter)=true:=by kernel_rfl
theorem asa:(Rows.topSaidRow.lifted==Tryz.prog.liftsFinal)=true:=by kernel_rfl
theorem ar9:(Tryz.prog.make==some Rows.topSaidRow.make)=true:=by kernel_rfl
theorem atd:((Rows.topSaidRow.kinds==(if Rows.topSaidRow.domain.isEmpty then []else Tryz.f4.params.toList.map fun t=>match Tryz.prog.underlying t with|some (.int k)=>some k|_=>none))&&(Rows.topSaidRow.pinned==Rows.topSaidRow.pinnedBy))=true:=by kernel_rfl
theorem atc:((Rows.topSaidRow.veiled==(Tryz.f4.params.toList++Rows.topSaidSpec.plain.varTypes Tryz.prog++Tryz.f4.resultTypes.toList).any (Tryz.prog.veiledRec ·))&&Rows.topSaidRow.veiledFits Tryz.prog Tryz.f4.params.toList (Tryz.f4.params.toList++Rows.topSaidSpec.plain.varTypes Tryz.prog++Tryz.f4.resultTypes.toList))=true:=by kernel_rfl
theorem abr:Tryz.prog.funcNamed "crossbar/crossbartop.TopSaid" =some 4:=by kernel_rfl
theorem asb:Tryz.f4.isInstance Tryz.prog Rows.topSaidRow.origin Rows.topSaidRow.targs:=of_decide_eq_true (by kernel_rfl)
theorem ar8:Tryz.f4.isWrapper Tryz.prog Rows.topSaidRow.wrapper Rows.topSaidRow.mainSum:=by unfold Func.isWrapper;first|(rw[if_pos (by decide+kernel)];kernel_rfl)|(rw[if_neg (by decide+kernel)];exact⟨rfl,rfl⟩)
theorem aoZ:joinedFacts Tryz.prog 4 Tryz.f4 Rows.topSaidSpec Rows.topSaidRow=true:=awy auK auJ auI auH auG auF ato atn atm atl atj ati ath atg atf ate asa ar9 atd atc
theorem topSaid_row:Rows.TopSaidSaid:=
 OpenClaim.holds_of_wide 4 Tryz.f4 rfl rfl rfl rfl rfl rfl rfl ⟨rfl,rfl,rfl,rfl,rfl⟩ rfl rfl rfl rfl rfl abr Tryz.func4 aoZ asb ar8
  (fun os started H enc _=>topSaid_step os started H enc)
theorem topSaid_holds:Rows.TopSaidCardSaid:=
 Claim7.holds_tied_plain_at .later [] [.data,.data,.data,.data,.data,.data,.pinned] true (true, "f002308bdaf109cd928f89f25d9c50b46a60085b6330b05fda51e882e93eaa07") true topSaid_row (fun _ h=>by cases h) (by kernel_rfl) (fun _ h=>by cases h) topSaid_row_tie rfl ⟨rfl,rfl⟩ (by kernel_rfl) rfl
  (fun f fn hf hfn=>by
   obtain rfl:f=4:=Option.some.inj ((show Tryz.prog.funcNamed "crossbar/crossbartop.TopSaid" =some 4 from abr).symm.trans hf)|>.symm;obtain rfl:fn=Tryz.f4:=(Option.some.inj (Tryz.func4.symm.trans hfn)).symm;exact⟨by kernel_rfl,fun j t ht=>by
    have hm:t∈Tryz.f4.params.toList:=by simpa using Array.mem_of_getElem? ht
    have hall:(Tryz.f4.params.toList.all fun u=> !Tryz.prog.wantsStandIn u)=true:=by kernel_rfl
    exact(show Tryz.prog.wantsStandIn t=false by simpa using List.all_eq_true.1 hall t hm)⟩)
  (by kernel_rfl)
#print axioms topSaid_holds
end Go.Proofs.YtaehhpempnelhaaGreatDoor
