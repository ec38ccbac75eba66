/-
  The given statements of these laws, each out of its function's contract: the row that lists variables, and the tied card.
  What a card of this seat's second group says by the tie is the translator's report on a pruned copy of the program (the seat's AIM, PRUNED).
-/
import Derived.Test.YtaehhpempnelhaaGreatDoorTie
import Derived.Test.YtaehhpempnelhaaGreatDoorCards
import Derived.Test.YtaehhpempnelhaaGreatDoorQTx4
import Derived.Test.YtaehhpempnelhaaGreatDoorQTx6
import Derived.Test.YtaehhpempnelhaaGreatDoorQBase4
import Derived.PinnedBridge

namespace Go.Proofs.YtaehhpempnelhaaGreatDoor
open Go.Vc Go.ChangeShapes Go.WideShapes Go.ChangeAt Go.RowKit Go.Lib
set_option maxRecDepth 100000
theorem own_TopOrder:ownKnob Tryz.prog.godebug=none:=by kernel_rfl
theorem laidOut_TopOrder:laidOutB Tryz.prog=true:=by kernel_rfl
theorem topOrder_step (os:Os) (started:os.Started) (H:Type) (enc:TypeId×Value→H):
  ReturnsInHanded {} Tryz.checked os 5 .any (fun w args=>(Rows.topOrderSpec.pre enc Tryz.prog Tryz.f5 Rows.topOrderRow.domain false w args∧laidMetH Tryz.prog Rows.topOrderRow.laid w)∧sizedMet enc Tryz.prog Tryz.f5 (OpenSpec.ofChange Rows.topOrderSpec) false w args) (Rows.topOrderSpec.post enc Tryz.prog Tryz.f5 false true false false):=
 lifted2 (C:=Tryz.checked) (s:=Rows.topOrderSpec) (laid:=Rows.topOrderRow.laid) (shs:=[(.sl (.int .u8)),(.pair .bool (.pair .bool (.pair .bool (.pair (.int .i64) (.pair .bool (.pair (.int .u16) (.pair .bool (.pair (.int .u32) (.pair .bool (.pair (.int .u32) (.pair (.sl (.pair (.int .i64) (.pair (.int .i64) .unit))) (.pair (.sl (.pair (.int .i64) (.pair (.sl (.int .u8)) .unit))) (.pair (.sl (.int .i64)) (.pair (.sl (.pair (.int .i64) (.pair (.sl (.int .u8)) .unit))) (.pair .bool .unit))))))))))))))),(.sl (.pair (.int .i64) (.pair (.sl (.int .u8)) .unit)))]) (by decide) (fun W h=>by rw[MakeChecks.laidMetH_plain _ _ _ (by kernel_rfl)] at h;exact kw_row h) own_TopOrder laidOut_TopOrder started (by kernel_rfl) Tryz.func5
  (ChangeSpec.witness_shaped (enc:=enc) (C:=Tryz.checked) (os:=os) (X:=fun w _=>laidMetH Tryz.prog Rows.topOrderRow.laid w) false (World.laidAll Tryz.prog os Rows.topOrderRow.laid) #[.slice none 0 0,.agg #[.bool false,.bool false,.bool false,.int .i64 0,.bool false,.int .u16 0,.bool false,.int .u32 0,.bool false,.int .u32 0,.slice none 0 0,.slice none 0 0,.slice none 0 0,.slice none 0 0,.bool false],.slice none 0 0] 8 (World.laidAll_os _ _ _)
   (World.shaped_of_ZipB (by kernel_rfl) (by kernel_rfl)) (by kernel_rfl) (by kernel_rfl) (by kernel_rfl)
   (by rw[MakeChecks.laidMetH_plain _ _ _ (by kernel_rfl)];exact laidMet_laidAll _ (by kernel_rfl) (by kernel_rfl)))
  (by kernel_rfl) (by kernel_rfl) rfl Tryz.underlying4 rfl (fun ds h=>match ds,h with| [d0,d1,d2],_=>rfl) law_TopOrder
theorem topOrder_k1:(Rows.topOrderRow.wf (OpenSpec.ofChange Rows.topOrderSpec))=true:=by kernel_rfl
theorem topOrder_k2:(laidOutB Tryz.prog)=true:=by kernel_rfl
theorem topOrder_k3:(mapsRowed Tryz.prog)=true:=by kernel_rfl
theorem topOrder_k4:(Tryz.f5.params.all (Tryz.prog.readableRec ·))=true:=by kernel_rfl
theorem topOrder_k5:(namedTie Tryz.prog Rows.topOrderRow.named Rows.topOrderSpec.vars)=true:=by kernel_rfl
theorem topOrder_k6:((Rows.topOrderRow.stops==[])&&(Tryz.prog.stops==[])&&(Rows.topOrderRow.knobs==[])&&(Tryz.prog.stopKnobs==[]))=true:=by kernel_rfl
theorem topOrder_k10:(Rows.topOrderRow.inPlace==Tryz.prog.inPlace 5)=true:=by kernel_rfl
theorem topOrder_k11:(Rows.topOrderRow.unfollowed==Tryz.prog.unfollowed 5)=true:=by kernel_rfl
theorem topOrder_k12:(Rows.topOrderRow.recurses==Tryz.prog.recurses 5)=true:=by kernel_rfl
theorem topOrder_k13:(Rows.topOrderRow.named==Tryz.prog.varsNamed 5)=true:=by kernel_rfl
theorem topOrder_k14:((Rows.topOrderRow.maps==(Tryz.f5.params.toList++Rows.topOrderSpec.plain.varTypes Tryz.prog).any (Tryz.prog.mapsRec ·))&&(Rows.topOrderRow.ifaces==(Tryz.f5.params.toList++Rows.topOrderSpec.plain.varTypes Tryz.prog).any (Tryz.prog.ifacesRec ·))&&(Rows.topOrderRow.mapsOut==Tryz.prog.mapsAmong Tryz.f5.resultTypes.toList))=true:=by kernel_rfl
theorem topOrder_k17:((Rows.topOrderRow.loops==(Tryz.f5.params.toList++Rows.topOrderSpec.plain.varTypes Tryz.prog).any (Tryz.prog.loopsFrom ·))&&(Rows.topOrderRow.wideKeys==(Tryz.f5.params.toList++Rows.topOrderSpec.plain.varTypes Tryz.prog++Tryz.f5.resultTypes.toList).any (Tryz.prog.wideKeysFrom ·)))=true:=by kernel_rfl
theorem topOrder_k18:(Rows.topOrderSpec.vars.all (Tryz.prog.varReadable ·)&&Tryz.f5.resultTypes.all (fun t=>Tryz.prog.readableRec t&&decide (t<Tryz.prog.types.size))&&(Rows.topOrderRow.ifacesOut==Tryz.f5.resultTypes.toList.any (Tryz.prog.ifacesRec ·))&&(Rows.topOrderRow.loopsOut==Tryz.f5.resultTypes.toList.any (Tryz.prog.loopsFrom ·)))=true:=by kernel_rfl
theorem topOrder_k22:(Rows.topOrderRow.plainKeys==Tryz.prog.plainKeys)=true:=by kernel_rfl
theorem topOrder_k23:(Rows.topOrderRow.shortTexts.isNone&&Tryz.prog.stopsHeard)=true:=by kernel_rfl
theorem topOrder_k24:(Tryz.prog.mayEnter)=true:=by kernel_rfl
theorem topOrder_k24b:(Rows.topOrderRow.lifted==Tryz.prog.liftsFinal)=true:=by kernel_rfl
theorem topOrder_k24c:(Tryz.prog.make==some Rows.topOrderRow.make)=true:=by kernel_rfl
theorem topOrder_k25:((Rows.topOrderRow.kinds==(if Rows.topOrderRow.domain.isEmpty then [] else Tryz.f5.params.toList.map fun t=>match Tryz.prog.underlying t with|some (.int k)=>some k|_=>none))&&(Rows.topOrderRow.pinned==Rows.topOrderRow.pinnedBy))=true:=by kernel_rfl
theorem topOrder_k27:((Rows.topOrderRow.veiled==(Tryz.f5.params.toList++Rows.topOrderSpec.plain.varTypes Tryz.prog++Tryz.f5.resultTypes.toList).any (Tryz.prog.veiledRec ·))&&Rows.topOrderRow.veiledFits Tryz.prog Tryz.f5.params.toList (Tryz.f5.params.toList++Rows.topOrderSpec.plain.varTypes Tryz.prog++Tryz.f5.resultTypes.toList))=true:=by kernel_rfl
theorem topOrder_named:Tryz.prog.funcNamed "crossbar/crossbartop.TopOrder" =some 5:=by kernel_rfl
theorem topOrder_inst:Tryz.f5.isInstance Tryz.prog Rows.topOrderRow.origin Rows.topOrderRow.targs:=of_decide_eq_true (by kernel_rfl)
theorem topOrder_wrap:Tryz.f5.isWrapper Tryz.prog Rows.topOrderRow.wrapper Rows.topOrderRow.mainSum:=by unfold Func.isWrapper;first|(rw[if_pos (by decide+kernel)];kernel_rfl)|(rw[if_neg (by decide+kernel)];exact ⟨rfl,rfl⟩)
theorem topOrder_closed:joinedFacts Tryz.prog 5 Tryz.f5 Rows.topOrderSpec Rows.topOrderRow=true:=joined_of topOrder_k1 topOrder_k2 topOrder_k3 topOrder_k4 topOrder_k5 topOrder_k6 topOrder_k10 topOrder_k11 topOrder_k12 topOrder_k13 topOrder_k14 topOrder_k17 topOrder_k18 topOrder_k22 topOrder_k23 topOrder_k24 topOrder_k24b topOrder_k24c topOrder_k25 topOrder_k27
theorem topOrder_row:Rows.TopOrderSaid:=
 OpenClaim.holds_of_wide 5 Tryz.f5 rfl rfl rfl rfl rfl rfl rfl ⟨rfl,rfl,rfl,rfl,rfl⟩ rfl rfl rfl rfl rfl topOrder_named Tryz.func5 topOrder_closed topOrder_inst topOrder_wrap
  (fun os started H enc _=>topOrder_step os started H enc)
/-- The law TopOrder returns true for every input, the listed tables as the program's text lays them; each argument reads as it did: the tied card. -/
theorem topOrder_holds:Rows.TopOrderCardSaid:=
 Claim7.holds_tied_plain_at .later [] [.data,.data,.data,.data,.data,.data,.pinned] true (true, "f002308bdaf109cd928f89f25d9c50b46a60085b6330b05fda51e882e93eaa07") true topOrder_row (fun _ h=>by cases h) (by kernel_rfl) (fun _ h=>by cases h) topOrder_row_tie rfl ⟨rfl,rfl⟩ (by kernel_rfl) rfl
  (fun f fn hf hfn=>by
   obtain rfl:f=5:=Option.some.inj ((show Tryz.prog.funcNamed "crossbar/crossbartop.TopOrder" =some 5 from topOrder_named).symm.trans hf)|>.symm
   obtain rfl:fn=Tryz.f5:=(Option.some.inj (Tryz.func5.symm.trans hfn)).symm
   exact ⟨by kernel_rfl,fun j t ht=>by
    have hm:t∈Tryz.f5.params.toList:=by simpa using Array.mem_of_getElem? ht
    have hall:(Tryz.f5.params.toList.all fun u=> !Tryz.prog.wantsStandIn u)=true:=by kernel_rfl
    exact (show Tryz.prog.wantsStandIn t=false by simpa using List.all_eq_true.1 hall t hm)⟩)
  (by kernel_rfl)
#print axioms topOrder_holds
end Go.Proofs.YtaehhpempnelhaaGreatDoor
