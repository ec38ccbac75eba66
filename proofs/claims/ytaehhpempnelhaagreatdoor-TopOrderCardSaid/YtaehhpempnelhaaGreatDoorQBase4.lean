/-
  My own general texts, one behind the other: a generator of conditions over the model, with its proof, and plain lemmas. No condition on the program.
-/
import Derived.Test.YtaehhpempnelhaaGreatDoorQBase3
import Derived.LaidLaws
import Derived.Lay
import Derived.Lib.LaidU8
import Derived.Stop.Joined
import Derived.JoinedOf

namespace Go.Plain
theorem elRight_iff (l:List El):elRight l↔idsRight (elIds l)∧∀e∈l,e.data.length≤255:=by
 constructor
 ·intro h
  refine ⟨elRight_ids h,fun e he=>?_⟩
  obtain ⟨j,hj,rfl⟩:=List.getElem_of_mem he
  have:=(h j hj).2.2.1
  simpa [List.getD,hj] using this
 ·rintro ⟨h1,h2⟩ j hj
  have hj2:j<(elIds l).length:=by simpa [elIds] using hj
  obtain ⟨a,b,c⟩:=h1 j hj2
  have e:(elIds l).getD j 0=(l.getD j El.zero).id:=by simp[elIds,List.getD,hj]
  have t:(elIds l).take j=elIds (l.take j):=by simp[elIds]
  rw[e] at a b c
  rw[t] at c
  refine ⟨a,b,?_,c⟩
  have hm:l.getD j El.zero∈l:=by simp[List.getD,hj]
  exact h2 _ hm
theorem outs_right {p:Pl} (hp:plRight p) {w:List El} (hw:elRight w) (hi:idsRight (elIds (plOuts p w))):elRight (plOuts p w):=by
 rw[elRight_iff]
 refine ⟨hi,fun e he=>?_⟩
 have h1:=((elRight_iff _).1 hp.2.2.2.2.1).2
 have h2:=((elRight_iff _).1 hp.2.2.2.2.2.1).2
 have h3:=((elRight_iff _).1 hw).2
 unfold plOuts at he
 rcases List.mem_append.1 he with he|he
 ·obtain ⟨x,hx,rfl⟩:=List.mem_map.1 he
  rw[List.mem_filter] at hx
  unfold newEl
  simp only
  by_cases ho:x.id∈elIds p.over
  ·obtain ⟨o,ho2,_,e2⟩:=data_mem x.data ho
   rw[e2];exact h1 o ho2
  ·rw[data_none _ ho];exact h3 x hx.1
 ·exact h2 e he
theorem elProfile_lt (l:List El):elProfile l<65536:=by unfold elProfile;split<;>(try split)<;>omega
theorem hdNew_ok {p:Pl} (hn:plNum p) {h:Hd} (ho:h.ok):(hdNew p h).ok:=by
 obtain ⟨n1,n2,n3,n4,n5,n6⟩:=hn
 obtain ⟨o1,o2,o3,o4⟩:=ho
 refine ⟨?_,?_,?_,o4⟩
 ·show (if p.sq then p.seq.toNat else h.seq)<_
  split<;>omega
 ·show (if p.stm then p.time.toNat else h.time)<_
  split<;>omega
 ·show (if p.ss then p.ssrc.toNat else h.ssrc)<_
  split<;>omega
theorem plOut_ok {p:Pl} (hn:plNum p) {k:Pk} (ho:k.ok) (l:List El):(plOut p k l).ok:=by
 have h1:=hdNew_ok hn ho.1
 unfold plOut
 split
 ·split
  ·refine ⟨?_,?_⟩
   ·obtain ⟨a,b,c,d⟩:=h1
    exact ⟨a,b,c,d⟩
   ·show (if l=[] then 0 else elProfile l)<65536
    have:=elProfile_lt l
    split<;>omega
  ·exact ⟨h1,ho.2⟩
 ·exact ⟨h1,ho.2⟩
theorem behind_ok {p:Pl} (hn:plNum p) {k x:Pk} (ho:k.ok) (hx:behind p k=some x):x.right∧x.ok:=by
 obtain ⟨_,l,_,rfl,hr⟩:=behind_some hx
 exact ⟨hr,plOut_ok hn ho l⟩
end Go.Plain

set_option maxRecDepth 100000
namespace Go.Plain
def bW:List UInt8:=[144,96,0,1,0,0,0,2,0,0,0,3,190,222,0,1,48,7,0,0,9]
def oW:List UInt8:=[144,96,0,5,0,0,0,2,0,0,0,3,190,222,0,1,64,120,0,0,9]
def pW:Pl:= {Pl.zero with sq:=true,seq:=5,maps:=[⟨3,4⟩],over:=[⟨3,[120]⟩]}
def kW:Pk:=⟨⟨false,true,false,96,1,2,3,[]⟩,48862,[48,7,0,0],[9],0⟩
def xW:Pk:=⟨⟨false,true,false,96,5,2,3,[]⟩,48862,[64,120,0,0],[9],0⟩
theorem rawW:pkE bW=0∧pkRaw bW=kW:=by decide+kernel
theorem rawX:pkE oW=0∧pkRaw oW=xW:=by decide+kernel
theorem behW:behind pW kW=some xW:=by decide+kernel
theorem keepW:plKeeps pW∧kW.right:=by decide+kernel
theorem stayW:stayL pW kW bW=oW:=by decide+kernel
theorem elW:elRead 48862 [64,120,0,0]=[⟨4,[120]⟩]∧(spots 48862 [64,120,0,0]).2=0:=by decide+kernel
end Go.Plain

namespace Go.Vc
open Go.ChangeShapes Go.WideShapes Go.ChangeAt Go.RowKit
/-- A LAW's ROW THAT LISTS VARIABLES ('laid'), its step: for every data of its shapes the contract says 'true'. -/
theorem lifted2 {H:Type} {enc:TypeId×Value→H} {C:Checked} {os:Os} {f:FuncId} {fn:Func} {s:ChangeSpec} {conds:List PathCond} {laid:List (String×DataW Unit)} (hlt:f<1000000) (hkw:∀W:World,laidMetH C.prog laid W→KW C.prog W) (own:ownKnob C.prog.godebug=none) (laidOut:laidOutB C.prog=true)
  (started:os.Started) (noInit:C.prog.inits.idxOf? f=none) (hfn:C.prog.funcs[f]?=some fn)
  (witness:∃(w:World) (tape:Tape) (i:Input),w.os=os∧(w.forCall tape i).Shaped C.prog∧i.vars=[]∧Input.okWide C.prog (w.forCall tape i) .any w.heap.size f i∧
   ((s.pre enc C.prog fn conds false (w.forCall tape i).memory i.args∧laidMetH C.prog laid (w.forCall tape i).memory)∧sizedMet enc C.prog fn (OpenSpec.ofChange s) false (w.forCall tape i).memory i.args)∧({}:Assume).holds C.prog (lone (Frame.enter C.prog f i.args .normal) [] (w.forCall tape i)))
  {shs:List Sh} (hgood:goodTs C.prog 6 fn.params.toList shs=true) (hread:(fn.params.toList.all fun t=>C.prog.readableRec t&&decide (t<C.prog.types.size))=true)
  {tb:TypeId} (hres:fn.resultTypes= #[tb]) (hbool:C.prog.underlying tb=some .bool) (hvars:s.vars=[])
  (hspec:∀(ds:List (DataW H)),ds.length=fn.params.size→s.fn H ds= {results:=[.lit (.bool true)],args:=ds})
  (hpc:∀cs,TyAll shs cs→PC C.prog f (shs.zip cs) [(.bool,.bool true)]):
  ReturnsInHanded {} C os f .any (fun w args=>(s.pre enc C.prog fn conds false w args∧laidMetH C.prog laid w)∧sizedMet enc C.prog fn (OpenSpec.ofChange s) false w args) (s.post enc C.prog fn false true false false):=by
 refine returnsInHanded_of_change_and (X:=fun w _=>laidMetH C.prog laid w) (fun _ _ _ hh h=>h.of_heap hh) own started noInit hfn witness ?_
 intro W base args ds gs before hval hW hcnd _ hL _
 have hW':=hW
 obtain ⟨p,q,hA,hV,rfl,hfz,hnd⟩:=hW
 rw[hvars] at hV
 obtain ⟨rfl,rfl⟩:=trodVars_none hV
 obtain ⟨cs,r1,r2⟩:=rdvs_of hgood (fun j t v ht hv=>hval j t v (by simpa using ht) (by simpa using hv)) hA
 have hlen:=trodAll_len hA
 have hcall:=((hpc cs r2).to0 hlt).2 W _ args.toList (hkw W hL) r1
 simp only[Array.toArray_toList] at hcall
 refine hcall.mono fun e W' ⟨v,he,hv,bel⟩=>?_
 subst he
 obtain ⟨vs,hvs,hv⟩:=hv
 obtain ⟨u,r,rfl,⟨us,hu,rfl⟩,hr⟩:=hvs
 simp only[RdVs] at hr
 subst hr
 simp only[Rd] at hu
 subst hu
 simp[Sh.mk,Sh.isAgg] at hv
 subst hv
 have hsp:=hspec (ds++ []) (by simpa using hlen)
 refine ⟨_,rfl,ds,[],_,[],p,[],hW',?_,?_,?_,bel.frame _,fun h=>by cases h⟩
 ·rw[hsp,hres]
  exact trodAll_mk1 (shut_bool hbool _)
 ·rw[hsp]
  simp only[List.append_nil]
  exact args_stay laidOut bel hread hA
 ·rw[hsp,hvars]
  rfl
end Go.Vc

namespace Go.Vc
open Go.ChangeShapes Go.WideShapes Go.ChangeAt Go.RowKit
theorem joined_of {P:Program} {f:FuncId} {fn:Func} {s:ChangeSpec} {c:OpenClaim} (k1:c.wf (OpenSpec.ofChange s)=true) (k2:laidOutB P=true) (k3:mapsRowed P=true) (k4:fn.params.all (P.readableRec ·)=true) (k5:namedTie P c.named s.vars=true)
  (k6:((c.stops==[])&&(P.stops==[])&&(c.knobs==[])&&(P.stopKnobs==[]))=true) (k10:(c.inPlace==P.inPlace f)=true) (k11:(c.unfollowed==P.unfollowed f)=true) (k12:(c.recurses==P.recurses f)=true) (k13:(c.named==P.varsNamed f)=true)
  (k14:((c.maps==(fn.params.toList++s.plain.varTypes P).any (P.mapsRec ·))&&(c.ifaces==(fn.params.toList++s.plain.varTypes P).any (P.ifacesRec ·))&&(c.mapsOut==P.mapsAmong fn.resultTypes.toList))=true)
  (k17:((c.loops==(fn.params.toList++s.plain.varTypes P).any (P.loopsFrom ·))&&(c.wideKeys==(fn.params.toList++s.plain.varTypes P++fn.resultTypes.toList).any (P.wideKeysFrom ·)))=true)
  (k18:(s.vars.all (P.varReadable ·)&&fn.resultTypes.all (fun t=>P.readableRec t&&decide (t<P.types.size))&&(c.ifacesOut==fn.resultTypes.toList.any (P.ifacesRec ·))&&(c.loopsOut==fn.resultTypes.toList.any (P.loopsFrom ·)))=true)
  (k22:(c.plainKeys==P.plainKeys)=true) (k23:(c.shortTexts.isNone&&P.stopsHeard)=true) (k24:P.mayEnter=true) (k24b:(c.lifted==P.liftsFinal)=true) (k24c:(P.make==some c.make)=true)
  (k25:((c.kinds==(if c.domain.isEmpty then [] else fn.params.toList.map fun t=>match P.underlying t with|some (.int k)=>some k|_=>none))&&(c.pinned==c.pinnedBy))=true)
  (k27:((c.veiled==(fn.params.toList++s.plain.varTypes P++fn.resultTypes.toList).any (P.veiledRec ·))&&c.veiledFits P fn.params.toList (fn.params.toList++s.plain.varTypes P++fn.resultTypes.toList))=true):joinedFacts P f fn s c=true:=by
 simp only[Bool.and_eq_true] at k6 k14 k17 k18 k23 k25 k27
 simp only[joinedFacts,Bool.and_eq_true]
 obtain ⟨⟨⟨k6,k7⟩,k8⟩,k9⟩:=k6
 obtain ⟨⟨k14,k15⟩,k16⟩:=k14
 obtain ⟨k17,k17b⟩:=k17
 obtain ⟨⟨⟨k18,k19⟩,k20⟩,k21⟩:=k18
 obtain ⟨k23,k23b⟩:=k23
 obtain ⟨k25,k26⟩:=k25
 obtain ⟨k27,k28⟩:=k27
 exact ⟨⟨⟨⟨⟨⟨⟨⟨⟨⟨⟨⟨⟨⟨⟨⟨⟨⟨⟨⟨⟨⟨⟨⟨⟨⟨⟨⟨⟨⟨⟨k1,k2⟩,k3⟩,k4⟩,k5⟩,k6⟩,k7⟩,k8⟩,k9⟩,k10⟩,k11⟩,k12⟩,k13⟩,k14⟩,k15⟩,k16⟩,k17⟩,k17b⟩,k18⟩,k19⟩,k20⟩,k21⟩,k22⟩,k23⟩,k23b⟩,k24⟩,k24b⟩,k24c⟩,k25⟩,k26⟩,k27⟩,k28⟩
end Go.Vc
