/-
  The walk of the reader's group (say): a plan in a block of the caller's own, with rows of its own.
-/
import Derived.Test.YtaehhpempnelhaaGreatDoorQTx2
import Derived.Deep.AppendLies
import Derived.Deep.RegionHeld3
set_option maxRecDepth 100000
namespace Go.Vc
open Go Go.Proofs Go.RowKit Go.Plain Tryz
def j5(p:Pl)(vm vo vd va:Value):Array Value:=
 #[.bool p.sm,.bool p.m,.bool p.st,.int .i64 p.ty,.bool p.sq,.int .u16 p.seq,.bool p.dY,.int .u32 p.time,.bool p.ss,.int .u32 p.bZ,vm,vo,vd,va,.bool p.np]
def qg(lo pb rb:Nat)(vm vo vd va:Value)(b:Nat):Prop:=lo<=b/\b≠pb/\b≠rb/\vm.ownBlock≠some b/\vo.ownBlock≠some b/\vd.ownBlock≠some b/\va.ownBlock≠some b
def zH(l:List Mp):List Value:=l.flatMap fun m=> [.int .i64 m.fr,.int .i64 m.to]
def kJ(W:World)(lo pb rb:Nat)(p:Pl):Prop:=
 ∃vm vo vd va xo xa,W.heap[pb]?=some (.cells (j5 p vm vo vd va) 29 (0,0))/\lo<=pb/\lo<=rb/\pb≠rb/\
  W.ownsRow lo 127 2 vm p.maps.length (zH p.maps)/\W.ownsRow lo 103 2 vo p.jf.length xo/\W.ownsRow lo 3 1 vd p.jg.length (p.jg.map (Value.int .i64 ·))/\W.ownsRow lo 103 2 va p.jh.length xa/\
  cZ W (qg lo pb rb vm vo vd va) ou xo (p.jf.map nW)/\cZ W (qg lo pb rb vm vo vd va) ou xa (p.jh.map nW)/\
  (∀g,vo.ownBlock=some g->va.ownBlock≠some g)/\vm.ownBlock≠some rb/\vo.ownBlock≠some rb/\vd.ownBlock≠some rb/\va.ownBlock≠some rb
def lS(p:Pl)(ws:List (List UInt8))(wr:Bool):Pl×List (List UInt8)×Bool:=
 let w:=ws.headD []
 let r:=ws.tail
 let b:=wr||ws.isEmpty
 let x:=r.headD []
 let y:=r.tail.headD []
 if w=lZ then({p with sm:=true,m:=decide (x=yO)},r.tail,(b||r.isEmpty)||(decide (x≠yO)&&decide (x≠yu)))
 else if w=mq then({p with st:=true,ty:=(dw 255 x).1},r.tail,(b||r.isEmpty)||(dw 255 x).2)
 else if w=mH then({p with sq:=true,seq:=(dw 65535 x).1},r.tail,(b||r.isEmpty)||(dw 65535 x).2)
 else if w=mD then({p with dY:=true,time:=(dw 4294967295 x).1},r.tail,(b||r.isEmpty)||(dw 4294967295 x).2)
 else if w=mE then({p with ss:=true,bZ:=(dw 4294967295 x).1},r.tail,(b||r.isEmpty)||(dw 4294967295 x).2)
 else if w=kC then({p with maps:=p.maps++ [⟨(dw 255 x).1,(dw 255 y).1⟩]},r.tail.tail,(((b||r.isEmpty)||(dw 255 x).2)||r.tail.isEmpty)||(dw 255 y).2)
 else if w=iV then({p with jf:=p.jf++ [⟨(dw 255 x).1,(mI y).getD []⟩]},r.tail.tail,(((b||r.isEmpty)||(dw 255 x).2)||r.tail.isEmpty)|| !(mI y).isSome)
 else if w=j6 then({p with jg:=p.jg++ [((dw 255 x).1:Int)]},r.tail,(b||r.isEmpty)||(dw 255 x).2)
 else if w=iW then({p with jh:=p.jh++ [⟨(dw 255 x).1,(mI y).getD []⟩]},r.tail.tail,(((b||r.isEmpty)||(dw 255 x).2)||r.tail.isEmpty)|| !(mI y).isSome)
 else if w=mg then({p with np:=true},r,b)
 else(p,r,true)
theorem gK{W W':World}{lo:Nat}{e:TypeId}{size:Nat}{v:Value}{n:Nat}{xs:List Value}(h:W.ownsRow lo e size v n xs)(hk:∀g,v.ownBlock=some g->W'.heap[g]?=W.heap[g]?):W'.ownsRow lo e size v n xs:=by
 refine⟨h.1,?_⟩;rcases h.2 with h0|⟨g,cap,cur,h1,h2,h3,h4⟩
 .exact .inl h0
 exact .inr ⟨g,cap,cur,h1,h2,by rw[hk g (by rw[h1];rfl)];exact h3,h4⟩
theorem eP{W:World}{lo:Nat}{e:TypeId}{size:Nat}{v:Value}{n:Nat}{xs:List Value}(h:W.ownsRow lo e size v n xs){g:Nat}(hg:v.ownBlock=some g):lo<=g/\g<W.heap.size:=by
 rcases h.2 with⟨h0,_⟩|⟨g',cap,cur,h1,h2,h3,h4⟩
 .rw[h0]at hg;cases hg
 rw[h1]at hg;simp only[Value.ownBlock,dP]at hg;subst hg;exact⟨h2,(iX.1 h3).1⟩
theorem kJ.keep{W W':World}{lo pb rb:Nat}{p:Pl}(h:kJ W lo pb rb p)(hs:W.heap.size<=W'.heap.size)(hk:∀k,k<W.heap.size->k≠rb->W'.heap[k]?=W.heap[k]?):kJ W' lo pb rb p:=by
 obtain⟨vm,vo,vd,va,xo,xa,h1,h2,h3,h4,o1,o2,o3,o4,r1,r2,d,n1,n2,n3,n4⟩:=h;have hp:pb<W.heap.size:=(iX.1 h1).1;refine⟨vm,vo,vd,va,xo,xa,by rw[hk pb hp h4];exact h1,h2,h3,h4,gK o1 ?_,gK o2 ?_,gK o3 ?_,gK o4 ?_,r1.mono hs ?_,r2.mono hs ?_,d,n1,n2,n3,n4⟩
 .exact fun g hg=>hk g (eP o1 hg).2 (fun e=>n1 (by rw[hg,e]))
 .exact fun g hg=>hk g (eP o2 hg).2 (fun e=>n2 (by rw[hg,e]))
 .exact fun g hg=>hk g (eP o3 hg).2 (fun e=>n3 (by rw[hg,e]))
 .exact fun g hg=>hk g (eP o4 hg).2 (fun e=>n4 (by rw[hg,e]))
 .exact fun b hb hlt=>⟨hk b hlt hb.2.2.1,hb⟩
 exact fun b hb hlt=>⟨hk b hlt hb.2.2.1,hb⟩
theorem jO{W:World}{lo:Nat}{e:TypeId}{size:Nat}{v:Value}{n:Nat}{xs:List Value}(h:W.ownsRow lo e size v n xs){g:Nat}{cs:Array Value}{t:TypeId}{fz:Nat×Nat}(hg:W.heap[g]?=some (.cells cs t fz))(ht:t≠e):v.ownBlock≠some g:=by
 rcases h.2 with⟨h0,_⟩|⟨g',cap,cur,h1,h2,h3,h4⟩
 .rw[h0];simp[Value.ownBlock]
 rw[h1];intro hc;simp only[Value.ownBlock,dP]at hc;subst hc;rw[hg]at h3;simp only[dP,Obj.cells.injEq]at h3;exact ht h3.2.1
theorem kJ.set{W:World}{lo pb rb:Nat}{p p':Pl}(h:kJ W lo pb rb p)(i:Nat)(v:Value)(hc:∀vm vo vd va,(j5 p vm vo vd va).set! i v=j5 p' vm vo vd va)
  (e1:p'.maps=p.maps) (e2:p'.jf=p.jf) (e3:p'.jg=p.jg) (e4:p'.jh=p.jh):kJ (W.setCell ⟨pb,i,none⟩ v) lo pb rb p':=by
 obtain⟨vm,vo,vd,va,xo,xa,h1,h2,h3,h4,o1,o2,o3,o4,r1,r2,d,n1,n2,n3,n4⟩:=h;have hk:∀k,k≠pb->(W.setCell ⟨pb,i,none⟩ v).heap[k]?=W.heap[k]?:=fun k hk=>gu _ _ _ _ (by simpa using hk);have t1:=jO o1 h1 (by decide);have t2:=jO o2 h1 (by decide);have t3:=jO o3 h1 (by decide);have t4:=jO o4 h1 (by decide);refine⟨vm,vo,vd,va,xo,xa,?_,h2,h3,h4,?_,?_,?_,?_,?_,?_,d,n1,n2,n3,n4⟩
 .rw[<-hc vm vo vd va];simp[World.setCell,zn,h1]
 .rw[e1];exact gK o1 fun g hg=>hk g (fun e=>t1 (by rw[hg,e]))
 .rw[e2];exact gK o2 fun g hg=>hk g (fun e=>t2 (by rw[hg,e]))
 .rw[e3];exact gK o3 fun g hg=>hk g (fun e=>t3 (by rw[hg,e]))
 .rw[e4];exact gK o4 fun g hg=>hk g (fun e=>t4 (by rw[hg,e]))
 .rw[e2];exact r1.mono (by simp[World.setCell]) fun b hb hlt=>⟨hk b hb.2.1,hb⟩
 rw[e4];exact r2.mono (by simp[World.setCell]) fun b hb hlt=>⟨hk b hb.2.1,hb⟩
theorem kJ.block{W:World}{lo pb rb:Nat}{p:Pl}(h:kJ W lo pb rb p):∃vm vo vd va,W.heap[pb]?=some (.cells (j5 p vm vo vd va) 29 (0,0)):=by
 obtain⟨vm,vo,vd,va,xo,xa,h1,_⟩:=h;exact⟨vm,vo,vd,va,h1⟩
theorem A9{lo:Nat}{a w:World}(h:Below lo a w){k:Nat}(hk:lo<=k)(i:Nat)(v:Value):Below lo a (w.setCell ⟨k,i,none⟩ v):=
 ⟨h.os,h.tape,h.output,by simpa[World.setCell]using h.size,fun j hj=>by rw[gu _ _ _ _ (by simp;omega)];exact h.block j hj⟩
theorem below_grown{lo rb:Nat}{w w':World}(h:w.grownBy w' (some rb))(hlo:lo<=w.heap.size)(hr:lo<=rb):Below lo w w':=
 ⟨h.os,h.tape,h.output,h.size,fun j hj=>h.block j (by omega) (by simp;omega)⟩
theorem uz(a b:List UInt8):(a==b)=decide (a=b):=by rw[Cj];simp
theorem aeA(W:World)(lo rb:Nat)(hlo:lo<=W.heap.size)(sv:Value)(wr:Bool)(ws:List (List UInt8))(s:List UInt8)(hs:ws.headD []=s)(h:gL W rb sv wr)(hw:jI W lo rb sv ws):
  Calls prog 96 #[.pointer (some ⟨rb,0,none⟩)] W fun e W'=>∃p9,e=.returned (.string ⟨s.toArray⟩)/\gL W' rb p9 (wr||ws.isEmpty)/\jI W' lo rb p9 ws.tail/\W.grownBy W' (some rb):=by
 subst hs;exact SC W lo rb hlo sv wr ws h hw
theorem pF{W:World}{lo:Nat}{e e':TypeId}{s s':Nat}{v v':Value}{n n':Nat}{xs xs':List Value}(h:W.ownsRow lo e s v n xs)(h':W.ownsRow lo e' s' v' n' xs')(hne:e≠e'){g:Nat}(hat:v.ownBlock=some g\/W.heap.size<=g):v'.ownBlock≠some g:=by
 intro hc;rcases hat with ha|ha
 .rcases h.2 with⟨h0,_⟩|⟨g',cap,cur,h1,h2,h3,h4⟩
  .rw[h0]at ha;cases ha
  .rw[h1]at ha;simp only[Value.ownBlock,dP]at ha;subst ha;exact jO h' h3 hne hc
 have:=(eP h' hc).2;omega
theorem agu{W:World}{lo:Nat}{e':TypeId}{s':Nat}{v v':Value}{n':Nat}{xs':List Value}(h':W.ownsRow lo e' s' v' n' xs')(hne:∀g,v.ownBlock=some g->v'.ownBlock≠some g){g:Nat}(hat:v.ownBlock=some g\/W.heap.size<=g):v'.ownBlock≠some g:=by
 intro hc;rcases hat with ha|ha
 .exact hne g ha hc
 have:=(eP h' hc).2;omega
theorem MJ{W W1:World}{row:Option Nat}(hg:W.grownBy W1 row)(pb i:Nat)(v:Value)(k:Nat)(hk:k<W.heap.size)(hne:k≠pb)(hr:row≠some k):(W1.setCell ⟨pb,i,none⟩ v).heap[k]?=W.heap[k]?:=by
 rw[gu _ _ _ _ (by simpa using hne)];exact hg.block k hk (fun e=>hr e.symm)
theorem MG{W W1:World}{row:Option Nat}(hg:W.grownBy W1 row){pb:Nat}(i:Nat)(v:Value){cs:Array Value}{t:TypeId}{fz:Nat×Nat}(h:W.heap[pb]?=some (.cells cs t fz))(hr:row≠some pb):(W1.setCell ⟨pb,i,none⟩ v).heap[pb]?=some (.cells (cs.set! i v) t fz):=by
 have h1:W1.heap[pb]?=some (.cells cs t fz):=by rw[hg.block pb (iX.1 h).1 (fun e=>hr e.symm)];exact h
 simp[World.setCell,zn,h1]
theorem kH{W:World}{b:Nat}{o:Obj}(h:W.heap[b]?=some o):b<W.heap.size:=(iX.1 h).1
theorem kJ.aym{W0:World}{lo pb rb:Nat}{p:Pl}(h:kJ W0 lo pb rb p)(hrb:rb<W0.heap.size):
  ∃vm,W0.cell? ⟨pb,10,none⟩=some vm/\vm.ownBlock≠some pb/\(∀g,vm.ownBlock=some g->g<W0.heap.size/\lo<=g/\g≠pb/\g≠rb)/\∀W,W0.grownBy W (some rb)->W.cell? ⟨pb,10,none⟩=some vm/\W.frozen? ⟨pb,10,none⟩=false/\W.ownsRow lo 127 2 vm p.maps.length (zH p.maps)/\
   ∀(m:Mp),
   ∀W1 g cap,W.grownBy W1 vm.ownBlock->(vm.ownBlock=some g\/W.heap.size<=g)->W1.ownsRow lo 127 2 (.slice (some ⟨g,0,none⟩) (p.maps.length+1) cap) (p.maps.length+1) ((zH p.maps)++ [.int .i64 m.fr,.int .i64 m.to])->
    kJ (W1.setCell ⟨pb,10,none⟩ (.slice (some ⟨g,0,none⟩) (p.maps.length+1) cap)) lo pb rb {p with maps:=p.maps++ [m]}:=by
 obtain⟨vm,vo,vd,va,xo,xa,h1',h2,h3,h4,sK,rR,sJ,rQ,r1',r2',d,n1,n2,n3,n4⟩:=h;have t0:=jO sK h1' (by decide);refine⟨vm,by rw[fA h1'];rfl,t0,fun g hg=>⟨(eP sK hg).2,(eP sK hg).1,fun e=>t0 (by rw[hg,e]),fun e=>n1 (by rw[hg,e])⟩,fun W hk=>?_⟩;have kk:∀k,k<W0.heap.size->k≠rb->W.heap[k]?=W0.heap[k]?:=fun k h hn=>hk.block k h (by simp;exact hn);have hp0:=kH h1';have hsz:=hk.size;have h1:W.heap[pb]?=some (.cells (j5 p vm vo vd va) 29 (0,0)):=by rw[kk pb hp0 h4];exact h1'
 have o1:=gK (W':=W) sK fun g hg=>kk g (eP sK hg).2 (fun e=>n1 (by rw[hg,e]));have o2:=gK (W':=W) rR fun g hg=>kk g (eP rR hg).2 (fun e=>n2 (by rw[hg,e]));have o3:=gK (W':=W) sJ fun g hg=>kk g (eP sJ hg).2 (fun e=>n3 (by rw[hg,e]));have o4:=gK (W':=W) rQ fun g hg=>kk g (eP rQ hg).2 (fun e=>n4 (by rw[hg,e]));have r1:=r1'.mono (w':=W) (N':=fun b=>qg lo pb rb vm vo vd va b/\b<W0.heap.size) hsz fun b hb hlt=>⟨kk b hlt hb.2.2.1,hb,hlt⟩;have r2:=r2'.mono (w':=W) (N':=fun b=>qg lo pb rb vm vo vd va b/\b<W0.heap.size) hsz fun b hb hlt=>⟨kk b hlt hb.2.2.1,hb,hlt⟩;have t1:=jO o1 h1 (by decide);have t2:=jO o2 h1 (by decide);have t3:=jO o3 h1 (by decide);have t4:=jO o4 h1 (by decide);refine⟨by rw[fA h1];rfl,iY h1 _,o1,fun m W1 g cap hg hat hown=>?_⟩;have Gf:g≠pb:=by
  rcases hat with ha|ha
  .exact fun e=>t1 (by rw[ha,e])
  .have:=kH h1;omega
 have hgr:g≠rb:=by
  rcases hat with ha|ha
  .exact fun e=>n1 (by rw[ha,e])
  .omega
 have Xc:vo.ownBlock≠some g:=pF o1 o2 (by decide) hat;have fvd:vd.ownBlock≠some g:=pF o1 o3 (by decide) hat;have Xd:va.ownBlock≠some g:=pF o1 o4 (by decide) hat;have hkp:=MJ hg pb 10 (.slice (some ⟨g,0,none⟩) (p.maps.length+1) cap);have tr:∀b,qg lo pb rb vm vo vd va b/\b<W0.heap.size->b<W.heap.size->(W1.setCell ⟨pb,10,none⟩ (.slice (some ⟨g,0,none⟩) (p.maps.length+1) cap)).heap[b]?=W.heap[b]?/\qg lo pb rb (.slice (some ⟨g,0,none⟩) (p.maps.length+1) cap) vo vd va b:=fun b ⟨hb,hb0⟩ hlt=>⟨hkp b hlt hb.2.1 hb.2.2.2.1,hb.1,hb.2.1,hb.2.2.1,(fun e=>by simp only[Value.ownBlock,dP]at e;rcases hat with ha|ha<;>first|(exact hb.2.2.2.1 (by rw[ha,e]))|omega),hb.2.2.2.2.1,hb.2.2.2.2.2.1,hb.2.2.2.2.2.2⟩;have hsz1:W.heap.size<=(W1.setCell ⟨pb,10,none⟩ (.slice (some ⟨g,0,none⟩) (p.maps.length+1) cap)).heap.size:=by have:=hg.size;simpa[World.setCell]using this
 exact⟨(.slice (some ⟨g,0,none⟩) (p.maps.length+1) cap),vo,vd,va,xo,xa,MG hg 10 (.slice (some ⟨g,0,none⟩) (p.maps.length+1) cap) h1 t1,h2,h3,h4,(by have q:=(gK hown fun k hz=>by simp only[Value.ownBlock,dP]at hz;subst hz;exact gu _ _ _ _ (by simpa using Gf):(W1.setCell ⟨pb,10,none⟩ (.slice (some ⟨g,0,none⟩) (p.maps.length+1) cap)).ownsRow lo 127 2 (.slice (some ⟨g,0,none⟩) (p.maps.length+1) cap) _ _);simpa[zH]using q),gK o2 fun k hz=>hkp k (eP o2 hz).2 (fun e=>t2 (by rw[hz,e])) (pF o2 o1 (by decide) (.inl hz)),gK o3 fun k hz=>hkp k (eP o3 hz).2 (fun e=>t3 (by rw[hz,e])) (pF o3 o1 (by decide) (.inl hz)),gK o4 fun k hz=>hkp k (eP o4 hz).2 (fun e=>t4 (by rw[hz,e])) (pF o4 o1 (by decide) (.inl hz)),r1.mono hsz1 tr,r2.mono hsz1 tr,d,(by simp only[Value.ownBlock,ne_eq,dP];exact hgr),n2,n3,n4⟩
theorem kJ.ayl{W0:World}{lo pb rb:Nat}{p:Pl}(h:kJ W0 lo pb rb p)(hrb:rb<W0.heap.size):
  ∃vo xs,W0.cell? ⟨pb,11,none⟩=some vo/\vo.ownBlock≠some pb/\(∀g,vo.ownBlock=some g->g<W0.heap.size/\lo<=g/\g≠pb/\g≠rb)/\∀W,W0.grownBy W (some rb)->W.cell? ⟨pb,11,none⟩=some vo/\W.frozen? ⟨pb,11,none⟩=false/\W.ownsRow lo 103 2 vo p.jf.length xs/\
   ∀(M:Nat) (hM:W0.heap.size<=M) (e:El) (dv:Value) (hd:Rd W (fun b=>M<=b) (.sl (.int .u8)) [dv] (.ls (ofBytes e.data))),
   ∀W1 g cap,W.grownBy W1 vo.ownBlock->(vo.ownBlock=some g\/W.heap.size<=g)->W1.ownsRow lo 103 2 (.slice (some ⟨g,0,none⟩) (p.jf.length+1) cap) (p.jf.length+1) (xs++ [.int .i64 e.id,dv])->
    kJ (W1.setCell ⟨pb,11,none⟩ (.slice (some ⟨g,0,none⟩) (p.jf.length+1) cap)) lo pb rb {p with jf:=p.jf++ [e]}:=by
 obtain⟨vm,vo,vd,va,xo,xa,h1',h2,h3,h4,sK,rR,sJ,rQ,r1',r2',d,n1,n2,n3,n4⟩:=h;have t0:=jO rR h1' (by decide);refine⟨vo,xo,by rw[fA h1'];rfl,t0,fun g hg=>⟨(eP rR hg).2,(eP rR hg).1,fun e=>t0 (by rw[hg,e]),fun e=>n2 (by rw[hg,e])⟩,fun W hk=>?_⟩;have kk:∀k,k<W0.heap.size->k≠rb->W.heap[k]?=W0.heap[k]?:=fun k h hn=>hk.block k h (by simp;exact hn);have hp0:=kH h1';have hsz:=hk.size;have h1:W.heap[pb]?=some (.cells (j5 p vm vo vd va) 29 (0,0)):=by rw[kk pb hp0 h4];exact h1'
 have o1:=gK (W':=W) sK fun g hg=>kk g (eP sK hg).2 (fun e=>n1 (by rw[hg,e]));have o2:=gK (W':=W) rR fun g hg=>kk g (eP rR hg).2 (fun e=>n2 (by rw[hg,e]));have o3:=gK (W':=W) sJ fun g hg=>kk g (eP sJ hg).2 (fun e=>n3 (by rw[hg,e]));have o4:=gK (W':=W) rQ fun g hg=>kk g (eP rQ hg).2 (fun e=>n4 (by rw[hg,e]));have r1:=r1'.mono (w':=W) (N':=fun b=>qg lo pb rb vm vo vd va b/\b<W0.heap.size) hsz fun b hb hlt=>⟨kk b hlt hb.2.2.1,hb,hlt⟩;have r2:=r2'.mono (w':=W) (N':=fun b=>qg lo pb rb vm vo vd va b/\b<W0.heap.size) hsz fun b hb hlt=>⟨kk b hlt hb.2.2.1,hb,hlt⟩;have t1:=jO o1 h1 (by decide);have t2:=jO o2 h1 (by decide);have t3:=jO o3 h1 (by decide);have t4:=jO o4 h1 (by decide);refine⟨by rw[fA h1];rfl,iY h1 _,o2,fun M hM e dv hd W1 g cap hg hat hown=>?_⟩;have Gf:g≠pb:=by
  rcases hat with ha|ha
  .exact fun e=>t2 (by rw[ha,e])
  .have:=kH h1;omega
 have hgr:g≠rb:=by
  rcases hat with ha|ha
  .exact fun e=>n2 (by rw[ha,e])
  .omega
 have fvm:vm.ownBlock≠some g:=pF o2 o1 (by decide) hat;have fvd:vd.ownBlock≠some g:=pF o2 o3 (by decide) hat;have Xd:va.ownBlock≠some g:=agu (v:=vo) o4 (fun g h=>d g h) hat;have hkp:=MJ hg pb 11 (.slice (some ⟨g,0,none⟩) (p.jf.length+1) cap);have tr:∀b,qg lo pb rb vm vo vd va b/\b<W0.heap.size->b<W.heap.size->(W1.setCell ⟨pb,11,none⟩ (.slice (some ⟨g,0,none⟩) (p.jf.length+1) cap)).heap[b]?=W.heap[b]?/\qg lo pb rb vm (.slice (some ⟨g,0,none⟩) (p.jf.length+1) cap) vd va b:=fun b ⟨hb,hb0⟩ hlt=>⟨hkp b hlt hb.2.1 hb.2.2.2.2.1,hb.1,hb.2.1,hb.2.2.1,hb.2.2.2.1,(fun e=>by simp only[Value.ownBlock,dP]at e;rcases hat with ha|ha<;>first|(exact hb.2.2.2.2.1 (by rw[ha,e]))|omega),hb.2.2.2.2.2.1,hb.2.2.2.2.2.2⟩;have hsz1:W.heap.size<=(W1.setCell ⟨pb,11,none⟩ (.slice (some ⟨g,0,none⟩) (p.jf.length+1) cap)).heap.size:=by have:=hg.size;simpa[World.setCell]using this
 have hd2:cZ (W1.setCell ⟨pb,11,none⟩ (.slice (some ⟨g,0,none⟩) (p.jf.length+1) cap)) (qg lo pb rb vm (.slice (some ⟨g,0,none⟩) (p.jf.length+1) cap) vd va) ou [.int .i64 e.id,dv] [nW e]:=by
  have hlo0:lo<=W0.heap.size:=by have:=h2;omega
  refine⟨[.int .i64 e.id,dv],[],rfl,⟨rfl,[.int .i64 e.id],[dv],rfl,rfl,rfl,[dv],[],rfl,?_,rfl⟩,rfl⟩;refine hd.mono hsz1 fun b hb hlt=>⟨hkp b hlt (by omega) (fun e=>by have:=(eP rR e).2;omega),by omega,by omega,by omega,(fun e=>by have:=(eP sK e).2;omega),(fun e=>by simp only[Value.ownBlock,dP]at e;rcases hat with ha|ha<;>first|(have:=(eP rR ha).2;omega)|omega),(fun e=>by have:=(eP sJ e).2;omega),(fun e=>by have:=(eP rQ e).2;omega)⟩
 exact⟨vm,(.slice (some ⟨g,0,none⟩) (p.jf.length+1) cap),vd,va,xo++ [.int .i64 e.id,dv],xa,MG hg 11 (.slice (some ⟨g,0,none⟩) (p.jf.length+1) cap) h1 t2,h2,h3,h4,gK o1 fun k hz=>hkp k (eP o1 hz).2 (fun e=>t1 (by rw[hz,e])) (pF o1 o2 (by decide) (.inl hz)),(by have q:=(gK hown fun k hz=>by simp only[Value.ownBlock,dP]at hz;subst hz;exact gu _ _ _ _ (by simpa using Gf):(W1.setCell ⟨pb,11,none⟩ (.slice (some ⟨g,0,none⟩) (p.jf.length+1) cap)).ownsRow lo 103 2 (.slice (some ⟨g,0,none⟩) (p.jf.length+1) cap) _ _);simpa[zH]using q),gK o3 fun k hz=>hkp k (eP o3 hz).2 (fun e=>t3 (by rw[hz,e])) (pF o3 o2 (by decide) (.inl hz)),gK o4 fun k hz=>hkp k (eP o4 hz).2 (fun e=>t4 (by rw[hz,e])) (fun e=>d _ e hz),(by rw[gW];exact cZ.append (r1.mono hsz1 tr) hd2),r2.mono hsz1 tr,(fun k hz e=>by simp only[Value.ownBlock,dP]at hz;subst hz;exact Xd e),n1,(by simp only[Value.ownBlock,ne_eq,dP];exact hgr),n3,n4⟩
theorem kJ.awY{W0:World}{lo pb rb:Nat}{p:Pl}(h:kJ W0 lo pb rb p)(hrb:rb<W0.heap.size):
  ∃vd,W0.cell? ⟨pb,12,none⟩=some vd/\vd.ownBlock≠some pb/\(∀g,vd.ownBlock=some g->g<W0.heap.size/\lo<=g/\g≠pb/\g≠rb)/\∀W,W0.grownBy W (some rb)->W.cell? ⟨pb,12,none⟩=some vd/\W.frozen? ⟨pb,12,none⟩=false/\W.ownsRow lo 3 1 vd p.jg.length (p.jg.map (Value.int .i64 ·))/\
   ∀(d:Int),
   ∀W1 g cap,W.grownBy W1 vd.ownBlock->(vd.ownBlock=some g\/W.heap.size<=g)->W1.ownsRow lo 3 1 (.slice (some ⟨g,0,none⟩) (p.jg.length+1) cap) (p.jg.length+1) ((p.jg.map (Value.int .i64 ·))++ [.int .i64 d])->
    kJ (W1.setCell ⟨pb,12,none⟩ (.slice (some ⟨g,0,none⟩) (p.jg.length+1) cap)) lo pb rb {p with jg:=p.jg++ [d]}:=by
 obtain⟨vm,vo,vd,va,xo,xa,h1',h2,h3,h4,sK,rR,sJ,rQ,r1',r2',d,n1,n2,n3,n4⟩:=h;have t0:=jO sJ h1' (by decide);refine⟨vd,by rw[fA h1'];rfl,t0,fun g hg=>⟨(eP sJ hg).2,(eP sJ hg).1,fun e=>t0 (by rw[hg,e]),fun e=>n3 (by rw[hg,e])⟩,fun W hk=>?_⟩;have kk:∀k,k<W0.heap.size->k≠rb->W.heap[k]?=W0.heap[k]?:=fun k h hn=>hk.block k h (by simp;exact hn);have hp0:=kH h1';have hsz:=hk.size;have h1:W.heap[pb]?=some (.cells (j5 p vm vo vd va) 29 (0,0)):=by rw[kk pb hp0 h4];exact h1'
 have o1:=gK (W':=W) sK fun g hg=>kk g (eP sK hg).2 (fun e=>n1 (by rw[hg,e]));have o2:=gK (W':=W) rR fun g hg=>kk g (eP rR hg).2 (fun e=>n2 (by rw[hg,e]));have o3:=gK (W':=W) sJ fun g hg=>kk g (eP sJ hg).2 (fun e=>n3 (by rw[hg,e]));have o4:=gK (W':=W) rQ fun g hg=>kk g (eP rQ hg).2 (fun e=>n4 (by rw[hg,e]));have r1:=r1'.mono (w':=W) (N':=fun b=>qg lo pb rb vm vo vd va b/\b<W0.heap.size) hsz fun b hb hlt=>⟨kk b hlt hb.2.2.1,hb,hlt⟩;have r2:=r2'.mono (w':=W) (N':=fun b=>qg lo pb rb vm vo vd va b/\b<W0.heap.size) hsz fun b hb hlt=>⟨kk b hlt hb.2.2.1,hb,hlt⟩;have t1:=jO o1 h1 (by decide);have t2:=jO o2 h1 (by decide);have t3:=jO o3 h1 (by decide);have t4:=jO o4 h1 (by decide);refine⟨by rw[fA h1];rfl,iY h1 _,o3,fun dn W1 g cap hg hat hown=>?_⟩;have Gf:g≠pb:=by
  rcases hat with ha|ha
  .exact fun e=>t3 (by rw[ha,e])
  .have:=kH h1;omega
 have hgr:g≠rb:=by
  rcases hat with ha|ha
  .exact fun e=>n3 (by rw[ha,e])
  .omega
 have fvm:vm.ownBlock≠some g:=pF o3 o1 (by decide) hat;have Xc:vo.ownBlock≠some g:=pF o3 o2 (by decide) hat;have Xd:va.ownBlock≠some g:=pF o3 o4 (by decide) hat;have hkp:=MJ hg pb 12 (.slice (some ⟨g,0,none⟩) (p.jg.length+1) cap);have tr:∀b,qg lo pb rb vm vo vd va b/\b<W0.heap.size->b<W.heap.size->(W1.setCell ⟨pb,12,none⟩ (.slice (some ⟨g,0,none⟩) (p.jg.length+1) cap)).heap[b]?=W.heap[b]?/\qg lo pb rb vm vo (.slice (some ⟨g,0,none⟩) (p.jg.length+1) cap) va b:=fun b ⟨hb,hb0⟩ hlt=>⟨hkp b hlt hb.2.1 hb.2.2.2.2.2.1,hb.1,hb.2.1,hb.2.2.1,hb.2.2.2.1,hb.2.2.2.2.1,(fun e=>by simp only[Value.ownBlock,dP]at e;rcases hat with ha|ha<;>first|(exact hb.2.2.2.2.2.1 (by rw[ha,e]))|omega),hb.2.2.2.2.2.2⟩;have hsz1:W.heap.size<=(W1.setCell ⟨pb,12,none⟩ (.slice (some ⟨g,0,none⟩) (p.jg.length+1) cap)).heap.size:=by have:=hg.size;simpa[World.setCell]using this
 exact⟨vm,vo,(.slice (some ⟨g,0,none⟩) (p.jg.length+1) cap),va,xo,xa,MG hg 12 (.slice (some ⟨g,0,none⟩) (p.jg.length+1) cap) h1 t3,h2,h3,h4,gK o1 fun k hz=>hkp k (eP o1 hz).2 (fun e=>t1 (by rw[hz,e])) (pF o1 o3 (by decide) (.inl hz)),gK o2 fun k hz=>hkp k (eP o2 hz).2 (fun e=>t2 (by rw[hz,e])) (pF o2 o3 (by decide) (.inl hz)),(by have q:=(gK hown fun k hz=>by simp only[Value.ownBlock,dP]at hz;subst hz;exact gu _ _ _ _ (by simpa using Gf):(W1.setCell ⟨pb,12,none⟩ (.slice (some ⟨g,0,none⟩) (p.jg.length+1) cap)).ownsRow lo 3 1 (.slice (some ⟨g,0,none⟩) (p.jg.length+1) cap) _ _);simpa[zH]using q),gK o4 fun k hz=>hkp k (eP o4 hz).2 (fun e=>t4 (by rw[hz,e])) (pF o4 o3 (by decide) (.inl hz)),r1.mono hsz1 tr,r2.mono hsz1 tr,d,n1,n2,(by simp only[Value.ownBlock,ne_eq,dP];exact hgr),n4⟩
theorem kJ.ayn{W0:World}{lo pb rb:Nat}{p:Pl}(h:kJ W0 lo pb rb p)(hrb:rb<W0.heap.size):
  ∃va xs,W0.cell? ⟨pb,13,none⟩=some va/\va.ownBlock≠some pb/\(∀g,va.ownBlock=some g->g<W0.heap.size/\lo<=g/\g≠pb/\g≠rb)/\∀W,W0.grownBy W (some rb)->W.cell? ⟨pb,13,none⟩=some va/\W.frozen? ⟨pb,13,none⟩=false/\W.ownsRow lo 103 2 va p.jh.length xs/\
   ∀(M:Nat) (hM:W0.heap.size<=M) (e:El) (dv:Value) (hd:Rd W (fun b=>M<=b) (.sl (.int .u8)) [dv] (.ls (ofBytes e.data))),
   ∀W1 g cap,W.grownBy W1 va.ownBlock->(va.ownBlock=some g\/W.heap.size<=g)->W1.ownsRow lo 103 2 (.slice (some ⟨g,0,none⟩) (p.jh.length+1) cap) (p.jh.length+1) (xs++ [.int .i64 e.id,dv])->
    kJ (W1.setCell ⟨pb,13,none⟩ (.slice (some ⟨g,0,none⟩) (p.jh.length+1) cap)) lo pb rb {p with jh:=p.jh++ [e]}:=by
 obtain⟨vm,vo,vd,va,xo,xa,h1',h2,h3,h4,sK,rR,sJ,rQ,r1',r2',d,n1,n2,n3,n4⟩:=h;have t0:=jO rQ h1' (by decide);refine⟨va,xa,by rw[fA h1'];rfl,t0,fun g hg=>⟨(eP rQ hg).2,(eP rQ hg).1,fun e=>t0 (by rw[hg,e]),fun e=>n4 (by rw[hg,e])⟩,fun W hk=>?_⟩;have kk:∀k,k<W0.heap.size->k≠rb->W.heap[k]?=W0.heap[k]?:=fun k h hn=>hk.block k h (by simp;exact hn);have hp0:=kH h1';have hsz:=hk.size;have h1:W.heap[pb]?=some (.cells (j5 p vm vo vd va) 29 (0,0)):=by rw[kk pb hp0 h4];exact h1'
 have o1:=gK (W':=W) sK fun g hg=>kk g (eP sK hg).2 (fun e=>n1 (by rw[hg,e]));have o2:=gK (W':=W) rR fun g hg=>kk g (eP rR hg).2 (fun e=>n2 (by rw[hg,e]));have o3:=gK (W':=W) sJ fun g hg=>kk g (eP sJ hg).2 (fun e=>n3 (by rw[hg,e]));have o4:=gK (W':=W) rQ fun g hg=>kk g (eP rQ hg).2 (fun e=>n4 (by rw[hg,e]));have r1:=r1'.mono (w':=W) (N':=fun b=>qg lo pb rb vm vo vd va b/\b<W0.heap.size) hsz fun b hb hlt=>⟨kk b hlt hb.2.2.1,hb,hlt⟩;have r2:=r2'.mono (w':=W) (N':=fun b=>qg lo pb rb vm vo vd va b/\b<W0.heap.size) hsz fun b hb hlt=>⟨kk b hlt hb.2.2.1,hb,hlt⟩;have t1:=jO o1 h1 (by decide);have t2:=jO o2 h1 (by decide);have t3:=jO o3 h1 (by decide);have t4:=jO o4 h1 (by decide);refine⟨by rw[fA h1];rfl,iY h1 _,o4,fun M hM e dv hd W1 g cap hg hat hown=>?_⟩;have Gf:g≠pb:=by
  rcases hat with ha|ha
  .exact fun e=>t4 (by rw[ha,e])
  .have:=kH h1;omega
 have hgr:g≠rb:=by
  rcases hat with ha|ha
  .exact fun e=>n4 (by rw[ha,e])
  .omega
 have fvm:vm.ownBlock≠some g:=pF o4 o1 (by decide) hat;have Xc:vo.ownBlock≠some g:=agu (v:=va) o2 (fun g h e=>d g e h) hat;have fvd:vd.ownBlock≠some g:=pF o4 o3 (by decide) hat;have hkp:=MJ hg pb 13 (.slice (some ⟨g,0,none⟩) (p.jh.length+1) cap);have tr:∀b,qg lo pb rb vm vo vd va b/\b<W0.heap.size->b<W.heap.size->(W1.setCell ⟨pb,13,none⟩ (.slice (some ⟨g,0,none⟩) (p.jh.length+1) cap)).heap[b]?=W.heap[b]?/\qg lo pb rb vm vo vd (.slice (some ⟨g,0,none⟩) (p.jh.length+1) cap) b:=fun b ⟨hb,hb0⟩ hlt=>⟨hkp b hlt hb.2.1 hb.2.2.2.2.2.2,hb.1,hb.2.1,hb.2.2.1,hb.2.2.2.1,hb.2.2.2.2.1,hb.2.2.2.2.2.1,(fun e=>by simp only[Value.ownBlock,dP]at e;rcases hat with ha|ha<;>first|(exact hb.2.2.2.2.2.2 (by rw[ha,e]))|omega)⟩;have hsz1:W.heap.size<=(W1.setCell ⟨pb,13,none⟩ (.slice (some ⟨g,0,none⟩) (p.jh.length+1) cap)).heap.size:=by have:=hg.size;simpa[World.setCell]using this
 have hd2:cZ (W1.setCell ⟨pb,13,none⟩ (.slice (some ⟨g,0,none⟩) (p.jh.length+1) cap)) (qg lo pb rb vm vo vd (.slice (some ⟨g,0,none⟩) (p.jh.length+1) cap)) ou [.int .i64 e.id,dv] [nW e]:=by
  have hlo0:lo<=W0.heap.size:=by have:=h2;omega
  refine⟨[.int .i64 e.id,dv],[],rfl,⟨rfl,[.int .i64 e.id],[dv],rfl,rfl,rfl,[dv],[],rfl,?_,rfl⟩,rfl⟩;refine hd.mono hsz1 fun b hb hlt=>⟨hkp b hlt (by omega) (fun e=>by have:=(eP rQ e).2;omega),by omega,by omega,by omega,(fun e=>by have:=(eP sK e).2;omega),(fun e=>by have:=(eP rR e).2;omega),(fun e=>by have:=(eP sJ e).2;omega),(fun e=>by simp only[Value.ownBlock,dP]at e;rcases hat with ha|ha<;>first|(have:=(eP rQ ha).2;omega)|omega)⟩
 exact⟨vm,vo,vd,(.slice (some ⟨g,0,none⟩) (p.jh.length+1) cap),xo,xa++ [.int .i64 e.id,dv],MG hg 13 (.slice (some ⟨g,0,none⟩) (p.jh.length+1) cap) h1 t4,h2,h3,h4,gK o1 fun k hz=>hkp k (eP o1 hz).2 (fun e=>t1 (by rw[hz,e])) (pF o1 o4 (by decide) (.inl hz)),gK o2 fun k hz=>hkp k (eP o2 hz).2 (fun e=>t2 (by rw[hz,e])) (fun e=>d _ hz e),gK o3 fun k hz=>hkp k (eP o3 hz).2 (fun e=>t3 (by rw[hz,e])) (pF o3 o4 (by decide) (.inl hz)),(by have q:=(gK hown fun k hz=>by simp only[Value.ownBlock,dP]at hz;subst hz;exact gu _ _ _ _ (by simpa using Gf):(W1.setCell ⟨pb,13,none⟩ (.slice (some ⟨g,0,none⟩) (p.jh.length+1) cap)).ownsRow lo 103 2 (.slice (some ⟨g,0,none⟩) (p.jh.length+1) cap) _ _);simpa[zH]using q),r1.mono hsz1 tr,(by rw[gW];exact cZ.append (r2.mono hsz1 tr) hd2),(fun k hz e=>by simp only[Value.ownBlock,dP]at e;subst e;exact Xc hz),n1,n2,n3,(by simp only[Value.ownBlock,ne_eq,dP];exact hgr)⟩
end Go.Vc
