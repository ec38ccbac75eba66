/-
  The walk of the reader's group (say): a plan in a block of the caller's own, with rows of its own.
-/
import Derived.Test.YtaehhpempnelhaaGreatDoorQYs
import Derived.Test.YtaehhpempnelhaaGreatDoorQTx2
import Derived.Deep.AppendLies
import Derived.Deep.RegionHeld3
set_option maxRecDepth 100000
namespace Go.Vc
open Go Go.Proofs Go.RowKit Go.Plain
def iw(p:Pl)(vm vo vd va:Value):Array Value:=
 #[.bool p.sm,.bool p.m,.bool p.st,.int .i64 p.ty,.bool p.sq,.int .u16 p.seq,.bool p.bL,.int .u32 p.time,.bool p.ss,.int .u32 p.aN,vm,vo,vd,va,.bool p.np]
def lG(lo pb rb:Nat)(vm vo vd va:Value)(b:Nat):Prop:=lo<=b/\b≠pb/\b≠rb/\vm.ownBlock≠some b/\vo.ownBlock≠some b/\vd.ownBlock≠some b/\va.ownBlock≠some b
def tY(l:List Mp):List Value:=l.flatMap fun m=> [.int .i64 m.fr,.int .i64 m.to]
def iT(W:World)(lo pb rb:Nat)(p:Pl):Prop:=
 ∃vm vo vd va xo xa,W.heap[pb]?=some (.cells (iw p vm vo vd va) 29 (0,0))/\lo<=pb/\lo<=rb/\pb≠rb/\
  W.ownsRow lo 127 2 vm p.maps.length (tY p.maps)/\W.ownsRow lo 103 2 vo p.over.length xo/\W.ownsRow lo 3 1 vd p.drops.length (p.drops.map (Value.int .i64 ·))/\W.ownsRow lo 103 2 va p.adds.length xa/\
  bF W (lG lo pb rb vm vo vd va) lU xo (p.over.map kT)/\bF W (lG lo pb rb vm vo vd va) lU xa (p.adds.map kT)/\
  (∀g,vo.ownBlock=some g->va.ownBlock≠some g)/\vm.ownBlock≠some rb/\vo.ownBlock≠some rb/\vd.ownBlock≠some rb/\va.ownBlock≠some rb
def nD(p:Pl)(ws:List (List UInt8))(wr:Bool):Pl×List (List UInt8)×Bool:=
 let w:=ws.headD []
 let r:=ws.tail
 let b:=wr||ws.isEmpty
 let x:=r.headD []
 let y:=r.tail.headD []
 if w=xC then ({p with sm:=true,m:=decide (x=uR)},r.tail,(b||r.isEmpty)||(decide (x≠uR)&&decide (x≠uz)))
 else if w=xQ then ({p with st:=true,ty:=(aX 255 x).1},r.tail,(b||r.isEmpty)||(aX 255 x).2)
 else if w=yu then ({p with sq:=true,seq:=(aX 65535 x).1},r.tail,(b||r.isEmpty)||(aX 65535 x).2)
 else if w=xR then ({p with bL:=true,time:=(aX 4294967295 x).1},r.tail,(b||r.isEmpty)||(aX 4294967295 x).2)
 else if w=xS then ({p with ss:=true,aN:=(aX 4294967295 x).1},r.tail,(b||r.isEmpty)||(aX 4294967295 x).2)
 else if w=sH then ({p with maps:=p.maps++ [⟨(aX 255 x).1,(aX 255 y).1⟩]},r.tail.tail,(((b||r.isEmpty)||(aX 255 x).2)||r.tail.isEmpty)||(aX 255 y).2)
 else if w=pY then ({p with over:=p.over++ [⟨(aX 255 x).1,(iW y).getD []⟩]},r.tail.tail,(((b||r.isEmpty)||(aX 255 x).2)||r.tail.isEmpty)|| !(iW y).isSome)
 else if w=rZ then ({p with drops:=p.drops++ [((aX 255 x).1:Int)]},r.tail,(b||r.isEmpty)||(aX 255 x).2)
 else if w=qg then ({p with adds:=p.adds++ [⟨(aX 255 x).1,(iW y).getD []⟩]},r.tail.tail,(((b||r.isEmpty)||(aX 255 x).2)||r.tail.isEmpty)|| !(iW y).isSome)
 else if w=xI then ({p with np:=true},r,b)
 else (p,r,true)
theorem eF{W W':World}{lo:Nat}{e:TypeId}{size:Nat}{v:Value}{n:Nat}{xs:List Value}(h:W.ownsRow lo e size v n xs)(hk:∀g,v.ownBlock=some g->W'.heap[g]?=W.heap[g]?):W'.ownsRow lo e size v n xs:=by
 refine ⟨h.1,?_⟩;rcases h.2 with h0|⟨g,cap,cur,h1,h2,h3,h4⟩
 .exact .inl h0
 .exact .inr ⟨g,cap,cur,h1,h2,by rw[hk g (by rw[h1];rfl)];exact h3,h4⟩
theorem dD{W:World}{lo:Nat}{e:TypeId}{size:Nat}{v:Value}{n:Nat}{xs:List Value}(h:W.ownsRow lo e size v n xs){g:Nat}(hg:v.ownBlock=some g):lo<=g/\g<W.heap.size:=by
 rcases h.2 with ⟨h0,_⟩|⟨g',cap,cur,h1,h2,h3,h4⟩
 .rw[h0] at hg;cases hg
 .rw[h1] at hg;simp only[Value.ownBlock,bQ] at hg;subst hg;exact ⟨h2,(fu.1 h3).1⟩
theorem iT.keep{W W':World}{lo pb rb:Nat}{p:Pl}(h:iT W lo pb rb p)(hs:W.heap.size<=W'.heap.size)(hk:∀k,k<W.heap.size->k≠rb->W'.heap[k]?=W.heap[k]?):iT W' lo pb rb p:=by
 obtain ⟨vm,vo,vd,va,xo,xa,h1,h2,h3,h4,o1,o2,o3,o4,r1,r2,d,n1,n2,n3,n4⟩:=h;have hp:pb<W.heap.size:=(fu.1 h1).1;refine ⟨vm,vo,vd,va,xo,xa,by rw[hk pb hp h4];exact h1,h2,h3,h4,eF o1 ?_,eF o2 ?_,eF o3 ?_,eF o4 ?_,r1.mono hs ?_,r2.mono hs ?_,d,n1,n2,n3,n4⟩
 .exact fun g hg=>hk g (dD o1 hg).2 (fun e=>n1 (by rw[hg,e]))
 .exact fun g hg=>hk g (dD o2 hg).2 (fun e=>n2 (by rw[hg,e]))
 .exact fun g hg=>hk g (dD o3 hg).2 (fun e=>n3 (by rw[hg,e]))
 .exact fun g hg=>hk g (dD o4 hg).2 (fun e=>n4 (by rw[hg,e]))
 .exact fun b hb hlt=>⟨hk b hlt hb.2.2.1,hb⟩
 .exact fun b hb hlt=>⟨hk b hlt hb.2.2.1,hb⟩
theorem jf{W:World}{lo:Nat}{e:TypeId}{size:Nat}{v:Value}{n:Nat}{xs:List Value}(h:W.ownsRow lo e size v n xs){g:Nat}{cs:Array Value}{t:TypeId}{fz:Nat×Nat}(hg:W.heap[g]?=some (.cells cs t fz))(ht:t≠e):v.ownBlock≠some g:=by
 rcases h.2 with ⟨h0,_⟩|⟨g',cap,cur,h1,h2,h3,h4⟩
 .rw[h0];simp[Value.ownBlock]
 .rw[h1];intro hc;simp only[Value.ownBlock,bQ] at hc;subst hc;rw[hg] at h3;simp only[bQ,Obj.cells.injEq] at h3;exact ht h3.2.1
theorem iT.set{W:World}{lo pb rb:Nat}{p p':Pl}(h:iT W lo pb rb p)(i:Nat)(v:Value)(hc:∀vm vo vd va,(iw p vm vo vd va).set! i v=iw p' vm vo vd va)
  (e1:p'.maps=p.maps) (e2:p'.over=p.over) (e3:p'.drops=p.drops) (e4:p'.adds=p.adds):iT (W.setCell ⟨pb,i,none⟩ v) lo pb rb p':=by
 obtain ⟨vm,vo,vd,va,xo,xa,h1,h2,h3,h4,o1,o2,o3,o4,r1,r2,d,n1,n2,n3,n4⟩:=h;have hk:∀k,k≠pb->(W.setCell ⟨pb,i,none⟩ v).heap[k]?=W.heap[k]?:=fun k hk=>Below.heap_setCell _ _ _ _ (by simpa using hk);have t1:=jf o1 h1 (by decide);have t2:=jf o2 h1 (by decide);have t3:=jf o3 h1 (by decide);have t4:=jf o4 h1 (by decide);refine ⟨vm,vo,vd,va,xo,xa,?_,h2,h3,h4,?_,?_,?_,?_,?_,?_,d,n1,n2,n3,n4⟩
 .rw[<-hc vm vo vd va];simp[World.setCell,Array.getElem?_modify,h1]
 .rw[e1];exact eF o1 fun g hg=>hk g (fun e=>t1 (by rw[hg,e]))
 .rw[e2];exact eF o2 fun g hg=>hk g (fun e=>t2 (by rw[hg,e]))
 .rw[e3];exact eF o3 fun g hg=>hk g (fun e=>t3 (by rw[hg,e]))
 .rw[e4];exact eF o4 fun g hg=>hk g (fun e=>t4 (by rw[hg,e]))
 .rw[e2];exact r1.mono (by simp[World.setCell]) fun b hb hlt=>⟨hk b hb.2.1,hb⟩
 .rw[e4];exact r2.mono (by simp[World.setCell]) fun b hb hlt=>⟨hk b hb.2.1,hb⟩
theorem iT.block{W:World}{lo pb rb:Nat}{p:Pl}(h:iT W lo pb rb p):∃vm vo vd va,W.heap[pb]?=some (.cells (iw p vm vo vd va) 29 (0,0)):=by
 obtain ⟨vm,vo,vd,va,xo,xa,h1,_⟩:=h;exact ⟨vm,vo,vd,va,h1⟩
theorem nO{lo:Nat}{a w:World}(h:Below lo a w){k:Nat}(hk:lo<=k)(i:Nat)(v:Value):Below lo a (w.setCell ⟨k,i,none⟩ v):=
 ⟨h.os,h.tape,h.output,by simpa [World.setCell] using h.size,fun j hj=>by rw[Below.heap_setCell _ _ _ _ (by simp;omega)];exact h.block j hj⟩
theorem below_grown{lo rb:Nat}{w w':World}(h:w.grownBy w' (some rb))(hlo:lo<=w.heap.size)(hr:lo<=rb):Below lo w w':=
 ⟨h.os,h.tape,h.output,h.size,fun j hj=>h.block j (by omega) (by simp;omega)⟩
theorem oI(a b:List UInt8):(a==b)=decide (a=b):=by rw[Bool.eq_iff_iff];simp
theorem Yp(W:World)(lo rb:Nat)(hlo:lo<=W.heap.size)(sv:Value)(wr:Bool)(ws:List (List UInt8))(s:List UInt8)(hs:ws.headD []=s)(h:dX W rb sv wr)(hw:gT W lo rb sv ws):
  Calls Tryz.prog 96 #[.pointer (some ⟨rb,0,none⟩)] W fun e W'=>∃lD,e= .returned (.string ⟨s.toArray⟩)/\dX W' rb lD (wr||ws.isEmpty)/\gT W' lo rb lD ws.tail/\W.grownBy W' (some rb):=by
 subst hs;exact MC W lo rb hlo sv wr ws h hw
theorem kY{W:World}{lo:Nat}{e e':TypeId}{s s':Nat}{v v':Value}{n n':Nat}{xs xs':List Value}(h:W.ownsRow lo e s v n xs)(h':W.ownsRow lo e' s' v' n' xs')(hne:e≠e'){g:Nat}(hat:v.ownBlock=some g\/W.heap.size<=g):v'.ownBlock≠some g:=by
 intro hc;rcases hat with ha|ha
 .rcases h.2 with ⟨h0,_⟩|⟨g',cap,cur,h1,h2,h3,h4⟩
  .rw[h0] at ha;cases ha
  .rw[h1] at ha;simp only[Value.ownBlock,bQ] at ha;subst ha;exact jf h' h3 hne hc
 .have:=(dD h' hc).2;omega
theorem Z9{W:World}{lo:Nat}{e':TypeId}{s':Nat}{v v':Value}{n':Nat}{xs':List Value}(h':W.ownsRow lo e' s' v' n' xs')(hne:∀g,v.ownBlock=some g->v'.ownBlock≠some g){g:Nat}(hat:v.ownBlock=some g\/W.heap.size<=g):v'.ownBlock≠some g:=by
 intro hc;rcases hat with ha|ha
 .exact hne g ha hc
 .have:=(dD h' hc).2;omega
theorem Gy{W W1:World}{row:Option Nat}(hg:W.grownBy W1 row)(pb i:Nat)(v:Value)(k:Nat)(hk:k<W.heap.size)(hne:k≠pb)(hr:row≠some k):(W1.setCell ⟨pb,i,none⟩ v).heap[k]?=W.heap[k]?:=by
 rw[Below.heap_setCell _ _ _ _ (by simpa using hne)];exact hg.block k hk (fun e=>hr e.symm)
theorem Gv{W W1:World}{row:Option Nat}(hg:W.grownBy W1 row){pb:Nat}(i:Nat)(v:Value){cs:Array Value}{t:TypeId}{fz:Nat×Nat}(h:W.heap[pb]?=some (.cells cs t fz))(hr:row≠some pb):(W1.setCell ⟨pb,i,none⟩ v).heap[pb]?=some (.cells (cs.set! i v) t fz):=by
 have h1:W1.heap[pb]?=some (.cells cs t fz):=by rw[hg.block pb (fu.1 h).1 (fun e=>hr e.symm)];exact h
 simp[World.setCell,Array.getElem?_modify,h1]
theorem rY{W:World}{b:Nat}{o:Obj}(h:W.heap[b]?=some o):b<W.heap.size:=(fu.1 h).1
theorem iT.aom{W0:World}{lo pb rb:Nat}{p:Pl}(h:iT W0 lo pb rb p)(hrb:rb<W0.heap.size):
  ∃vm,W0.cell? ⟨pb,10,none⟩=some vm/\vm.ownBlock≠some pb/\(∀g,vm.ownBlock=some g->g<W0.heap.size/\lo<=g/\g≠pb/\g≠rb)/\∀W,W0.grownBy W (some rb)->W.cell? ⟨pb,10,none⟩=some vm/\W.frozen? ⟨pb,10,none⟩=false/\W.ownsRow lo 127 2 vm p.maps.length (tY p.maps)/\
   ∀(m:Mp),
   ∀W1 g cap,W.grownBy W1 vm.ownBlock->(vm.ownBlock=some g\/W.heap.size<=g)->W1.ownsRow lo 127 2 (.slice (some ⟨g,0,none⟩) (p.maps.length+1) cap) (p.maps.length+1) ((tY p.maps)++ [.int .i64 m.fr,.int .i64 m.to])->
    iT (W1.setCell ⟨pb,10,none⟩ (.slice (some ⟨g,0,none⟩) (p.maps.length+1) cap)) lo pb rb {p with maps:=p.maps++ [m]}:=by
 obtain ⟨vm,vo,vd,va,xo,xa,h1',h2,h3,h4,nH,mX,nG,mW,r1',r2',d,n1,n2,n3,n4⟩:=h;have t0:=jf nH h1' (by decide);refine ⟨vm,by rw[Lib.cell_of_heap h1'];rfl,t0,fun g hg=>⟨(dD nH hg).2,(dD nH hg).1,fun e=>t0 (by rw[hg,e]),fun e=>n1 (by rw[hg,e])⟩,fun W hk=>?_⟩;have kk:∀k,k<W0.heap.size->k≠rb->W.heap[k]?=W0.heap[k]?:=fun k h hn=>hk.block k h (by simp;exact hn);have hp0:=rY h1';have hsz:=hk.size;have h1:W.heap[pb]?=some (.cells (iw p vm vo vd va) 29 (0,0)):=by rw[kk pb hp0 h4];exact h1'
 have o1:=eF (W':=W) nH fun g hg=>kk g (dD nH hg).2 (fun e=>n1 (by rw[hg,e]));have o2:=eF (W':=W) mX fun g hg=>kk g (dD mX hg).2 (fun e=>n2 (by rw[hg,e]));have o3:=eF (W':=W) nG fun g hg=>kk g (dD nG hg).2 (fun e=>n3 (by rw[hg,e]));have o4:=eF (W':=W) mW fun g hg=>kk g (dD mW hg).2 (fun e=>n4 (by rw[hg,e]));have r1:=r1'.mono (w':=W) (N':=fun b=>lG lo pb rb vm vo vd va b/\b<W0.heap.size) hsz fun b hb hlt=>⟨kk b hlt hb.2.2.1,hb,hlt⟩;have r2:=r2'.mono (w':=W) (N':=fun b=>lG lo pb rb vm vo vd va b/\b<W0.heap.size) hsz fun b hb hlt=>⟨kk b hlt hb.2.2.1,hb,hlt⟩;have t1:=jf o1 h1 (by decide);have t2:=jf o2 h1 (by decide);have t3:=jf o3 h1 (by decide);have t4:=jf o4 h1 (by decide);refine ⟨by rw[Lib.cell_of_heap h1];rfl,Lib.frozen_of_heap h1 _,o1,fun m W1 g cap hg hat hown=>?_⟩;have A8:g≠pb:=by
  rcases hat with ha|ha
  .exact fun e=>t1 (by rw[ha,e])
  .have:=rY h1;omega
 have hgr:g≠rb:=by
  rcases hat with ha|ha
  .exact fun e=>n1 (by rw[ha,e])
  .omega
 have Qn:vo.ownBlock≠some g:=kY o1 o2 (by decide) hat;have fvd:vd.ownBlock≠some g:=kY o1 o3 (by decide) hat;have Qo:va.ownBlock≠some g:=kY o1 o4 (by decide) hat;have hkp:=Gy hg pb 10 (.slice (some ⟨g,0,none⟩) (p.maps.length+1) cap);have tr:∀b,lG lo pb rb vm vo vd va b/\b<W0.heap.size->b<W.heap.size->(W1.setCell ⟨pb,10,none⟩ (.slice (some ⟨g,0,none⟩) (p.maps.length+1) cap)).heap[b]?=W.heap[b]?/\lG lo pb rb (.slice (some ⟨g,0,none⟩) (p.maps.length+1) cap) vo vd va b:=fun b ⟨hb,hb0⟩ hlt=>⟨hkp b hlt hb.2.1 hb.2.2.2.1,hb.1,hb.2.1,hb.2.2.1,(fun e=>by simp only[Value.ownBlock,bQ] at e;rcases hat with ha|ha<;>first|(exact hb.2.2.2.1 (by rw[ha,e]))|omega),hb.2.2.2.2.1,hb.2.2.2.2.2.1,hb.2.2.2.2.2.2⟩;have hsz1:W.heap.size<=(W1.setCell ⟨pb,10,none⟩ (.slice (some ⟨g,0,none⟩) (p.maps.length+1) cap)).heap.size:=by have:=hg.size;simpa [World.setCell] using this
 exact ⟨(.slice (some ⟨g,0,none⟩) (p.maps.length+1) cap),vo,vd,va,xo,xa,Gv hg 10 (.slice (some ⟨g,0,none⟩) (p.maps.length+1) cap) h1 t1,h2,h3,h4,(by have q:=(eF hown fun k hz=>by simp only[Value.ownBlock,bQ] at hz;subst hz;exact Below.heap_setCell _ _ _ _ (by simpa using A8):(W1.setCell ⟨pb,10,none⟩ (.slice (some ⟨g,0,none⟩) (p.maps.length+1) cap)).ownsRow lo 127 2 (.slice (some ⟨g,0,none⟩) (p.maps.length+1) cap) _ _);simpa [tY] using q),eF o2 fun k hz=>hkp k (dD o2 hz).2 (fun e=>t2 (by rw[hz,e])) (kY o2 o1 (by decide) (.inl hz)),eF o3 fun k hz=>hkp k (dD o3 hz).2 (fun e=>t3 (by rw[hz,e])) (kY o3 o1 (by decide) (.inl hz)),eF o4 fun k hz=>hkp k (dD o4 hz).2 (fun e=>t4 (by rw[hz,e])) (kY o4 o1 (by decide) (.inl hz)),r1.mono hsz1 tr,r2.mono hsz1 tr,d,(by simp only[Value.ownBlock,ne_eq,bQ];exact hgr),n2,n3,n4⟩
theorem iT.aol{W0:World}{lo pb rb:Nat}{p:Pl}(h:iT W0 lo pb rb p)(hrb:rb<W0.heap.size):
  ∃vo xs,W0.cell? ⟨pb,11,none⟩=some vo/\vo.ownBlock≠some pb/\(∀g,vo.ownBlock=some g->g<W0.heap.size/\lo<=g/\g≠pb/\g≠rb)/\∀W,W0.grownBy W (some rb)->W.cell? ⟨pb,11,none⟩=some vo/\W.frozen? ⟨pb,11,none⟩=false/\W.ownsRow lo 103 2 vo p.over.length xs/\
   ∀(M:Nat) (hM:W0.heap.size<=M) (e:El) (dv:Value) (hd:Rd W (fun b=>M<=b) (.sl (.int .u8)) [dv] (.ls (ofBytes e.data))),
   ∀W1 g cap,W.grownBy W1 vo.ownBlock->(vo.ownBlock=some g\/W.heap.size<=g)->W1.ownsRow lo 103 2 (.slice (some ⟨g,0,none⟩) (p.over.length+1) cap) (p.over.length+1) (xs++ [.int .i64 e.id,dv])->
    iT (W1.setCell ⟨pb,11,none⟩ (.slice (some ⟨g,0,none⟩) (p.over.length+1) cap)) lo pb rb {p with over:=p.over++ [e]}:=by
 obtain ⟨vm,vo,vd,va,xo,xa,h1',h2,h3,h4,nH,mX,nG,mW,r1',r2',d,n1,n2,n3,n4⟩:=h;have t0:=jf mX h1' (by decide);refine ⟨vo,xo,by rw[Lib.cell_of_heap h1'];rfl,t0,fun g hg=>⟨(dD mX hg).2,(dD mX hg).1,fun e=>t0 (by rw[hg,e]),fun e=>n2 (by rw[hg,e])⟩,fun W hk=>?_⟩;have kk:∀k,k<W0.heap.size->k≠rb->W.heap[k]?=W0.heap[k]?:=fun k h hn=>hk.block k h (by simp;exact hn);have hp0:=rY h1';have hsz:=hk.size;have h1:W.heap[pb]?=some (.cells (iw p vm vo vd va) 29 (0,0)):=by rw[kk pb hp0 h4];exact h1'
 have o1:=eF (W':=W) nH fun g hg=>kk g (dD nH hg).2 (fun e=>n1 (by rw[hg,e]));have o2:=eF (W':=W) mX fun g hg=>kk g (dD mX hg).2 (fun e=>n2 (by rw[hg,e]));have o3:=eF (W':=W) nG fun g hg=>kk g (dD nG hg).2 (fun e=>n3 (by rw[hg,e]));have o4:=eF (W':=W) mW fun g hg=>kk g (dD mW hg).2 (fun e=>n4 (by rw[hg,e]));have r1:=r1'.mono (w':=W) (N':=fun b=>lG lo pb rb vm vo vd va b/\b<W0.heap.size) hsz fun b hb hlt=>⟨kk b hlt hb.2.2.1,hb,hlt⟩;have r2:=r2'.mono (w':=W) (N':=fun b=>lG lo pb rb vm vo vd va b/\b<W0.heap.size) hsz fun b hb hlt=>⟨kk b hlt hb.2.2.1,hb,hlt⟩;have t1:=jf o1 h1 (by decide);have t2:=jf o2 h1 (by decide);have t3:=jf o3 h1 (by decide);have t4:=jf o4 h1 (by decide);refine ⟨by rw[Lib.cell_of_heap h1];rfl,Lib.frozen_of_heap h1 _,o2,fun M hM e dv hd W1 g cap hg hat hown=>?_⟩;have A8:g≠pb:=by
  rcases hat with ha|ha
  .exact fun e=>t2 (by rw[ha,e])
  .have:=rY h1;omega
 have hgr:g≠rb:=by
  rcases hat with ha|ha
  .exact fun e=>n2 (by rw[ha,e])
  .omega
 have fvm:vm.ownBlock≠some g:=kY o2 o1 (by decide) hat;have fvd:vd.ownBlock≠some g:=kY o2 o3 (by decide) hat;have Qo:va.ownBlock≠some g:=Z9 (v:=vo) o4 (fun g h=>d g h) hat;have hkp:=Gy hg pb 11 (.slice (some ⟨g,0,none⟩) (p.over.length+1) cap);have tr:∀b,lG lo pb rb vm vo vd va b/\b<W0.heap.size->b<W.heap.size->(W1.setCell ⟨pb,11,none⟩ (.slice (some ⟨g,0,none⟩) (p.over.length+1) cap)).heap[b]?=W.heap[b]?/\lG lo pb rb vm (.slice (some ⟨g,0,none⟩) (p.over.length+1) cap) vd va b:=fun b ⟨hb,hb0⟩ hlt=>⟨hkp b hlt hb.2.1 hb.2.2.2.2.1,hb.1,hb.2.1,hb.2.2.1,hb.2.2.2.1,(fun e=>by simp only[Value.ownBlock,bQ] at e;rcases hat with ha|ha<;>first|(exact hb.2.2.2.2.1 (by rw[ha,e]))|omega),hb.2.2.2.2.2.1,hb.2.2.2.2.2.2⟩;have hsz1:W.heap.size<=(W1.setCell ⟨pb,11,none⟩ (.slice (some ⟨g,0,none⟩) (p.over.length+1) cap)).heap.size:=by have:=hg.size;simpa [World.setCell] using this
 have hd2:bF (W1.setCell ⟨pb,11,none⟩ (.slice (some ⟨g,0,none⟩) (p.over.length+1) cap)) (lG lo pb rb vm (.slice (some ⟨g,0,none⟩) (p.over.length+1) cap) vd va) lU [.int .i64 e.id,dv] [kT e]:=by
  have hlo0:lo<=W0.heap.size:=by have:=h2;omega
  refine ⟨[.int .i64 e.id,dv],[],rfl,⟨rfl,[.int .i64 e.id],[dv],rfl,rfl,rfl,[dv],[],rfl,?_,rfl⟩,rfl⟩;refine hd.mono hsz1 fun b hb hlt=>⟨hkp b hlt (by omega) (fun e=>by have:=(dD mX e).2;omega),by omega,by omega,by omega,(fun e=>by have:=(dD nH e).2;omega),(fun e=>by simp only[Value.ownBlock,bQ] at e;rcases hat with ha|ha<;>first|(have:=(dD mX ha).2;omega)|omega),(fun e=>by have:=(dD nG e).2;omega),(fun e=>by have:=(dD mW e).2;omega)⟩
 exact ⟨vm,(.slice (some ⟨g,0,none⟩) (p.over.length+1) cap),vd,va,xo++ [.int .i64 e.id,dv],xa,Gv hg 11 (.slice (some ⟨g,0,none⟩) (p.over.length+1) cap) h1 t2,h2,h3,h4,eF o1 fun k hz=>hkp k (dD o1 hz).2 (fun e=>t1 (by rw[hz,e])) (kY o1 o2 (by decide) (.inl hz)),(by have q:=(eF hown fun k hz=>by simp only[Value.ownBlock,bQ] at hz;subst hz;exact Below.heap_setCell _ _ _ _ (by simpa using A8):(W1.setCell ⟨pb,11,none⟩ (.slice (some ⟨g,0,none⟩) (p.over.length+1) cap)).ownsRow lo 103 2 (.slice (some ⟨g,0,none⟩) (p.over.length+1) cap) _ _);simpa [tY] using q),eF o3 fun k hz=>hkp k (dD o3 hz).2 (fun e=>t3 (by rw[hz,e])) (kY o3 o2 (by decide) (.inl hz)),eF o4 fun k hz=>hkp k (dD o4 hz).2 (fun e=>t4 (by rw[hz,e])) (fun e=>d _ e hz),(by rw[eB];exact bF.append (r1.mono hsz1 tr) hd2),r2.mono hsz1 tr,(fun k hz e=>by simp only[Value.ownBlock,bQ] at hz;subst hz;exact Qo e),n1,(by simp only[Value.ownBlock,ne_eq,bQ];exact hgr),n3,n4⟩
theorem iT.am9{W0:World}{lo pb rb:Nat}{p:Pl}(h:iT W0 lo pb rb p)(hrb:rb<W0.heap.size):
  ∃vd,W0.cell? ⟨pb,12,none⟩=some vd/\vd.ownBlock≠some pb/\(∀g,vd.ownBlock=some g->g<W0.heap.size/\lo<=g/\g≠pb/\g≠rb)/\∀W,W0.grownBy W (some rb)->W.cell? ⟨pb,12,none⟩=some vd/\W.frozen? ⟨pb,12,none⟩=false/\W.ownsRow lo 3 1 vd p.drops.length (p.drops.map (Value.int .i64 ·))/\
   ∀(d:Int),
   ∀W1 g cap,W.grownBy W1 vd.ownBlock->(vd.ownBlock=some g\/W.heap.size<=g)->W1.ownsRow lo 3 1 (.slice (some ⟨g,0,none⟩) (p.drops.length+1) cap) (p.drops.length+1) ((p.drops.map (Value.int .i64 ·))++ [.int .i64 d])->
    iT (W1.setCell ⟨pb,12,none⟩ (.slice (some ⟨g,0,none⟩) (p.drops.length+1) cap)) lo pb rb {p with drops:=p.drops++ [d]}:=by
 obtain ⟨vm,vo,vd,va,xo,xa,h1',h2,h3,h4,nH,mX,nG,mW,r1',r2',d,n1,n2,n3,n4⟩:=h;have t0:=jf nG h1' (by decide);refine ⟨vd,by rw[Lib.cell_of_heap h1'];rfl,t0,fun g hg=>⟨(dD nG hg).2,(dD nG hg).1,fun e=>t0 (by rw[hg,e]),fun e=>n3 (by rw[hg,e])⟩,fun W hk=>?_⟩;have kk:∀k,k<W0.heap.size->k≠rb->W.heap[k]?=W0.heap[k]?:=fun k h hn=>hk.block k h (by simp;exact hn);have hp0:=rY h1';have hsz:=hk.size;have h1:W.heap[pb]?=some (.cells (iw p vm vo vd va) 29 (0,0)):=by rw[kk pb hp0 h4];exact h1'
 have o1:=eF (W':=W) nH fun g hg=>kk g (dD nH hg).2 (fun e=>n1 (by rw[hg,e]));have o2:=eF (W':=W) mX fun g hg=>kk g (dD mX hg).2 (fun e=>n2 (by rw[hg,e]));have o3:=eF (W':=W) nG fun g hg=>kk g (dD nG hg).2 (fun e=>n3 (by rw[hg,e]));have o4:=eF (W':=W) mW fun g hg=>kk g (dD mW hg).2 (fun e=>n4 (by rw[hg,e]));have r1:=r1'.mono (w':=W) (N':=fun b=>lG lo pb rb vm vo vd va b/\b<W0.heap.size) hsz fun b hb hlt=>⟨kk b hlt hb.2.2.1,hb,hlt⟩;have r2:=r2'.mono (w':=W) (N':=fun b=>lG lo pb rb vm vo vd va b/\b<W0.heap.size) hsz fun b hb hlt=>⟨kk b hlt hb.2.2.1,hb,hlt⟩;have t1:=jf o1 h1 (by decide);have t2:=jf o2 h1 (by decide);have t3:=jf o3 h1 (by decide);have t4:=jf o4 h1 (by decide);refine ⟨by rw[Lib.cell_of_heap h1];rfl,Lib.frozen_of_heap h1 _,o3,fun dn W1 g cap hg hat hown=>?_⟩;have A8:g≠pb:=by
  rcases hat with ha|ha
  .exact fun e=>t3 (by rw[ha,e])
  .have:=rY h1;omega
 have hgr:g≠rb:=by
  rcases hat with ha|ha
  .exact fun e=>n3 (by rw[ha,e])
  .omega
 have fvm:vm.ownBlock≠some g:=kY o3 o1 (by decide) hat;have Qn:vo.ownBlock≠some g:=kY o3 o2 (by decide) hat;have Qo:va.ownBlock≠some g:=kY o3 o4 (by decide) hat;have hkp:=Gy hg pb 12 (.slice (some ⟨g,0,none⟩) (p.drops.length+1) cap);have tr:∀b,lG lo pb rb vm vo vd va b/\b<W0.heap.size->b<W.heap.size->(W1.setCell ⟨pb,12,none⟩ (.slice (some ⟨g,0,none⟩) (p.drops.length+1) cap)).heap[b]?=W.heap[b]?/\lG lo pb rb vm vo (.slice (some ⟨g,0,none⟩) (p.drops.length+1) cap) va b:=fun b ⟨hb,hb0⟩ hlt=>⟨hkp b hlt hb.2.1 hb.2.2.2.2.2.1,hb.1,hb.2.1,hb.2.2.1,hb.2.2.2.1,hb.2.2.2.2.1,(fun e=>by simp only[Value.ownBlock,bQ] at e;rcases hat with ha|ha<;>first|(exact hb.2.2.2.2.2.1 (by rw[ha,e]))|omega),hb.2.2.2.2.2.2⟩;have hsz1:W.heap.size<=(W1.setCell ⟨pb,12,none⟩ (.slice (some ⟨g,0,none⟩) (p.drops.length+1) cap)).heap.size:=by have:=hg.size;simpa [World.setCell] using this
 exact ⟨vm,vo,(.slice (some ⟨g,0,none⟩) (p.drops.length+1) cap),va,xo,xa,Gv hg 12 (.slice (some ⟨g,0,none⟩) (p.drops.length+1) cap) h1 t3,h2,h3,h4,eF o1 fun k hz=>hkp k (dD o1 hz).2 (fun e=>t1 (by rw[hz,e])) (kY o1 o3 (by decide) (.inl hz)),eF o2 fun k hz=>hkp k (dD o2 hz).2 (fun e=>t2 (by rw[hz,e])) (kY o2 o3 (by decide) (.inl hz)),(by have q:=(eF hown fun k hz=>by simp only[Value.ownBlock,bQ] at hz;subst hz;exact Below.heap_setCell _ _ _ _ (by simpa using A8):(W1.setCell ⟨pb,12,none⟩ (.slice (some ⟨g,0,none⟩) (p.drops.length+1) cap)).ownsRow lo 3 1 (.slice (some ⟨g,0,none⟩) (p.drops.length+1) cap) _ _);simpa [tY] using q),eF o4 fun k hz=>hkp k (dD o4 hz).2 (fun e=>t4 (by rw[hz,e])) (kY o4 o3 (by decide) (.inl hz)),r1.mono hsz1 tr,r2.mono hsz1 tr,d,n1,n2,(by simp only[Value.ownBlock,ne_eq,bQ];exact hgr),n4⟩
theorem iT.aon{W0:World}{lo pb rb:Nat}{p:Pl}(h:iT W0 lo pb rb p)(hrb:rb<W0.heap.size):
  ∃va xs,W0.cell? ⟨pb,13,none⟩=some va/\va.ownBlock≠some pb/\(∀g,va.ownBlock=some g->g<W0.heap.size/\lo<=g/\g≠pb/\g≠rb)/\∀W,W0.grownBy W (some rb)->W.cell? ⟨pb,13,none⟩=some va/\W.frozen? ⟨pb,13,none⟩=false/\W.ownsRow lo 103 2 va p.adds.length xs/\
   ∀(M:Nat) (hM:W0.heap.size<=M) (e:El) (dv:Value) (hd:Rd W (fun b=>M<=b) (.sl (.int .u8)) [dv] (.ls (ofBytes e.data))),
   ∀W1 g cap,W.grownBy W1 va.ownBlock->(va.ownBlock=some g\/W.heap.size<=g)->W1.ownsRow lo 103 2 (.slice (some ⟨g,0,none⟩) (p.adds.length+1) cap) (p.adds.length+1) (xs++ [.int .i64 e.id,dv])->
    iT (W1.setCell ⟨pb,13,none⟩ (.slice (some ⟨g,0,none⟩) (p.adds.length+1) cap)) lo pb rb {p with adds:=p.adds++ [e]}:=by
 obtain ⟨vm,vo,vd,va,xo,xa,h1',h2,h3,h4,nH,mX,nG,mW,r1',r2',d,n1,n2,n3,n4⟩:=h;have t0:=jf mW h1' (by decide);refine ⟨va,xa,by rw[Lib.cell_of_heap h1'];rfl,t0,fun g hg=>⟨(dD mW hg).2,(dD mW hg).1,fun e=>t0 (by rw[hg,e]),fun e=>n4 (by rw[hg,e])⟩,fun W hk=>?_⟩;have kk:∀k,k<W0.heap.size->k≠rb->W.heap[k]?=W0.heap[k]?:=fun k h hn=>hk.block k h (by simp;exact hn);have hp0:=rY h1';have hsz:=hk.size;have h1:W.heap[pb]?=some (.cells (iw p vm vo vd va) 29 (0,0)):=by rw[kk pb hp0 h4];exact h1'
 have o1:=eF (W':=W) nH fun g hg=>kk g (dD nH hg).2 (fun e=>n1 (by rw[hg,e]));have o2:=eF (W':=W) mX fun g hg=>kk g (dD mX hg).2 (fun e=>n2 (by rw[hg,e]));have o3:=eF (W':=W) nG fun g hg=>kk g (dD nG hg).2 (fun e=>n3 (by rw[hg,e]));have o4:=eF (W':=W) mW fun g hg=>kk g (dD mW hg).2 (fun e=>n4 (by rw[hg,e]));have r1:=r1'.mono (w':=W) (N':=fun b=>lG lo pb rb vm vo vd va b/\b<W0.heap.size) hsz fun b hb hlt=>⟨kk b hlt hb.2.2.1,hb,hlt⟩;have r2:=r2'.mono (w':=W) (N':=fun b=>lG lo pb rb vm vo vd va b/\b<W0.heap.size) hsz fun b hb hlt=>⟨kk b hlt hb.2.2.1,hb,hlt⟩;have t1:=jf o1 h1 (by decide);have t2:=jf o2 h1 (by decide);have t3:=jf o3 h1 (by decide);have t4:=jf o4 h1 (by decide);refine ⟨by rw[Lib.cell_of_heap h1];rfl,Lib.frozen_of_heap h1 _,o4,fun M hM e dv hd W1 g cap hg hat hown=>?_⟩;have A8:g≠pb:=by
  rcases hat with ha|ha
  .exact fun e=>t4 (by rw[ha,e])
  .have:=rY h1;omega
 have hgr:g≠rb:=by
  rcases hat with ha|ha
  .exact fun e=>n4 (by rw[ha,e])
  .omega
 have fvm:vm.ownBlock≠some g:=kY o4 o1 (by decide) hat;have Qn:vo.ownBlock≠some g:=Z9 (v:=va) o2 (fun g h e=>d g e h) hat;have fvd:vd.ownBlock≠some g:=kY o4 o3 (by decide) hat;have hkp:=Gy hg pb 13 (.slice (some ⟨g,0,none⟩) (p.adds.length+1) cap);have tr:∀b,lG lo pb rb vm vo vd va b/\b<W0.heap.size->b<W.heap.size->(W1.setCell ⟨pb,13,none⟩ (.slice (some ⟨g,0,none⟩) (p.adds.length+1) cap)).heap[b]?=W.heap[b]?/\lG lo pb rb vm vo vd (.slice (some ⟨g,0,none⟩) (p.adds.length+1) cap) b:=fun b ⟨hb,hb0⟩ hlt=>⟨hkp b hlt hb.2.1 hb.2.2.2.2.2.2,hb.1,hb.2.1,hb.2.2.1,hb.2.2.2.1,hb.2.2.2.2.1,hb.2.2.2.2.2.1,(fun e=>by simp only[Value.ownBlock,bQ] at e;rcases hat with ha|ha<;>first|(exact hb.2.2.2.2.2.2 (by rw[ha,e]))|omega)⟩;have hsz1:W.heap.size<=(W1.setCell ⟨pb,13,none⟩ (.slice (some ⟨g,0,none⟩) (p.adds.length+1) cap)).heap.size:=by have:=hg.size;simpa [World.setCell] using this
 have hd2:bF (W1.setCell ⟨pb,13,none⟩ (.slice (some ⟨g,0,none⟩) (p.adds.length+1) cap)) (lG lo pb rb vm vo vd (.slice (some ⟨g,0,none⟩) (p.adds.length+1) cap)) lU [.int .i64 e.id,dv] [kT e]:=by
  have hlo0:lo<=W0.heap.size:=by have:=h2;omega
  refine ⟨[.int .i64 e.id,dv],[],rfl,⟨rfl,[.int .i64 e.id],[dv],rfl,rfl,rfl,[dv],[],rfl,?_,rfl⟩,rfl⟩;refine hd.mono hsz1 fun b hb hlt=>⟨hkp b hlt (by omega) (fun e=>by have:=(dD mW e).2;omega),by omega,by omega,by omega,(fun e=>by have:=(dD nH e).2;omega),(fun e=>by have:=(dD mX e).2;omega),(fun e=>by have:=(dD nG e).2;omega),(fun e=>by simp only[Value.ownBlock,bQ] at e;rcases hat with ha|ha<;>first|(have:=(dD mW ha).2;omega)|omega)⟩
 exact ⟨vm,vo,vd,(.slice (some ⟨g,0,none⟩) (p.adds.length+1) cap),xo,xa++ [.int .i64 e.id,dv],Gv hg 13 (.slice (some ⟨g,0,none⟩) (p.adds.length+1) cap) h1 t4,h2,h3,h4,eF o1 fun k hz=>hkp k (dD o1 hz).2 (fun e=>t1 (by rw[hz,e])) (kY o1 o4 (by decide) (.inl hz)),eF o2 fun k hz=>hkp k (dD o2 hz).2 (fun e=>t2 (by rw[hz,e])) (fun e=>d _ hz e),eF o3 fun k hz=>hkp k (dD o3 hz).2 (fun e=>t3 (by rw[hz,e])) (kY o3 o4 (by decide) (.inl hz)),(by have q:=(eF hown fun k hz=>by simp only[Value.ownBlock,bQ] at hz;subst hz;exact Below.heap_setCell _ _ _ _ (by simpa using A8):(W1.setCell ⟨pb,13,none⟩ (.slice (some ⟨g,0,none⟩) (p.adds.length+1) cap)).ownsRow lo 103 2 (.slice (some ⟨g,0,none⟩) (p.adds.length+1) cap) _ _);simpa [tY] using q),r1.mono hsz1 tr,(by rw[eB];exact bF.append (r2.mono hsz1 tr) hd2),(fun k hz e=>by simp only[Value.ownBlock,bQ] at e;subst e;exact Qn hz),n1,n2,n3,(by simp only[Value.ownBlock,ne_eq,bQ];exact hgr)⟩
end Go.Vc
