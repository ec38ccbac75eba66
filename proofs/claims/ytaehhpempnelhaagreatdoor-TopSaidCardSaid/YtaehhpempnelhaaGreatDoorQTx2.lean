/-
  Contracts of functions of the program, each out of its condition or by a walk, and plain lemmas.
-/
import Derived.Test.YtaehhpempnelhaaGreatDoorQTt
import Derived.Lib.ItoaNum
set_option maxRecDepth 100000
namespace Go.Vc
open Go Go.Proofs Go.RowKit Go.Plain Tryz
set_option maxHeartbeats 4000000 in
theorem Ky(W:World)(lo rb:Nat)(hlo:lo<=W.heap.size)(sv:Value)(wb:Bool)(ws:List (List UInt8))(s:List UInt8)(hs:ws.headD []=s)(hlen:s.length<=1000000)(R:Nat×Bool)(hRR:dw 255 s=R)(h:gL W rb sv wb)(hw:jI W lo rb sv ws):
  Calls prog 97 #[.pointer (some ⟨rb,0,none⟩)] W fun e W'=>∃p9,e=.returned (.int .i64 (R.1:Nat))/\gL W' rb p9 ((wb||ws.isEmpty)||R.2)/\jI W' lo rb p9 ws.tail/\W.grownBy W' (some rb):=by
 have hle:R.1<=255:=by
  rw[<-hRR];exact EF 255 _ 0 (by omega)
 obtain⟨R1,R2⟩:=R;simp only at hle;go_enter func97,ntmps97
 go_wp2_with (go_at_call 98;refine(M0 W lo rb hlo sv wb ws 255 (by omega) s hs hlen (R1,R2) hRR h hw).mono ?_)
 first|(rintro e W1 rfl oG h1 w1 g1)|(rintro e W1 oG rfl h1 w1 g1)|(rintro e W1 ⟨oG,rfl,h1,w1,g1⟩)
 go_wp2
 go_ret
 first|exact⟨rfl,_,h1,w1,g1⟩|exact⟨_,rfl,h1,w1,g1⟩
theorem ar0(s:List UInt8)(hs:s.length<=1000000)(w:World)(aX:KW prog w):
  Calls prog 124 #[.string ⟨s.toArray⟩] w fun e w'=>e=.returned (.tuple #[.string ⟨((mI s).getD []).toArray⟩,.int .i64 (Gc s)])/\Below w.heap.size w w':=by
 have h:=((aoj ahu axI s hs).oF (by decide)).2 w (fun _=>True) [.string ⟨s.toArray⟩] aX ⟨_,_,rfl,⟨[.string ⟨s.toArray⟩],rfl,rfl⟩,rfl⟩;refine h.mono fun e w' ⟨v,he,⟨vs,⟨v1,r1,hv1,⟨us,hu,hv2⟩,v3,r3,hv3,⟨Jl,hu2,hv4⟩,hr⟩,hv⟩,hb⟩=>⟨?_,hb⟩;simp only[fI]at hr;subst hr;simp only[Rd]at hu hu2;subst hu hu2;subst hv1 hv3;simp[Sh.mk,Sh.isAgg]at hv2 hv4;subst hv2 hv4;simp at hv;rw[he,hv]
theorem alloc_at(w:World)(o:Obj):(w.alloc o).heap[w.heap.size]?=some o:=by unfold World.alloc;exact Array.getElem?_push_size
theorem aeR(s:List UInt8)(hs:s.length<=1000000)(W:World):∃a cap W',(convert 9 22 (.string ⟨s.toArray⟩)).run prog W=.ok (.slice a s.length cap) W'/\Below W.heap.size W W'/\Rd W' (fun b=>W.heap.size<=b) (.sl (.int .u8)) [.slice a s.length cap] (.ls (ofBytes s)):=by
 obtain⟨v,W',h1,h2,h3⟩:=afg (P:=prog) (w:=W) (N:=fun b=>W.heap.size<=b) (et:=5) s (by omega) (fun _ h=>h);obtain⟨a,cap,e1,_⟩:=id h3;simp only[kE,lC,C.lF]at e1;rw[show(ofBytes s).length=s.length by simp[ofBytes]]at e1;subst e1;refine⟨a,cap,W',?_,h2,h3⟩;simp[convert,dR underlying9,dR underlying22,dR underlying5,h1]
theorem aBl(l:List UInt8):l.length<=(qs l).length:=by
 have key:l.length<=((chunks l).flatMap qc).length:=by
  induction l using O4 with
  |nil=>exact cu _
  |step l hne ih=>
   rw[A8 hne,List.flatMap_cons,cO];have h1:bQ l<=(qc (l.take (bQ l))).length:=by
    have h2:=Db hne;rcases agn hne with⟨_,r2,_,r4⟩|⟨_,r2,r4⟩|⟨_,_,r4⟩
    .rw[r4,r2];simp
    .rw[r4,r2];simp
    .rw[r4,jV];omega
   rw[lW]at ih;omega
 unfold qs;simp only[bR,cO,eB];omega
theorem adX{W Wc:World}{lo rb eb R1 cap:Nat}{a:Option Addr}{n:Nat}{sv:Value}{b:Bool}{ws:List (List UInt8)}{c:C}{z0 z1:Value}
  (hE:Wc.heap[eb]?=some (.cells #[.int .i64 (R1:Nat),z0] 103 (0,0))) (hC:Wc.heap[W.heap.size]?=some (.cells #[.int .i64 0,z1] 103 (0,0))) (h1:W.heap.size<eb) {M:Nat}(h2:eb<M) (h3:M<=Wc.heap.size) (hne1:eb≠rb) (hne2:W.heap.size≠rb) (LM:rb<W.heap.size) (hlo:lo<=W.heap.size)
  (rd:Rd Wc (fun k=>M<=k) (.sl (.int .u8)) [.slice a n cap] c) (_:True:=trivial) (hR:gL Wc rb sv b) (hW:jI Wc lo rb sv ws) (hG:W.grownBy Wc (some rb)) {Q:Prop}
  (k:∀W6,((Wc.setCell ⟨eb,1,none⟩ (.slice a n cap)).setCell ⟨W.heap.size,0,none⟩ (.int .i64 (R1:Nat))).setCell ⟨W.heap.size,1,none⟩ (.slice a n cap)=W6->
   Rd W6 (fun b=>W.heap.size<=b) (.sl (.int .u8)) [.slice a n cap] c->gL W6 rb sv b->jI W6 lo rb sv ws->W.grownBy W6 (some rb)->W6.heap[W.heap.size]?=some (.cells #[.int .i64 (R1:Nat),.slice a n cap] 103 (0,0))->Q):Q:=by
 have hlt:=(iX.1 hE).1;have keep:∀j,j≠eb->j≠W.heap.size->(((Wc.setCell ⟨eb,1,none⟩ (.slice a n cap)).setCell ⟨W.heap.size,0,none⟩ (.int .i64 (R1:Nat))).setCell ⟨W.heap.size,1,none⟩ (.slice a n cap)).heap[j]?=Wc.heap[j]?:=by
  intro j h4 h5;rw[gu _ _ _ _ (by simpa using h5),gu _ _ _ _ (by simpa using h5),gu _ _ _ _ (by simpa using h4)]
 refine k _ rfl ?_ ?_ ?_ ?_ ?_
 .refine rd.mono (by simp[World.setCell]) fun b hb _=>⟨keep b (by omega) (by omega),by omega⟩
 .exact hR.of_heap (keep rb (fun e=>hne1 e.symm) (fun e=>hne2 e.symm))
 .exact hW.pI fun j hj hjr=>keep j (by omega) (by omega)
 .exact ⟨hG.os,hG.tape,hG.output,by simpa[World.setCell]using hG.size,fun j hj hn=>by rw[keep j (by omega) (by omega)];exact hG.block j hj hn⟩
 have e1:(Wc.setCell ⟨eb,1,none⟩ (.slice a n cap)).heap[W.heap.size]?=some (.cells #[.int .i64 0,z1] 103 (0,0)):=by rw[gu _ _ _ _ (by simp;omega)];exact hC
 simp[World.setCell,zn]at e1 |-;simp[e1]
set_option maxHeartbeats 4000000 in
theorem ade(W:World)(aX:KW prog W)(lo rb:Nat)(hlo:lo<=W.heap.size)(sv:Value)(wb:Bool)(ws:List (List UInt8))(s0 s1:List UInt8)(hs0:ws.headD []=s0)(hs1:ws.tail.headD []=s1)(aBu:s0.length<=1000000)(hlen1:s1.length<=1000000)(hkr:∀g,wC prog g->g≠rb)
  (R:Nat×Bool) (hRR:dw 255 s0=R) (h:gL W rb sv wb) (hw:jI W lo rb sv ws):
  Calls prog 99 #[.pointer (some ⟨rb,0,none⟩)] W fun e W'=>∃p9 dv,e=.returned (.agg #[.int .i64 (R.1:Nat),dv])/\Rd W' (fun b=>W.heap.size<=b) (.sl (.int .u8)) [dv] (.ls (ofBytes ((mI s1).getD [])))/\
   gL W' rb p9 (((wb||ws.isEmpty)||R.2)||ws.tail.isEmpty|| !(mI s1).isSome)/\jI W' lo rb p9 ws.tail.tail/\W.grownBy W' (some rb):=by
 obtain⟨R1,R2⟩:=R;have LM:=h.lt;have hA:=h.of_heap (W':=(W.alloc (.cells #[.int .i64 0,.slice none 0 0] 103))) (iT W _ rb LM);go_enter func99,ntmps99
 go_wp2_with (go_at_call 97;refine(Ky _ lo rb (by simp;omega) sv wb ws s0 hs0 aBu (R1,R2) hRR hA (hw.pI fun k hk _=>iT W _ k (by omega))).mono ?_)
 first|(rintro e W1 rfl oG h1 w1 g1)|(rintro e W1 oG rfl h1 w1 g1)|(rintro e W1 ⟨oG,rfl,h1,w1,g1⟩)
 have aDE:=hs1;have hsz1:W.heap.size+1<=W1.heap.size:=by have:=g1.size;simpa using this
 have hRA:gL (W1.alloc (.cells #[.int .i64 (R1:Nat),.slice none 0 0] 103)) rb oG (wb||ws.isEmpty||R2):=h1.of_heap (iT W1 _ rb h1.lt);have Ct:jI (W1.alloc (.cells #[.int .i64 (R1:Nat),.slice none 0 0] 103)) lo rb oG ws.tail:=w1.pI fun k hk _=>iT W1 _ k (by omega);have AO:(W1.alloc (.cells #[.int .i64 (R1:Nat),.slice none 0 0] 103)).heap[W1.heap.size]?=some (.cells #[.int .i64 (R1:Nat),.slice none 0 0] 103 (0,0)):=alloc_at W1 _;have hCA:(W1.alloc (.cells #[.int .i64 (R1:Nat),.slice none 0 0] 103)).heap[W.heap.size]?=some (.cells #[.int .i64 0,.slice none 0 0] 103 (0,0)):=by
  rw[iT W1 _ _ (by omega),g1.block _ (by simp) (by simp;omega)];exact alloc_at W _
 have hGA:W.grownBy (W1.alloc (.cells #[.int .i64 (R1:Nat),.slice none 0 0] 103)) (some rb):=xM (jY (Am W _ _) g1) _;have hszA:(W1.alloc (.cells #[.int .i64 (R1:Nat),.slice none 0 0] 103)).heap.size=W1.heap.size+1:=by simp
 have hr1:=h1.lt;go_wp2_with (go_at_call 96;refine(SC _ lo rb (by rw[hszA];omega) oG _ ws.tail hRA Ct).mono ?_)
 first|(rintro e W2 rfl u7 h2 w2 g2)|(rintro e W2 u7 rfl h2 w2 g2)|(rintro e W2 ⟨u7,rfl,h2,w2,g2⟩)
 rw[hs1]at*;have hE2:W2.heap[W1.heap.size]?=some (.cells #[.int .i64 (R1:Nat),.slice none 0 0] 103 (0,0)):=(g2.block _ (by omega) (by simp;omega)).trans AO;have hC2:W2.heap[W.heap.size]?=some (.cells #[.int .i64 0,.slice none 0 0] 103 (0,0)):=(g2.block _ (by omega) (by simp;omega)).trans hCA;have hG2:=jY hGA g2;have hk2:KW prog W2:=aX.keep fun g hg=>hG2.block g (aX.lt hg) (by simp;exact hkr g hg);have hsz2:=g2.size;go_wp2_with (go_at_call 124;refine(ar0 s1 hlen1 _ hk2).mono ?_)
 first|(rintro e W3 rfl b3)|(rintro e W3 ⟨rfl,b3⟩)
 have kU:=h2.of_heap (b3.block rb h2.lt);have hW3:=w2.pI (W':=W3) fun k hk _=>b3.block k (by omega);have Ee:W3.heap[W1.heap.size]?=some (.cells #[.int .i64 (R1:Nat),.slice none 0 0] 103 (0,0)):=(b3.block _ (by omega)).trans hE2;have Ef:W3.heap[W.heap.size]?=some (.cells #[.int .i64 0,.slice none 0 0] 103 (0,0)):=(b3.block _ (by omega)).trans hC2;have hG3:W.grownBy W3 (some rb):=jY hG2 ⟨b3.os,b3.tape,b3.output,b3.size,fun k hk _=>b3.block k hk⟩;have aDC:=b3.size;have e0:W3.cell? ⟨W1.heap.size,0,none⟩=some (.int .i64 (R1:Nat)):=by rw[fA Ee];rfl
 have e1:W3.cell? ⟨W1.heap.size,1,none⟩=some (.slice none 0 0):=by rw[fA Ee];rfl
 have fe:=fun j=>iY Ee j;have fc:=fun j=>iY Ef j;have fr:=kU.frozen;have c1:=kU.cell1;clear hE2 hC2 AO hCA hRA Ct hA h1 w1 h2 w2;cases hu:mI s1 with
 |none=>
  have hue:Gc s1=6:=by unfold Gc;rw[hu];rfl
  simp only[hue,hu,Option.getD_none];have qZ:=kU.set1 true;have g4:=uq W3 rb 1 (.bool true);have hne1:W1.heap.size≠rb:=by omega
  have hne2:W.heap.size≠rb:=by omega
  have kV:=(g4.block W1.heap.size (by omega) (by simp;omega)).trans Ee;have hC4:=(g4.block W.heap.size (by omega) (by simp;omega)).trans Ef;have Ec:=hW3.pI (W':=W3.setCell ⟨rb,1,none⟩ (.bool true)) fun k hk hkr=>g4.block k (by omega) (by simp;omega);have hG4:=jY hG3 g4;have aCg:=g4.size;obtain⟨a,cap,W5,hcv,b5,Qo⟩:=aeR [] (by simp) (W3.setCell ⟨rb,1,none⟩ (.bool true));simp only[eB]at hcv Qo;have hsz5:=b5.size;have wu:=(b5.block W1.heap.size (by omega)).trans kV;have wB:=(b5.block W.heap.size (by omega)).trans hC4;have Cu:=qZ.of_heap (b5.block rb (by omega));have WR:=Ec.pI (W':=W5) fun k hk _=>b5.block k (by omega);have W9:W.grownBy W5 (some rb):=jY hG4 ⟨b5.os,b5.tape,b5.output,b5.size,fun k hk _=>b5.block k hk⟩;have fe5:=fun j=>iY wu j;have fc5:=fun j=>iY wB j;have e50:W5.cell? ⟨W1.heap.size,0,none⟩=some (.int .i64 (R1:Nat)):=by rw[fA wu];rfl
  have e51:W5.cell? ⟨W1.heap.size,1,none⟩=some (.slice none 0 0):=by rw[fA wu];rfl
  have c50:W5.cell? ⟨W.heap.size,0,none⟩=some (.int .i64 0):=by rw[fA wB];rfl
  have c51:W5.cell? ⟨W.heap.size,1,none⟩=some (.slice none 0 0):=by rw[fA wB];rfl
  go_wp2
  refine adX (rb:=rb) (lo:=lo) (W:=W) (Wc:=W5) (eb:=W1.heap.size) (R1:=R1) wu wB (by omega) (by omega) (by omega) hne1 hne2 LM hlo Qo trivial Cu WR W9 ?_;intro W6 WQ r1 r2 r3 r4 r5;rw[WQ];refine fD (results_cell_row (cs:= #[.int .i64 (R1:Nat),.slice a 0 cap]) rfl _ W6 W.heap.size 103 (0,0) _ rfl r5 underlying103 rfl (by kernel_rfl)) rfl ?_;refine⟨_,_,rfl,?_,?_,r3,r4⟩
  .rw[hu];exact r1
  rw[hu];simpa using r2
 |some d=>
  have hue:Gc s1=0:=by unfold Gc;rw[hu];rfl
  have hdl:d.length<=1000000:=by
   have h2:=avM.1 hu;have h3:d.length<=(qs d).length:=aBl d;rw[h2]at h3;omega
  simp only[hue,hu,F8];obtain⟨a,cap,W5,hcv,b5,Qo⟩:=aeR d hdl W3;have hne1:W1.heap.size≠rb:=by omega
  have hne2:W.heap.size≠rb:=by omega
  have hsz5:=b5.size;have wu:=(b5.block W1.heap.size (by omega)).trans Ee;have wB:=(b5.block W.heap.size (by omega)).trans Ef;have Cu:=kU.of_heap (b5.block rb (by omega));have WR:=hW3.pI (W':=W5) fun k hk _=>b5.block k (by omega);have W9:W.grownBy W5 (some rb):=jY hG3 ⟨b5.os,b5.tape,b5.output,b5.size,fun k hk _=>b5.block k hk⟩;have fe5:=fun j=>iY wu j;have fc5:=fun j=>iY wB j;have e50:W5.cell? ⟨W1.heap.size,0,none⟩=some (.int .i64 (R1:Nat)):=by rw[fA wu];rfl
  have e51:W5.cell? ⟨W1.heap.size,1,none⟩=some (.slice none 0 0):=by rw[fA wu];rfl
  have c50:W5.cell? ⟨W.heap.size,0,none⟩=some (.int .i64 0):=by rw[fA wB];rfl
  have c51:W5.cell? ⟨W.heap.size,1,none⟩=some (.slice none 0 0):=by rw[fA wB];rfl
  go_wp2
  refine adX (rb:=rb) (lo:=lo) (W:=W) (Wc:=W5) (eb:=W1.heap.size) (R1:=R1) wu wB (by omega) (by omega) (by omega) hne1 hne2 LM hlo Qo trivial Cu WR W9 ?_;intro W6 WQ r1 r2 r3 r4 r5;rw[WQ];refine fD (results_cell_row (cs:= #[.int .i64 (R1:Nat),.slice a d.length cap]) rfl _ W6 W.heap.size 103 (0,0) _ rfl r5 underlying103 rfl (by kernel_rfl)) rfl ?_;refine⟨_,_,rfl,?_,?_,r3,r4⟩
  .rw[hu];exact r1
  rw[hu];simpa using r2
end Go.Vc
namespace Go.Vc
open Go Go.Proofs Go.Plain Tryz
abbrev ou:Sh:=.jc I64 (.jc (.sl U8) .je)
abbrev nW(e:El):C:=.ls [.int e.id,.ls (ofBytes e.data)]
abbrev ny(l:List El):C:=.ls (l.map nW)
theorem Nc(x:Int)(k:Int)(v:C):∀l:List C,jD (pQ l k v) x=if k=x then some (.ls [.int k,v])else jD l x
 | []=>by
  by_cases h:k=x
  .simp[pQ,jD,h]
  simp[pQ,jD,h]
 |d::l=>by
  have ih:=Nc x k v l;by_cases h:d.hd.toInt=k
  .rw[pQ,aC h];by_cases hx:k=x
   .simp[jD,hx]
   .have:¬d.hd.toInt=x:=fun e=>hx (h.symm.trans e);simp[jD,hx,this]
  rw[pQ,zq h];by_cases hd:d.hd.toInt=x
  .have:¬k=x:=fun e=>h (hd.trans e.symm);simp[jD,hd,this]
  have e1:jD (d::pQ l k v) x=jD (pQ l k v) x:=by simp[jD,hd]
  have e2:jD (d::l) x=jD l x:=by simp[jD,hd]
  rw[e1,ih,e2]
def jT(m:List C)(x:Int):Bool:=(match jD m x with|some d=>d.tl.hd|none=>C.bool false).toBool
theorem CO(x:Int):jT [] x=false:=rfl
theorem Ez(m:List C)(k x:Int):jT (pQ m k (.bool true)) x=if k=x then true else jT m x:=by
 unfold jT;rw[Nc];by_cases h:k=x<;>simp[h]
theorem Dg(l:List El)(i:Nat)(h:i<l.length):(l.map nW).getD ((i:Int)).toNat default=nW (l.getD i El.zero):=by simp[List.getD,h]
theorem Kz(l:List El)(i:Nat)(h:i<l.length):l.take (i+1)=l.take i++ [l.getD i El.zero]:=by rw[nM h];simp[List.getD,h]
theorem H7{l:List El}{i:Nat}(h:i<l.length):l.getD i El.zero∈l:=by simp[List.getD,h]
structure Mc where
 k:Nat
 m:List C
theorem Rc(l:List El)(hl:l.length<=1000000):PC prog ac7 [(.sl ou,ny l)] [(.bool,.bool (decide (lH l)))]:=by
 apply apG rfl;simp only[abn,aJ,aG,bJ];refine VC.jw (fun s:Mc=> [.bool false,.int (s.k:Int),.ls s.m]) (fun s=>s.k<=l.length/\(∀j,j<s.k->BQ l j)/\∀x:Int,jT s.m x=decide (x∈bY (l.take s.k))) (fun s=>l.length-s.k) ⟨0,[]⟩ rfl
  ⟨cu _,fun j hj=>absurd hj (Nat.not_lt_zero j),fun x=>by simp[CO,bY]⟩ fun s hs=>?_
 obtain⟨i1,i2,i3⟩:=hs;simp only[aJ,aG,bJ];refine⟨fun hc=>?_,fun hc=>?_⟩
 .have hk:s.k<l.length:=by omega
  have hg:(l.map nW).getD ((s.k:Int)).toNat default=nW (l.getD s.k El.zero):=by simp[List.getD,hk]
  rw[hg];have hat:BQ l s.k↔1<=(l.getD s.k El.zero).id/\(l.getD s.k El.zero).id<=255/\(l.getD s.k El.zero).data.length<=255/\(l.getD s.k El.zero).id∉bY (l.take s.k):=Iff.rfl;have htk:l.take (s.k+1)=l.take s.k++ [l.getD s.k El.zero]:=by rw[nM hk];simp[List.getD,hk]
  generalize l.getD s.k El.zero=e at hat htk;have hm:=i3 e.id;simp only[iP,jE,dV,gU,bD,eO];refine⟨by omega,by omega,fun h=>?_,fun h=>?_⟩
  .have h:((e.id<1\/255<e.id)\/jT s.m e.id=true)\/(255:Int)<e.data.length:=h;rw[hm,dQ]at h;have hn:¬lH l:=fun hr=>by
    have h1:=hat.1 (hr s.k hk);rcases h with(h|h)|h
    .omega
    .exact h1.2.2.2 h
    .omega
   rw[gQ hn]
  .have h:¬((e.id<1\/255<e.id)\/jT s.m e.id=true)/\(e.data.length:Int)<=255:=h;rw[hm,dQ]at h
   .have hin:¬e.id∈bY (l.take s.k):=fun hh=>h.1 (.inr hh);have h2:¬(e.id<1\/255<e.id):=fun hh=>h.1 (.inl hh);have hok:1<=e.id/\e.id<=255/\e.data.length<=255:=by omega
    refine⟨by omega,⟨s.k+1,_⟩,by simp;rfl,⟨by simp only;omega,fun j hj=>?_,fun x=>?_⟩,by simp only;omega⟩
    .by_cases hjk:j=s.k
     .rw[hjk];exact hat.2 ⟨hok.1,hok.2.1,hok.2.2,hin⟩
     simp only at hj;exact i2 j (by omega)
    .simp only;rw[Ez,i3,htk];by_cases hx:e.id=x
     .rw[aC hx];simp[bY,hx]
     .have:¬x=e.id:=fun h=>hx h.symm;rw[zq hx];simp[bY,this]
 have he:s.k=l.length:=by omega
 rw[iH (show lH l from fun j hj=>i2 j (by omega))]
def EP(l:List El):Bool:=decide ((∀e∈l,e.data.length<=400)/\l.length<=300)
theorem aak(l:List El)(hl:l.length<=maxLen):PC prog X4 [(.sl ou,ny l)] [(.bool,.bool (EP l))]:=by
 apply al3 rfl;simp only[maxLen]at hl;simp only[XI,aJ,aG,bJ];refine VC.jw (fun i:Nat=> [.bool false,.int (i:Int)]) (fun i=>i<=l.length/\∀e∈l.take i,e.data.length<=400) (fun i=>l.length-i) 0 rfl ⟨cu _,by simp⟩ fun i hi=>?_;obtain⟨i1,i2⟩:=hi;simp only[aJ,aG,bJ];refine⟨fun hc=>?_,fun hc=>?_⟩
 .have hk:i<l.length:=by omega
  have hm:=H7 hk;have ht:=Kz l i hk;rw[Dg l i hk];generalize l.getD i El.zero=e at hm ht;simp only[iP,jE,dV,gU,bD];refine⟨by omega,by omega,fun h=>?_,fun h=>⟨by omega,i+1,by simp,⟨by omega,?_⟩,by omega⟩⟩
  .have:EP l=false:=gQ fun hall=>by
    have:=hall.1 e hm;omega
   rw[this]
  .rw[ht];intro x hx;rcases zx.1 hx with hx|hx
   .exact i2 x hx
   .rw[sF]at hx;subst hx;omega
 have he:i=l.length:=by omega
 rw[he,jQ]at i2;congr 3
 unfold EP;rw[decide_eq_decide];constructor
 .intro h;exact⟨i2,by omega⟩
 intro h;omega
abbrev yG:Sh:=.jc I64 (.jc I64 .je)
abbrev um(m:Mp):C:=.ls [.int m.fr,.int m.to]
abbrev CG(l:List Mp):C:=.ls (l.map um)
abbrev Ints(l:List Int):C:=.ls (l.map .int)
theorem Ou(l:List Mp)(i:Nat)(h:i<l.length):(l.map um).getD i default=um (l.getD i Mp.zero):=by simp[List.getD,h]
theorem NZ(l:List Int)(i:Nat)(h:i<l.length):(l.map C.int).getD i default=.int (l.getD i 0):=by simp[List.getD,h]
theorem asu(m:Mp):PC prog RP [(yG,um m)] [(I64,.int m.fr)]:=by
 apply aqL rfl;simp only[ab3,aJ,aG]
theorem au5(m:Mp):PC prog SK [(yG,um m)] [(I64,.int m.to)]:=by
 apply atA rfl;simp only[aeb,aJ,aG]
theorem apN(n:Int):PC prog Rf [(I64,.int n)] [(I64,.int n)]:=by
 apply anY rfl;simp only[ZQ,aJ,aG]
theorem anD(l:List Mp)(hl:l.length<=1000000):PC prog Xp [(.sl yG,CG l),(.fH RP,.ls [])] [(.bool,.bool (decide (lG (l.map (·.fr)))))]:=by
 apply alR rfl;simp only[Xm,aJ,aG,bJ];refine VC.jw (fun s:Mc=> [.bool false,.int (s.k:Int),.ls s.m]) (fun s=>s.k<=l.length/\(∀j,j<s.k->sj (l.map (·.fr)) j)/\∀x:Int,jT s.m x=decide (x∈(l.map (·.fr)).take s.k)) (fun s=>l.length-s.k) ⟨0,[]⟩ rfl
  ⟨cu _,fun j hj=>absurd hj (Nat.not_lt_zero j),fun x=>by simp[CO]⟩ fun s hs=>?_
 obtain⟨i1,i2,i3⟩:=hs;simp only[aJ,aG,bJ];refine⟨fun hc=>?_,fun hc=>?_⟩
 .have hk:s.k<l.length:=by omega
  have hv:(l.map (·.fr)).getD s.k 0=((l.getD s.k Mp.zero).fr):=by simp[List.getD,hk]
  have hat:sj (l.map (·.fr)) s.k↔1<=((l.getD s.k Mp.zero).fr)/\((l.getD s.k Mp.zero).fr)<=255/\((l.getD s.k Mp.zero).fr)∉(l.map (·.fr)).take s.k:=by unfold sj;rw[hv]
  have htk:(l.map (·.fr)).take (s.k+1)=(l.map (·.fr)).take s.k++ [((l.getD s.k Mp.zero).fr)]:=by rw[nM (by simpa using hk),<-hv];simp[List.getD,hk]
  rw[dF,Ou l s.k hk];try simp only[iP,jE,dV,gU]
  refine⟨by omega,by omega,_,asu _,?_⟩;simp only[dV];generalize ((l.getD s.k Mp.zero).fr)=e at hat htk;have hm:=i3 e;refine⟨fun h=>?_,fun h=>?_⟩
  .have h:(e<1\/255<e)\/jT s.m e=true:=by
    rcases h with h|h
    .exact .inl h
    .rw[aC trivial]at h;exact .inr h
   rw[hm,dQ]at h;have hn:¬lG (l.map (·.fr)):=fun hr=>by
    have h1:=hat.1 (hr s.k (by simpa using hk));rcases h with h|h
    .omega
    .exact h1.2.2 h
   rw[gQ hn]
  .have h:¬(e<1\/255<e)/\jT s.m e=false:=⟨h.1,by have h2:=h.2;rw[aC trivial]at h2;exact h2⟩;rw[hm,pV]at h;refine⟨by omega,⟨s.k+1,_⟩,by simp;rfl,⟨by simp only;omega,fun j hj=>?_,fun x=>?_⟩,by simp only;omega⟩
   .by_cases hjk:j=s.k
    .rw[hjk];exact hat.2 ⟨by omega,by omega,h.2⟩
    simp only at hj;exact i2 j (by omega)
   .simp only;rw[Ez,i3,htk];by_cases hx:e=x
    .rw[aC hx];simp[hx]
    .have:¬x=e:=fun h=>hx h.symm;rw[zq hx];simp[this]
 have he:s.k=l.length:=by omega
 rw[iH (show lG (l.map (·.fr))from fun j hj=>i2 j (by first|(simp at hj;omega)|omega))]
theorem apU(l:List Mp)(hl:l.length<=1000000):PC prog Xw [(.sl yG,CG l),(.fH SK,.ls [])] [(.bool,.bool (decide (lG (l.map (·.to)))))]:=by
 apply alU rfl;simp only[Xr,aJ,aG,bJ];refine VC.jw (fun s:Mc=> [.bool false,.int (s.k:Int),.ls s.m]) (fun s=>s.k<=l.length/\(∀j,j<s.k->sj (l.map (·.to)) j)/\∀x:Int,jT s.m x=decide (x∈(l.map (·.to)).take s.k)) (fun s=>l.length-s.k) ⟨0,[]⟩ rfl
  ⟨cu _,fun j hj=>absurd hj (Nat.not_lt_zero j),fun x=>by simp[CO]⟩ fun s hs=>?_
 obtain⟨i1,i2,i3⟩:=hs;simp only[aJ,aG,bJ];refine⟨fun hc=>?_,fun hc=>?_⟩
 .have hk:s.k<l.length:=by omega
  have hv:(l.map (·.to)).getD s.k 0=((l.getD s.k Mp.zero).to):=by simp[List.getD,hk]
  have hat:sj (l.map (·.to)) s.k↔1<=((l.getD s.k Mp.zero).to)/\((l.getD s.k Mp.zero).to)<=255/\((l.getD s.k Mp.zero).to)∉(l.map (·.to)).take s.k:=by unfold sj;rw[hv]
  have htk:(l.map (·.to)).take (s.k+1)=(l.map (·.to)).take s.k++ [((l.getD s.k Mp.zero).to)]:=by rw[nM (by simpa using hk),<-hv];simp[List.getD,hk]
  rw[dF,Ou l s.k hk];try simp only[iP,jE,dV,gU]
  refine⟨by omega,by omega,_,au5 _,?_⟩;simp only[dV];generalize ((l.getD s.k Mp.zero).to)=e at hat htk;have hm:=i3 e;refine⟨fun h=>?_,fun h=>?_⟩
  .have h:(e<1\/255<e)\/jT s.m e=true:=by
    rcases h with h|h
    .exact .inl h
    .rw[aC trivial]at h;exact .inr h
   rw[hm,dQ]at h;have hn:¬lG (l.map (·.to)):=fun hr=>by
    have h1:=hat.1 (hr s.k (by simpa using hk));rcases h with h|h
    .omega
    .exact h1.2.2 h
   rw[gQ hn]
  .have h:¬(e<1\/255<e)/\jT s.m e=false:=⟨h.1,by have h2:=h.2;rw[aC trivial]at h2;exact h2⟩;rw[hm,pV]at h;refine⟨by omega,⟨s.k+1,_⟩,by simp;rfl,⟨by simp only;omega,fun j hj=>?_,fun x=>?_⟩,by simp only;omega⟩
   .by_cases hjk:j=s.k
    .rw[hjk];exact hat.2 ⟨by omega,by omega,h.2⟩
    simp only at hj;exact i2 j (by omega)
   .simp only;rw[Ez,i3,htk];by_cases hx:e=x
    .rw[aC hx];simp[hx]
    .have:¬x=e:=fun h=>hx h.symm;rw[zq hx];simp[this]
 have he:s.k=l.length:=by omega
 rw[iH (show lG (l.map (·.to))from fun j hj=>i2 j (by first|(simp at hj;omega)|omega))]
theorem apV(l:List Int)(hl:l.length<=1000000):PC prog XL [(.sl I64,Ints l),(.fH Rf,.ls [])] [(.bool,.bool (decide (lG l)))]:=by
 apply alX rfl;simp only[Xz,aJ,aG,bJ];refine VC.jw (fun s:Mc=> [.bool false,.int (s.k:Int),.ls s.m]) (fun s=>s.k<=l.length/\(∀j,j<s.k->sj l j)/\∀x:Int,jT s.m x=decide (x∈l.take s.k)) (fun s=>l.length-s.k) ⟨0,[]⟩ rfl
  ⟨cu _,fun j hj=>absurd hj (Nat.not_lt_zero j),fun x=>by simp[CO]⟩ fun s hs=>?_
 obtain⟨i1,i2,i3⟩:=hs;simp only[aJ,aG,bJ];refine⟨fun hc=>?_,fun hc=>?_⟩
 .have hk:s.k<l.length:=by omega
  have hv:l.getD s.k 0=(l.getD s.k 0):=rfl;have hat:sj l s.k↔1<=(l.getD s.k 0)/\(l.getD s.k 0)<=255/\(l.getD s.k 0)∉l.take s.k:=by unfold sj;rw[hv]
  have htk:l.take (s.k+1)=l.take s.k++ [(l.getD s.k 0)]:=by rw[nM (by simpa using hk),<-hv];simp[List.getD,hk]
  rw[dF,NZ l s.k hk];try simp only[iP,jE,dV,gU]
  refine⟨by omega,by omega,_,apN _,?_⟩;simp only[dV];generalize (l.getD s.k 0)=e at hat htk;have hm:=i3 e;refine⟨fun h=>?_,fun h=>?_⟩
  .have h:(e<1\/255<e)\/jT s.m e=true:=by
    rcases h with h|h
    .exact .inl h
    .rw[aC trivial]at h;exact .inr h
   rw[hm,dQ]at h;have hn:¬lG l:=fun hr=>by
    have h1:=hat.1 (hr s.k (by simpa using hk));rcases h with h|h
    .omega
    .exact h1.2.2 h
   rw[gQ hn]
  .have h:¬(e<1\/255<e)/\jT s.m e=false:=⟨h.1,by have h2:=h.2;rw[aC trivial]at h2;exact h2⟩;rw[hm,pV]at h;refine⟨by omega,⟨s.k+1,_⟩,by simp;rfl,⟨by simp only;omega,fun j hj=>?_,fun x=>?_⟩,by simp only;omega⟩
   .by_cases hjk:j=s.k
    .rw[hjk];exact hat.2 ⟨by omega,by omega,h.2⟩
    simp only at hj;exact i2 j (by omega)
   .simp only;rw[Ez,i3,htk];by_cases hx:e=x
    .rw[aC hx];simp[hx]
    .have:¬x=e:=fun h=>hx h.symm;rw[zq hx];simp[this]
 have he:s.k=l.length:=by omega
 rw[iH (show lG l from fun j hj=>i2 j (by first|(simp at hj;omega)|omega))]
abbrev ig:Sh:=.jc .bool (.jc .bool (.jc .bool (.jc I64 (.jc .bool (.jc (.int .u16) (.jc .bool (.jc (.int .u32) (.jc .bool (.jc (.int .u32) (.jc (.sl yG) (.jc (.sl ou) (.jc (.sl I64) (.jc (.sl ou) (.jc .bool .je))))))))))))))
abbrev iC(p:Pl):C:=.ls [.bool p.sm,.bool p.m,.bool p.st,.int p.ty,.bool p.sq,.int p.seq,.bool p.dY,.int p.time,.bool p.ss,.int p.bZ,CG p.maps,ny p.jf,Ints p.jg,ny p.jh,.bool p.np]
def vK(l:List Int):List C:=l.foldl (fun m d=>pQ m d (.bool true)) []
theorem asZ(l:List Int)(x:Int):vK (l++ [x])=pQ (vK l) x (.bool true):=by unfold vK;rw[Ga];rfl
theorem adf(x:Int):∀(l:List Int) (m:List C),jT (l.foldl (fun m d=>pQ m d (.bool true)) m) x=(jT m x||decide (x∈l))
 | [],m=>by simp
 |y::l,m=>by
  rw[Ak,adf x l,Ez];by_cases h:y=x
  .simp[h]
  have:¬x=y:=fun e=>h e.symm;simp[h,this]
theorem M7(l:List Int)(x:Int):jT (vK l) x=decide (x∈l):=by
 unfold vK;rw[adf,CO,Bool.false_or]
theorem Q7(p:Pl)(h:lJ p):PC prog acN [(ig,iC p)] [(.mp .i64 .bool,.ls (vK p.jg))]:=by
 obtain⟨_,_,hl,_⟩:=h;apply apf rfl;simp only[aaW,aJ,aG,bJ];refine VC.jw (fun i:Nat=> [.int (i:Int),.ls (vK (p.jg.take i))]) (fun i=>i<=p.jg.length) (fun i=>p.jg.length-i) 0 rfl (cu _) fun i hi=>?_;simp only[aJ,aG,bJ];refine⟨fun hc=>?_,fun hc=>?_⟩
 .have hk:i<p.jg.length:=by omega
  rw[dF,NZ _ i hk];refine⟨by omega,by omega,by omega,i+1,?_,by omega,by omega⟩;rw[nM hk,asZ];simp[List.getD,hk]
 have:i=p.jg.length:=by omega
 subst this;rw[jQ]
theorem Q8(p:Pl)(h:lJ p):PC prog acO [(ig,iC p)] [(.bool,.bool (decide (fM p)))]:=by
 have hh:=h;obtain⟨h1,h2,h3,h4⟩:=h;apply apg rfl;simp only[aaX,aJ,aG,bJ];refine⟨fun h=>?_,fun g1=>⟨fun h=>?_,fun g2=>⟨_,anD p.maps h1,_,fun _=>apU p.maps h1,_,fun _=>apV p.jg h3,fun h=>?_,fun g3=>⟨_,Rc p.jf h2,_,fun _=>Rc p.jh h4,fun h=>?_,fun g4=>⟨_,Q7 p hh,?_⟩⟩⟩⟩⟩
 .have:¬fM p:=by
   rintro⟨⟨f1,f2,f3,f4,f5,f6,f7⟩,_⟩;rcases h with(⟨a,b⟩|⟨a,b⟩)|⟨a,b⟩<;>simp_all
  rw[gQ this]
 .have:¬fM p:=by
   rintro⟨⟨f1,f2,f3,f4,f5,f6,f7⟩,_⟩;rcases h with((⟨a,b⟩|⟨a,b⟩)|h)|h
   .simp_all
   .simp_all
   .omega
   .omega
  rw[gQ this]
 .have:¬fM p:=by
   rintro⟨_,r1,r2,r3,_⟩;simp only[lI,pV]at h;rcases h with(h|h)|h
   .exact h r1
   .exact h r2
   .exact h r3
  rw[gQ this]
 .have:¬fM p:=by
   rintro⟨_,_,_,_,r1,r2,_⟩;simp only[lI,pV]at h;rcases h with h|h
   .exact h r1
   .exact h r2
  rw[gQ this]
 simp only[lI,pV,dQ,not_or,Jj]at g3 g4;have gf:OA p:=by
  refine⟨?_,?_,?_,?_,?_,by omega,by omega⟩
  .cases hb:p.sm<;>cases hc:p.m<;>simp_all
  .cases hb:p.st<;>simp_all
  .cases hb:p.sq<;>simp_all
  .cases hb:p.dY<;>simp_all
  .cases hb:p.ss<;>simp_all
 refine VC.jw (fun i:Nat=> [.bool false,.int (i:Int)]) (fun i=>i<=p.maps.length/\∀m∈p.maps.take i,m.fr∉p.jg) (fun i=>p.maps.length-i) 0 rfl ⟨cu _,by simp⟩ fun i hi=>?_;obtain⟨i1,i2⟩:=hi;simp only[aJ,aG,bJ];refine⟨fun hc=>?_,fun hc=>?_⟩
 .have hk:i<p.maps.length:=by omega
  rw[dF,Ou p.maps i hk];have hm:p.maps.getD i Mp.zero∈p.maps:=by simp[List.getD,hk]
  have ht:p.maps.take (i+1)=p.maps.take i++ [p.maps.getD i Mp.zero]:=by rw[nM hk];simp[List.getD,hk]
  generalize p.maps.getD i Mp.zero=e at hm ht;simp only[iP,gU,dV,eO];refine⟨by omega,by omega,fun h=>?_,fun h=>⟨by omega,i+1,by simp,⟨by omega,?_⟩,by omega⟩⟩
  .have:¬fM p:=by
    rintro⟨_,_,_,_,_,_,r,_⟩;have h:jT (vK p.jg) e.fr=true:=h;rw[M7,dQ]at h;exact r _ h (gP.2 ⟨e,hm,rfl⟩)
   rw[gQ this]
  .rw[ht];intro m hm2;rcases zx.1 hm2 with hm2|hm2
   .exact i2 m hm2
   .rw[sF]at hm2;rw[hm2];have h:jT (vK p.jg) e.fr=false:=h;rw[M7,pV]at h;exact h
 have:i=p.maps.length:=by omega
 subst this;rw[jQ]at i2;refine VC.jw (fun k:Nat=> [.bool false,.int (k:Int)]) (fun k=>k<=p.jf.length/\∀m∈p.jf.take k,m.id∉p.jg) (fun k=>p.jf.length-k) 0 rfl ⟨cu _,by simp⟩ fun k hk=>?_;obtain⟨k1,k2⟩:=hk;simp only[aJ,aG,bJ];refine⟨fun hc=>?_,fun hc=>?_⟩
 .have hk:k<p.jf.length:=by omega
  rw[Dg p.jf k hk];have hm:=H7 hk;have ht:=Kz p.jf k hk;generalize p.jf.getD k El.zero=e at hm ht;simp only[iP,gU,dV,eO];refine⟨by omega,by omega,fun h=>?_,fun h=>⟨by omega,k+1,by simp,⟨by omega,?_⟩,by omega⟩⟩
  .have:¬fM p:=by
    rintro⟨_,_,_,_,_,_,_,r⟩;have h:jT (vK p.jg) e.id=true:=h;rw[M7,dQ]at h;exact r _ h (gP.2 ⟨e,hm,rfl⟩)
   rw[gQ this]
  .rw[ht];intro m hm2;rcases zx.1 hm2 with hm2|hm2
   .exact k2 m hm2
   .rw[sF]at hm2;rw[hm2];have h:jT (vK p.jg) e.id=false:=h;rw[M7,pV]at h;exact h
 have:k=p.jf.length:=by omega
 subst this;rw[jQ]at k2;have:fM p:=by
  refine⟨gf,g3.1.1,g3.1.2,g3.2,g4.1,g4.2,fun d hd hm=>?_,fun d hd hm=>?_⟩
  .obtain ⟨m,hm1,rfl⟩:=gP.1 hm;exact i2 m hm1 hd
  .obtain ⟨m,hm1,rfl⟩:=gP.1 hm;exact k2 m hm1 hd
 rw[iH this]
def Bg(p:Pl):Prop:=p.maps.length<=300/\p.jg.length<=300/\EP p.jf=true/\EP p.jh=true
instance(p:Pl):Decidable (Bg p):=by unfold Bg;infer_instance
theorem adC{p:Pl}(h:Bg p):p.maps.length<=300/\p.jf.length<=300/\p.jg.length<=300/\p.jh.length<=300/\(∀e∈p.jf,e.data.length<=400)/\∀e∈p.jh,e.data.length<=400:=by
 obtain⟨h1,h2,h3,h4⟩:=h;have e3:=ng h3;have e4:=ng h4;exact⟨h1,e3.2,h2,e4.2,e3.1,e4.1⟩
theorem apM(p:Pl)(h2:p.jf.length<=maxLen)(h4:p.jh.length<=maxLen):PC prog X3 [(ig,iC p)] [(.bool,.bool (decide (Bg p)))]:=by
 apply al2 rfl;simp only[XH,aJ,aG,bJ];refine⟨_,fun _=>aak p.jf h2,_,fun _=>aak p.jh h4,?_⟩;congr 2
 by_cases h1:p.maps.length<=300<;>by_cases hd:p.jg.length<=300<;>cases ho:EP p.jf<;>cases ha:EP p.jh<;>simp[Bg,h1,hd,ho,ha,show((p.maps.length:Int)<=300)↔p.maps.length<=300 by omega,show((p.jg.length:Int)<=300)↔p.jg.length<=300 by omega]
theorem JJ(p:Pl):PC prog adO [(ig,iC p)] [(.bool,.bool (decide (p.jg≠[]\/p.jh≠[])))]:=by
 apply aqM rfl;simp only[ab4,aJ,aG,bJ];generalize p.jg=d;generalize p.jh=a;cases d<;>cases a<;>simp<;>omega
theorem QH(p:Pl):PC prog ZC [(ig,iC p)] [(.bool,.bool (decide (p.maps≠[]\/p.jf≠[]\/p.jg≠[]\/p.jh≠[])))]:=by
 apply amP rfl;simp only[YO,aJ,aG,bJ];refine⟨_,fun _=>JJ p,?_⟩;congr 2
 generalize p.maps=a1;generalize p.jf=a2;generalize p.jg=a3;generalize p.jh=a4;cases a1<;>cases a2<;>cases a3<;>cases a4<;>simp<;>omega
theorem abx(p:Pl):PC prog acQ [(ig,iC p)] [(.bool,.bool (decide (p=Pl.zero)))]:=by
 apply apj rfl;simp only[aaZ,aJ,aG,bJ];refine⟨_,fun _=>QH p,?_⟩;obtain⟨a1,a2,a3,a4,a5,a6,a7,a8,a9,a10,a11,a12,a13,a14,a15⟩:=p;congr 2
 by_cases h:(⟨a1,a2,a3,a4,a5,a6,a7,a8,a9,a10,a11,a12,a13,a14,a15⟩:Pl)=Pl.zero
 .rw[iH h];simp only[Pl.zero,Pl.mk.injEq]at h;obtain⟨rfl,rfl,rfl,rfl,rfl,rfl,rfl,rfl,rfl,rfl,rfl,rfl,rfl,rfl,rfl⟩:=h;simp
 rw[gQ h];simp only[Pl.zero,Pl.mk.injEq]at h;simp;intros
 simp_all
open Go.Lib (decDigits nDigits)
def lZ:List UInt8:=[109,97,114,107,101,114]
def yO:List UInt8:=[111,110]
def yu:List UInt8:=[111,102,102]
def mq:List UInt8:=[116,121,112,101]
def mH:List UInt8:=[115,101,113]
def mD:List UInt8:=[116,105,109,101]
def mE:List UInt8:=[115,115,114,99]
def kC:List UInt8:=[109,97,112]
def iV:List UInt8:=[111,118,101,114]
def j6:List UInt8:=[100,114,111,112]
def iW:List UInt8:=[97,100,100]
def mg:List UInt8:=[110,111,112,97,100]
abbrev gI(n:Int):List UInt8:=decDigits n.toNat
def tk1(p:Pl):List (List UInt8):=if p.sm then [lZ,if p.m then yO else yu]else []
def tk2(p:Pl):List (List UInt8):=if p.st then [mq,gI p.ty]else []
def tk3(p:Pl):List (List UInt8):=if p.sq then [mH,gI p.seq]else []
def tk4(p:Pl):List (List UInt8):=if p.dY then [mD,gI p.time]else []
def wh(p:Pl):List (List UInt8):=if p.ss then [mE,gI p.bZ]else []
def rJ(l:List Mp):List (List UInt8):=l.flatMap fun m=> [kC,gI m.fr,gI m.to]
def nk(w:List UInt8)(l:List El):List (List UInt8):=l.flatMap fun e=> [w,gI e.id,qs e.data]
def rM(l:List Int):List (List UInt8):=l.flatMap fun d=> [j6,gI d]
def xD(p:Pl):List (List UInt8):=if p.np then [mg]else []
def toks(p:Pl):List (List UInt8):=tk1 p++(tk2 p++(tk3 p++(tk4 p++(wh p++(rJ p.maps++(nk iV p.jf++(rM p.jg++(nk iW p.jh++xD p))))))))
def nQ(p:Pl):List UInt8:=jC (toks p)
def ku(ts:List (List UInt8)):List UInt8:=ts.flatMap (32::·)
theorem awF(a b:List (List UInt8)):ku (a++b)=ku a++ku b:=by simp[ku]
theorem aeG:∀ts:List (List UInt8),ts≠[]->ku ts=32::jC ts
 | [],h=>absurd rfl h
 | [w],_=>by simp[ku,jC]
 |w::v::r,_=>by
  have ih:=aeG (v::r) (by simp);have e:ku (w::v::r)=(32::w)++ku (v::r):=by simp[ku]
  have e2:jC (w::v::r)=w++32::jC (v::r):=rfl;rw[e,ih,e2];simp
theorem avo(ts:List (List UInt8)):(ku ts).drop 1=jC ts:=by
 by_cases h:ts=[]
 .subst h;rfl
 rw[aeG ts h];rfl
def IX(x:UInt8):Bool:=decide (48<=x.toNat/\x.toNat<=57)
def Iz(w:List UInt8):Nat:=w.foldl (fun n x=>10*n+(x.toNat-48)) 0
theorem avL(w:List UInt8)(x:UInt8):Iz (w++ [x])=10*Iz w+(x.toNat-48):=by unfold Iz;rw[Ga];rfl
theorem awH{n:Nat}(h:n<10):decDigits n=[UInt8.ofNat (48+n)]:=by rw[decDigits,dif_pos h]
theorem azA{n:Nat}(h:¬n<10):decDigits n=decDigits (n/10)++ [UInt8.ofNat (48+n%10)]:=by rw[decDigits,dif_neg h]
theorem afP(n:Nat):(decDigits n).all IX=true/\Iz (decDigits n)=n/\decDigits n≠[]:=by
 induction n using Nat.strongRecOn with
 |_ n ih=>
  by_cases h:n<10
  .rw[awH h];have e:(UInt8.ofNat (48+n)).toNat=48+n:=by rw[zu];omega
   refine⟨?_,?_,by simp⟩
   .simp only[List.all_cons,List.all_nil,Bool.and_true,IX,e,dQ];omega
   .unfold Iz;simp only[Ak,List.foldl_nil,e];omega
  rw[azA h];obtain⟨h1,h2,h3⟩:=ih (n/10) (by omega);have e:(UInt8.ofNat (48+n%10)).toNat=48+n%10:=by rw[zu];omega
  refine⟨?_,?_,by simp⟩
  .rw[List.all_append,h1];simp only[List.all_cons,List.all_nil,Bool.and_true,Bool.true_and,IX,e,dQ];omega
  rw[avL,h2,e];omega
theorem akp:∀(k n:Nat),n<10^(k+1)->nDigits n<=k+1
 |0,n,h=>by rw[Go.Lib.nDigits_small (by simpa using h)];exact aS _
 |k+1,n,h=>by
  by_cases h10:n<10
  .rw[Go.Lib.nDigits_small h10];omega
  rw[Go.Lib.nDigits_big h10];have:=akp k (n/10) (by rw[Nat.pow_succ]at h;omega);omega
theorem aib{n:Nat}(h:n<4294967296):1<=(decDigits n).length/\(decDigits n).length<=10:=by
 rw[Go.Lib.decDigits_length];exact⟨Go.Lib.nDigits_pos n,akp 9 n (by omega)⟩
theorem aia{x:UInt8}(h:IX x=true):Lu x=true:=by
 have h:=ng h;unfold Lu;rw[dQ];omega
theorem azz{n:Nat}(h:n<4294967296):IB (decDigits n)=true:=by
 obtain⟨h1,h2⟩:=aib h;unfold IB;rw[bB,dQ];refine⟨by omega,pR.2 fun x hx=>aia (pR.1 (afP n).1 x hx)⟩
theorem Bh{n:Int}(h:n<4294967296):IB (gI n)=true:=azz (by omega)
theorem zO{l:List El}(h:lH l):∀e∈l,1<=e.id/\e.id<=255/\e.data.length<=255:=by
 intro x hx;obtain⟨j,hj⟩:=List.getElem?_of_mem hx;have hlt:=(zy.1 hj).1;have:=h j hlt;unfold BQ at this;have e:l.getD j El.zero=x:=by simp[List.getD,hj]
 rw[e]at this;exact⟨this.1,this.2.1,this.2.2.1⟩
theorem ae1{p:Pl}(h:fM p)(hn:fO p):∀w∈toks p,isWord w:=by
 obtain⟨⟨_,_,_,_,_,t0,t1⟩,r1,r2,r3,r4,r5,_⟩:=h;obtain⟨n1,n2,n3,n4,n5,n6⟩:=hn;intro w hw;unfold toks at hw;simp only[zx]at hw;rcases hw with hw|hw|hw|hw|hw|hw|hw|hw|hw|hw
 .unfold tk1 at hw;split at hw
  .simp only[iR,sH,pz]at hw;rcases hw with rfl|rfl
   .exact .inr (by decide)
   .split<;>exact .inr (by decide)
  cases hw
 .unfold tk2 at hw;split at hw
  .simp only[iR,sH,pz]at hw;rcases hw with rfl|rfl
   .exact .inr (by decide)
   .exact .inr (Bh (by omega))
  cases hw
 .unfold tk3 at hw;split at hw
  .simp only[iR,sH,pz]at hw;rcases hw with rfl|rfl
   .exact .inr (by decide)
   .exact .inr (Bh (by omega))
  cases hw
 .unfold tk4 at hw;split at hw
  .simp only[iR,sH,pz]at hw;rcases hw with rfl|rfl
   .exact .inr (by decide)
   .exact .inr (Bh (by omega))
  cases hw
 .unfold wh at hw;split at hw
  .simp only[iR,sH,pz]at hw;rcases hw with rfl|rfl
   .exact .inr (by decide)
   .exact .inr (Bh (by omega))
  cases hw
 .obtain ⟨m,hm,hw⟩:=List.mem_flatMap.1 hw;have a1:=tC r1 m.fr (gP.2 ⟨m,hm,rfl⟩);have a2:=tC r2 m.to (gP.2 ⟨m,hm,rfl⟩);simp only[iR,sH,pz]at hw;rcases hw with rfl|rfl|rfl
  .exact .inr (by decide)
  .exact .inr (Bh (by omega))
  exact .inr (Bh (by omega))
 .obtain ⟨e,he,hw⟩:=List.mem_flatMap.1 hw;have a1:=zO r4 e he;simp only[iR,sH,pz]at hw;rcases hw with rfl|rfl|rfl
  .exact .inr (by decide)
  .exact .inr (Bh (by omega))
  exact .inl ⟨_,rfl⟩
 .obtain ⟨d,hd,hw⟩:=List.mem_flatMap.1 hw;have a1:=tC r3 d hd;simp only[iR,sH,pz]at hw;rcases hw with rfl|rfl
  .exact .inr (by decide)
  exact .inr (Bh (by omega))
 .obtain ⟨e,he,hw⟩:=List.mem_flatMap.1 hw;have a1:=zO r5 e he;simp only[iR,sH,pz]at hw;rcases hw with rfl|rfl|rfl
  .exact .inr (by decide)
  .exact .inr (Bh (by omega))
  .exact .inl ⟨_,rfl⟩
 unfold xD at hw;split at hw
 .simp only[iR,sH,pz]at hw;rw[hw];exact .inr (by decide)
 cases hw
end Go.Vc
