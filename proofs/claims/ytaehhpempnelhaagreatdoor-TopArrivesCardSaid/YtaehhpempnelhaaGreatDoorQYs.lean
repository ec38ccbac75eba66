/-
  The walks of the reader's id and element (say).
-/
import Derived.Test.YtaehhpempnelhaaGreatDoorQYr
import Derived.Test.YtaehhpempnelhaaGreatDoorQTt
set_option maxRecDepth 100000
namespace Go.Vc
open Go Go.Proofs Go.RowKit Go.Plain
set_option maxHeartbeats 4000000 in
theorem Ew(W:World)(lo rb:Nat)(hlo:lo<=W.heap.size)(sv:Value)(wb:Bool)(ws:List (List UInt8))(s:List UInt8)(hs:ws.headD []=s)(hlen:s.length<=1000000)(R:Nat×Bool)(hRR:aX 255 s=R)(h:dX W rb sv wb)(hw:gT W lo rb sv ws):
  Calls Tryz.prog 97 #[.pointer (some ⟨rb,0,none⟩)] W fun e W'=>∃lD,e= .returned (.int .i64 (R.1:Nat))/\dX W' rb lD ((wb||ws.isEmpty)||R.2)/\gT W' lo rb lD ws.tail/\W.grownBy W' (some rb):=by
 have hle:R.1<=255:=by
  rw[<-hRR];exact zC 255 _ 0 (by omega)
 obtain ⟨R1,R2⟩:=R;simp only at hle;go_enter Tryz.func97,Tryz.ntmps97
 go_wp2_with (go_at_call 98;refine (GX W lo rb hlo sv wb ws 255 (by omega) s hs hlen (R1,R2) hRR h hw).mono ?_)
 first|(rintro e W1 rfl jC h1 w1 g1)|(rintro e W1 jC rfl h1 w1 g1)|(rintro e W1 ⟨jC,rfl,h1,w1,g1⟩)
 go_wp2
 go_ret
 first|exact ⟨rfl,_,h1,w1,g1⟩|exact ⟨_,rfl,h1,w1,g1⟩
theorem ajs(s:List UInt8)(hs:s.length<=1000000)(w:World)(aL:KW Tryz.prog w):
  Calls Tryz.prog 124 #[.string ⟨s.toArray⟩] w fun e w'=>e= .returned (.tuple #[.string ⟨((iW s).getD []).toArray⟩,.int .i64 (AQ s)])/\Below w.heap.size w w':=by
 have h:=((agY aa2 anL s hs).mq (by decide)).2 w (fun _=>True) [.string ⟨s.toArray⟩] aL ⟨_,_,rfl,⟨[.string ⟨s.toArray⟩],rfl,rfl⟩,rfl⟩;refine h.mono fun e w' ⟨v,he,⟨vs,⟨v1,r1,hv1,⟨us,hu,hv2⟩,v3,r3,hv3,⟨Dc,hu2,hv4⟩,hr⟩,hv⟩,hb⟩=>⟨?_,hb⟩;simp only[dH] at hr;subst hr;simp only[Rd] at hu hu2;subst hu hu2;subst hv1 hv3;simp[Sh.mk,Sh.isAgg] at hv2 hv4;subst hv2 hv4;simp at hv;rw[he,hv]
theorem alloc_at(w:World)(o:Obj):(w.alloc o).heap[w.heap.size]?=some o:=by unfold World.alloc;exact Array.getElem?_push_size
theorem YH(s:List UInt8)(hs:s.length<=1000000)(W:World):∃a cap W',(convert 9 22 (.string ⟨s.toArray⟩)).run Tryz.prog W= .ok (.slice a s.length cap) W'/\Below W.heap.size W W'/\Rd W' (fun b=>W.heap.size<=b) (.sl (.int .u8)) [.slice a s.length cap] (.ls (ofBytes s)):=by
 obtain ⟨v,W',h1,h2,h3⟩:=Y3 (P:=Tryz.prog) (w:=W) (N:=fun b=>W.heap.size<=b) (et:=5) s (by omega) (fun _ h=>h);obtain ⟨a,cap,e1,_⟩:=id h3;simp only[iJ,and_true,C.kU] at e1;rw[show (ofBytes s).length=s.length by simp[ofBytes]] at e1;subst e1;refine ⟨a,cap,W',?_,h2,h3⟩;simp[convert,run_underlying Tryz.underlying9,run_underlying Tryz.underlying22,run_underlying Tryz.underlying5,h1]
theorem aqz(l:List UInt8):l.length<=(qs l).length:=by
 have key:l.length<=((chunks l).flatMap qc).length:=by
  induction l using Jj with
  |nil=>exact bK _
  |step l hne ih=>
   rw[wX hne,List.flatMap_cons,bg];have h1:bf l<=(qc (l.take (bf l))).length:=by
    have h2:=zJ hne;rcases Z5 hne with ⟨_,r2,_,r4⟩|⟨_,r2,r4⟩|⟨_,_,r4⟩
    .rw[r4,r2];simp
    .rw[r4,r2];simp
    .rw[r4,gD];omega
   rw[jV] at ih;omega
 unfold qs;simp only[bn,bg,zy];omega
theorem XK{W Wc:World}{lo rb eb R1 cap:Nat}{a:Option Addr}{n:Nat}{sv:Value}{b:Bool}{ws:List (List UInt8)}{c:C}{z0 z1:Value}
  (hE:Wc.heap[eb]?=some (.cells #[.int .i64 (R1:Nat),z0] 103 (0,0))) (hC:Wc.heap[W.heap.size]?=some (.cells #[.int .i64 0,z1] 103 (0,0))) (h1:W.heap.size<eb) {M:Nat} (h2:eb<M) (h3:M<=Wc.heap.size) (hne1:eb≠rb) (hne2:W.heap.size≠rb) (FV:rb<W.heap.size) (hlo:lo<=W.heap.size)
  (rd:Rd Wc (fun k=>M<=k) (.sl (.int .u8)) [.slice a n cap] c) (_:True:=trivial) (hR:dX Wc rb sv b) (hW:gT Wc lo rb sv ws) (hG:W.grownBy Wc (some rb)) {Q:Prop}
  (k:∀W6,((Wc.setCell ⟨eb,1,none⟩ (.slice a n cap)).setCell ⟨W.heap.size,0,none⟩ (.int .i64 (R1:Nat))).setCell ⟨W.heap.size,1,none⟩ (.slice a n cap)=W6->
   Rd W6 (fun b=>W.heap.size<=b) (.sl (.int .u8)) [.slice a n cap] c->dX W6 rb sv b->gT W6 lo rb sv ws->W.grownBy W6 (some rb)->W6.heap[W.heap.size]?=some (.cells #[.int .i64 (R1:Nat),.slice a n cap] 103 (0,0))->Q):Q:=by
 have hlt:=(fu.1 hE).1;have keep:∀j,j≠eb->j≠W.heap.size->(((Wc.setCell ⟨eb,1,none⟩ (.slice a n cap)).setCell ⟨W.heap.size,0,none⟩ (.int .i64 (R1:Nat))).setCell ⟨W.heap.size,1,none⟩ (.slice a n cap)).heap[j]?=Wc.heap[j]?:=by
  intro j h4 h5;rw[Below.heap_setCell _ _ _ _ (by simpa using h5),Below.heap_setCell _ _ _ _ (by simpa using h5),Below.heap_setCell _ _ _ _ (by simpa using h4)]
 refine k _ rfl ?_ ?_ ?_ ?_ ?_
 .refine rd.mono (by simp[World.setCell]) fun b hb _=>⟨keep b (by omega) (by omega),by omega⟩
 .exact hR.of_heap (keep rb (fun e=>hne1 e.symm) (fun e=>hne2 e.symm))
 .exact hW.jv fun j hj hjr=>keep j (by omega) (by omega)
 .exact ⟨hG.os,hG.tape,hG.output,by simpa [World.setCell] using hG.size,fun j hj hn=>by rw[keep j (by omega) (by omega)];exact hG.block j hj hn⟩
 .have e1:(Wc.setCell ⟨eb,1,none⟩ (.slice a n cap)).heap[W.heap.size]?=some (.cells #[.int .i64 0,z1] 103 (0,0)):=by rw[Below.heap_setCell _ _ _ _ (by simp;omega)];exact hC
  simp[World.setCell,Array.getElem?_modify] at e1 |-;simp[e1]
set_option maxHeartbeats 4000000 in
theorem WS(W:World)(aL:KW Tryz.prog W)(lo rb:Nat)(hlo:lo<=W.heap.size)(sv:Value)(wb:Bool)(ws:List (List UInt8))(s0 s1:List UInt8)(hs0:ws.headD []=s0)(hs1:ws.tail.headD []=s1)(aqH:s0.length<=1000000)(hlen1:s1.length<=1000000)(hkr:∀g,uW Tryz.prog g->g≠rb)
  (R:Nat×Bool) (hRR:aX 255 s0=R) (h:dX W rb sv wb) (hw:gT W lo rb sv ws):
  Calls Tryz.prog 99 #[.pointer (some ⟨rb,0,none⟩)] W fun e W'=>∃lD dv,e= .returned (.agg #[.int .i64 (R.1:Nat),dv])/\Rd W' (fun b=>W.heap.size<=b) (.sl (.int .u8)) [dv] (.ls (ofBytes ((iW s1).getD [])))/\
   dX W' rb lD (((wb||ws.isEmpty)||R.2)||ws.tail.isEmpty|| !(iW s1).isSome)/\gT W' lo rb lD ws.tail.tail/\W.grownBy W' (some rb):=by
 obtain ⟨R1,R2⟩:=R;have FV:=h.lt;have hA:=h.of_heap (W':=(W.alloc (.cells #[.int .i64 0,.slice none 0 0] 103))) (Lib.alloc_old W _ rb FV);go_enter Tryz.func99,Tryz.ntmps99
 go_wp2_with (go_at_call 97;refine (Ew _ lo rb (by simp;omega) sv wb ws s0 hs0 aqH (R1,R2) hRR hA (hw.jv fun k hk _=>Lib.alloc_old W _ k (by omega))).mono ?_)
 first|(rintro e W1 rfl jC h1 w1 g1)|(rintro e W1 jC rfl h1 w1 g1)|(rintro e W1 ⟨jC,rfl,h1,w1,g1⟩)
 have aso:=hs1;have hsz1:W.heap.size+1<=W1.heap.size:=by have:=g1.size;simpa using this
 have hRA:dX (W1.alloc (.cells #[.int .i64 (R1:Nat),.slice none 0 0] 103)) rb jC (wb||ws.isEmpty||R2):=h1.of_heap (Lib.alloc_old W1 _ rb h1.lt);have nJ:gT (W1.alloc (.cells #[.int .i64 (R1:Nat),.slice none 0 0] 103)) lo rb jC ws.tail:=w1.jv fun k hk _=>Lib.alloc_old W1 _ k (by omega);have mE:(W1.alloc (.cells #[.int .i64 (R1:Nat),.slice none 0 0] 103)).heap[W1.heap.size]?=some (.cells #[.int .i64 (R1:Nat),.slice none 0 0] 103 (0,0)):=alloc_at W1 _;have hCA:(W1.alloc (.cells #[.int .i64 (R1:Nat),.slice none 0 0] 103)).heap[W.heap.size]?=some (.cells #[.int .i64 0,.slice none 0 0] 103 (0,0)):=by
  rw[Lib.alloc_old W1 _ _ (by omega),g1.block _ (by simp) (by simp;omega)];exact alloc_at W _
 have hGA:W.grownBy (W1.alloc (.cells #[.int .i64 (R1:Nat),.slice none 0 0] 103)) (some rb):=Lr (nM (World.grownBy_alloc W _ _) g1) _;have hszA:(W1.alloc (.cells #[.int .i64 (R1:Nat),.slice none 0 0] 103)).heap.size=W1.heap.size+1:=by simp
 have hr1:=h1.lt;go_wp2_with (go_at_call 96;refine (MC _ lo rb (by rw[hszA];omega) jC _ ws.tail hRA nJ).mono ?_)
 first|(rintro e W2 rfl gP h2 w2 g2)|(rintro e W2 gP rfl h2 w2 g2)|(rintro e W2 ⟨gP,rfl,h2,w2,g2⟩)
 rw[hs1] at*;have hE2:W2.heap[W1.heap.size]?=some (.cells #[.int .i64 (R1:Nat),.slice none 0 0] 103 (0,0)):=(g2.block _ (by omega) (by simp;omega)).trans mE;have hC2:W2.heap[W.heap.size]?=some (.cells #[.int .i64 0,.slice none 0 0] 103 (0,0)):=(g2.block _ (by omega) (by simp;omega)).trans hCA;have hG2:=nM hGA g2;have hk2:KW Tryz.prog W2:=aL.keep fun g hg=>hG2.block g (aL.lt hg) (by simp;exact hkr g hg);have hsz2:=g2.size;go_wp2_with (go_at_call 124;refine (ajs s1 hlen1 _ hk2).mono ?_)
 first|(rintro e W3 rfl b3)|(rintro e W3 ⟨rfl,b3⟩)
 have yV:=h2.of_heap (b3.block rb h2.lt);have hW3:=w2.jv (W':=W3) fun k hk _=>b3.block k (by omega);have tC:W3.heap[W1.heap.size]?=some (.cells #[.int .i64 (R1:Nat),.slice none 0 0] 103 (0,0)):=(b3.block _ (by omega)).trans hE2;have Qm:W3.heap[W.heap.size]?=some (.cells #[.int .i64 0,.slice none 0 0] 103 (0,0)):=(b3.block _ (by omega)).trans hC2;have hG3:W.grownBy W3 (some rb):=nM hG2 ⟨b3.os,b3.tape,b3.output,b3.size,fun k hk _=>b3.block k hk⟩;have asl:=b3.size;have e0:W3.cell? ⟨W1.heap.size,0,none⟩=some (.int .i64 (R1:Nat)):=by rw[Lib.cell_of_heap tC];rfl
 have e1:W3.cell? ⟨W1.heap.size,1,none⟩=some (.slice none 0 0):=by rw[Lib.cell_of_heap tC];rfl
 have fe:=fun j=>Lib.frozen_of_heap tC j;have fc:=fun j=>Lib.frozen_of_heap Qm j;have fr:=yV.frozen;have c1:=yV.cell1;clear hE2 hC2 mE hCA hRA nJ hA h1 w1 h2 w2;cases hu:iW s1 with
 |none=>
  have hue:AQ s1=6:=by unfold AQ;rw[hu];rfl
  simp only[hue,hu,Option.getD_none];have Qj:=yV.set1 true;have g4:=zB W3 rb 1 (.bool true);have hne1:W1.heap.size≠rb:=by omega
  have hne2:W.heap.size≠rb:=by omega
  have dh:=(g4.block W1.heap.size (by omega) (by simp;omega)).trans tC;have hC4:=(g4.block W.heap.size (by omega) (by simp;omega)).trans Qm;have yU:=hW3.jv (W':=W3.setCell ⟨rb,1,none⟩ (.bool true)) fun k hk hkr=>g4.block k (by omega) (by simp;omega);have hG4:=nM hG3 g4;have aq3:=g4.size;obtain ⟨a,cap,W5,hcv,b5,Km⟩:=YH [] (by simp) (W3.setCell ⟨rb,1,none⟩ (.bool true));simp only[zy] at hcv Km;have hsz5:=b5.size;have ng:=(b5.block W1.heap.size (by omega)).trans dh;have wI:=(b5.block W.heap.size (by omega)).trans hC4;have Qi:=Qj.of_heap (b5.block rb (by omega));have Qc:=yU.jv (W':=W5) fun k hk _=>b5.block k (by omega);have Ql:W.grownBy W5 (some rb):=nM hG4 ⟨b5.os,b5.tape,b5.output,b5.size,fun k hk _=>b5.block k hk⟩;have fe5:=fun j=>Lib.frozen_of_heap ng j;have fc5:=fun j=>Lib.frozen_of_heap wI j;have e50:W5.cell? ⟨W1.heap.size,0,none⟩=some (.int .i64 (R1:Nat)):=by rw[Lib.cell_of_heap ng];rfl
  have e51:W5.cell? ⟨W1.heap.size,1,none⟩=some (.slice none 0 0):=by rw[Lib.cell_of_heap ng];rfl
  have c50:W5.cell? ⟨W.heap.size,0,none⟩=some (.int .i64 0):=by rw[Lib.cell_of_heap wI];rfl
  have c51:W5.cell? ⟨W.heap.size,1,none⟩=some (.slice none 0 0):=by rw[Lib.cell_of_heap wI];rfl
  go_wp2
  refine XK (rb:=rb) (lo:=lo) (W:=W) (Wc:=W5) (eb:=W1.heap.size) (R1:=R1) ng wI (by omega) (by omega) (by omega) hne1 hne2 FV hlo Km trivial Qi Qc Ql ?_;intro W6 Qb r1 r2 r3 r4 r5;rw[Qb];refine bodyPost_ret (results_cell_row (cs:= #[.int .i64 (R1:Nat),.slice a 0 cap]) rfl _ W6 W.heap.size 103 (0,0) _ rfl r5 Tryz.underlying103 rfl (by kernel_rfl)) rfl ?_;refine ⟨_,_,rfl,?_,?_,r3,r4⟩
  .rw[hu];exact r1
  .rw[hu];simpa using r2
 |some d=>
  have hue:AQ s1=0:=by unfold AQ;rw[hu];rfl
  have hdl:d.length<=1000000:=by
   have h2:=al3.1 hu;have h3:d.length<=(qs d).length:=aqz d;rw[h2] at h3;omega
  simp only[hue,hu,yL];obtain ⟨a,cap,W5,hcv,b5,Km⟩:=YH d hdl W3;have hne1:W1.heap.size≠rb:=by omega
  have hne2:W.heap.size≠rb:=by omega
  have hsz5:=b5.size;have ng:=(b5.block W1.heap.size (by omega)).trans tC;have wI:=(b5.block W.heap.size (by omega)).trans Qm;have Qi:=yV.of_heap (b5.block rb (by omega));have Qc:=hW3.jv (W':=W5) fun k hk _=>b5.block k (by omega);have Ql:W.grownBy W5 (some rb):=nM hG3 ⟨b5.os,b5.tape,b5.output,b5.size,fun k hk _=>b5.block k hk⟩;have fe5:=fun j=>Lib.frozen_of_heap ng j;have fc5:=fun j=>Lib.frozen_of_heap wI j;have e50:W5.cell? ⟨W1.heap.size,0,none⟩=some (.int .i64 (R1:Nat)):=by rw[Lib.cell_of_heap ng];rfl
  have e51:W5.cell? ⟨W1.heap.size,1,none⟩=some (.slice none 0 0):=by rw[Lib.cell_of_heap ng];rfl
  have c50:W5.cell? ⟨W.heap.size,0,none⟩=some (.int .i64 0):=by rw[Lib.cell_of_heap wI];rfl
  have c51:W5.cell? ⟨W.heap.size,1,none⟩=some (.slice none 0 0):=by rw[Lib.cell_of_heap wI];rfl
  go_wp2
  refine XK (rb:=rb) (lo:=lo) (W:=W) (Wc:=W5) (eb:=W1.heap.size) (R1:=R1) ng wI (by omega) (by omega) (by omega) hne1 hne2 FV hlo Km trivial Qi Qc Ql ?_;intro W6 Qb r1 r2 r3 r4 r5;rw[Qb];refine bodyPost_ret (results_cell_row (cs:= #[.int .i64 (R1:Nat),.slice a d.length cap]) rfl _ W6 W.heap.size 103 (0,0) _ rfl r5 Tryz.underlying103 rfl (by kernel_rfl)) rfl ?_;refine ⟨_,_,rfl,?_,?_,r3,r4⟩
  .rw[hu];exact r1
  .rw[hu];simpa using r2
end Go.Vc
