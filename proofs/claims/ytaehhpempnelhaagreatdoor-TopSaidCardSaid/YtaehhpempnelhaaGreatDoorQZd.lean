/-
  The walk of Parse.
-/
import Derived.Test.YtaehhpempnelhaaGreatDoorQTx3
import Derived.Deep.MidRow
set_option maxRecDepth 100000
namespace Go.Vc
open Go Go.Proofs Go.RowKit Go.Plain Tryz
structure Keep (P:Prop):Prop where
 get:P
theorem azQ{p:Pl}{am ao ad aa:Option Addr}{lm cm lo co ld cd la ca:Nat}(v:Value)(h:v∈j5 p (.slice am lm cm) (.slice ao lo co) (.slice ad ld cd) (.slice aa la ca)):v.oneCell'=true:=by
 simp only[j5,List.mem_toArray,iR,List.not_mem_nil,pz]at h;rcases h with rfl|rfl|rfl|rfl|rfl|rfl|rfl|rfl|rfl|rfl|rfl|rfl|rfl|rfl|rfl<;>rfl
def VI(W:World)(rb:Nat):Nat:=match W.cell? ⟨rb,0,none⟩with|some (.slice _ n _)=>n|_=>0
theorem agF{W:World}{lo rb:Nat}{sv:Value}{wr:Bool}{ws:eZ}(h:gL W rb sv wr)(hw:jI W lo rb sv ws):VI W rb=ws.length:=by
 obtain⟨a,cap,rfl,_⟩:=hw;unfold VI;rw[h.cell0]
theorem ayL{W:World}{g:Nat}{cs:Array Value}{t:TypeId}{fz:Nat×Nat}(h:W.heap[g]?=some (.cells cs t fz))(i:Nat)(v:Value):(W.setCell ⟨g,i,none⟩ v).heap[g]?=some (.cells (cs.set! i v) t fz):=by
 simp[World.setCell,zn,h]
theorem Na{W:World}{g:Nat}(h:W.heap[g]?=some (.cells zeroCells 29 (0,0))):
  W.cell? ⟨g,0,none⟩=some (.bool false)/\W.cell? ⟨g,1,none⟩=some (.bool false)/\W.cell? ⟨g,2,none⟩=some (.bool false)/\W.cell? ⟨g,3,none⟩=some (.int .i64 0)/\W.cell? ⟨g,4,none⟩=some (.bool false)/\W.cell? ⟨g,5,none⟩=some (.int .u16 0)/\W.cell? ⟨g,6,none⟩=some (.bool false)/\W.cell? ⟨g,7,none⟩=some (.int .u32 0)/\W.cell? ⟨g,8,none⟩=some (.bool false)/\W.cell? ⟨g,9,none⟩=some (.int .u32 0)/\W.cell? ⟨g,10,none⟩=some (.slice none 0 0)/\W.cell? ⟨g,11,none⟩=some (.slice none 0 0)/\W.cell? ⟨g,12,none⟩=some (.slice none 0 0)/\W.cell? ⟨g,13,none⟩=some (.slice none 0 0)/\W.cell? ⟨g,14,none⟩=some (.bool false):=by
 simp only[fA h];exact⟨rfl,rfl,rfl,rfl,rfl,rfl,rfl,rfl,rfl,rfl,rfl,rfl,rfl,rfl,rfl⟩
def lM(W:World)(g:Nat):Nat->List Value->World
 |_,[]=>W
 |i,v::l=>lM (W.setCell ⟨g,i,none⟩ v) g (i+1) l
def PW(cs:Array Value):Nat->List Value->Array Value
 |_,[]=>cs
 |i,v::l=>PW (cs.set! i v) (i+1) l
theorem ahq(g:Nat):∀(l:List Value) (i:Nat) (W:World),lM W g i l=W.setCells g i l
 | [],_,_=>rfl
 |_::l,i,_=>ahq g l (i+1) _
theorem ayM(p:Pl)(a b c d:Value):PW zeroCells 0 (j5 p a b c d).toList=j5 p a b c d:=by
 simp[PW,j5,zeroCells,Pl.zero]
theorem wI{w:World}{g:Nat}{t:TypeId}{fz:Nat×Nat}(hg:w.heap.size<=g):∀(l:List Value) (i:Nat) (W:World) (cs:Array Value),W.heap[g]?=some (.cells cs t fz)->Below w.heap.size w W->
  (lM W g i l).heap[g]?=some (.cells (PW cs i l) t fz)/\Below w.heap.size w (lM W g i l)/\(∀k,k≠g->(lM W g i l).heap[k]?=W.heap[k]?)/\(lM W g i l).heap.size=W.heap.size
 | [],i,W,cs,h,hb=>⟨h,hb,fun _ _=>rfl,rfl⟩
 |v::l,i,W,cs,h,hb=>by
  obtain⟨h1,h2,h3,h4⟩:=wI hg l (i+1) (W.setCell ⟨g,i,none⟩ v) (cs.set! i v) (ayL h i v) (A9 hb hg i v);refine⟨h1,h2,fun k hk=>(h3 k hk).trans (gu _ _ _ _ (by simpa using hk)),?_⟩;unfold lM;rw[h4];simp[World.setCell]
theorem R8{W:World}{g:Nat}{p:Pl}{vm vo vd va:Value}(h:W.heap[g]?=some (.cells (j5 p vm vo vd va) 29 (0,0))):
  W.cell? ⟨g,0,none⟩=some (.bool p.sm)/\W.cell? ⟨g,1,none⟩=some (.bool p.m)/\W.cell? ⟨g,2,none⟩=some (.bool p.st)/\W.cell? ⟨g,3,none⟩=some (.int .i64 p.ty)/\W.cell? ⟨g,4,none⟩=some (.bool p.sq)/\W.cell? ⟨g,5,none⟩=some (.int .u16 p.seq)/\W.cell? ⟨g,6,none⟩=some (.bool p.dY)/\W.cell? ⟨g,7,none⟩=some (.int .u32 p.time)/\W.cell? ⟨g,8,none⟩=some (.bool p.ss)/\W.cell? ⟨g,9,none⟩=some (.int .u32 p.bZ)/\W.cell? ⟨g,10,none⟩=some (vm)/\W.cell? ⟨g,11,none⟩=some (vo)/\W.cell? ⟨g,12,none⟩=some (vd)/\W.cell? ⟨g,13,none⟩=some (va)/\W.cell? ⟨g,14,none⟩=some (.bool p.np):=by
 simp only[fA h];exact⟨rfl,rfl,rfl,rfl,rfl,rfl,rfl,rfl,rfl,rfl,rfl,rfl,rfl,rfl,rfl⟩
set_option maxHeartbeats 8000000 in
theorem au6(w:World)(aX:KW prog w)(s:List UInt8)(hs:s.length<=1000000)(R:Option Pl)(hR:uy rG s=R):
  Calls prog 18 #[.string ⟨s.toArray⟩] w fun e W'=>∃cs:Array Value,e=.returned (.tuple #[.agg cs,.int .i64 (if R.isSome then 0 else 6)])/\Rd W' (fun b=>w.heap.size<=b) ig cs.toList (iC (R.getD Pl.zero))/\Below w.heap.size w W':=by
 by_cases h0:s=[]
 .subst h0;obtain rfl:some Pl.zero=R:=hR;have hb:=iL (eD w.heap.size w) (aS _) (.cells zeroCells 29);go_enter func18,ntmps18
  go_wp2
  refine fD (nX (cs:=zeroCells) rfl _ (w.alloc (.cells zeroCells 29)) w.heap.size 29 (0,0) _ rfl (alloc_at w _) underlying29 rfl (by kernel_rfl) _ rfl) rfl ?_;exact⟨_,rfl,Dc _ _,hb⟩
 have e0:(s==[])=false:=by rw[uz];exact gQ h0
 have kA:KW prog (w.alloc (.cells zeroCells 29)):=aX.keep fun g hg=>iT w _ g (aX.lt hg);have bA:=iL (eD w.heap.size w) (aS _) (.cells zeroCells 29);have hA:(w.alloc (.cells zeroCells 29)).heap[w.heap.size]?=some (.cells zeroCells 29 (0,0)):=alloc_at w _;have sA:(w.alloc (.cells zeroCells 29)).heap.size=w.heap.size+1:=by simp
 obtain⟨E,hE⟩:∃E,Ql (nE s)=E:=⟨_,rfl⟩;have wc:=auB s hs _ kA;rw[hE]at wc;go_enter func18,ntmps18
 go_wp2_with (go_at_call 49;refine wc.mono ?_)
 first|(rintro e W2 rfl sv hws b2)|(rintro e W2 sv rfl hws b2)|(rintro e W2 ⟨sv,rfl,hws,b2⟩)
 clear wc;have sz2:=b2.size;rw[sA]at sz2;have h2:W2.heap[w.heap.size]?=some (.cells zeroCells 29 (0,0)):=(b2.block _ (by rw[sA];omega)).trans hA;have Xf:Below w.heap.size w W2:=bA.trans ⟨b2.os,b2.tape,b2.output,b2.size,fun j hj=>b2.block j (by rw[sA];omega)⟩;have k2:KW prog W2:=aX.keep fun g hg=>Xf.block g (aX.lt hg);cases hw:nE s with
 |none=>
  obtain rfl:6=E:=by rw[<-hE,hw];rfl
  obtain rfl:none=R:=by rw[<-hR];unfold uy;rw[zq h0,hw]
  obtain⟨c0,c1,c2,c3,c4,c5,c6,c7,c8,c9,c10,c11,c12,c13,c14⟩:=Na h2;have fz:=fun j=>iY h2 j;go_wp2
  change bodyPost _ _ _ _ _ (lM W2 w.heap.size 0 [.bool false,.bool false,.bool false,.int .i64 0,.bool false,.int .u16 0,.bool false,.int .u32 0,.bool false,.int .u32 0,.slice none 0 0,.slice none 0 0,.slice none 0 0,.slice none 0 0,.bool false])
  obtain⟨hz1,hz2,_⟩:=wI (w:=w) (g:=w.heap.size) (aS _) [.bool false,.bool false,.bool false,.int .i64 0,.bool false,.int .u16 0,.bool false,.int .u32 0,.bool false,.int .u32 0,.slice none 0 0,.slice none 0 0,.slice none 0 0,.slice none 0 0,.bool false] 0 W2 zeroCells h2 Xf;generalize lM W2 w.heap.size 0 [.bool false,.bool false,.bool false,.int .i64 0,.bool false,.int .u16 0,.bool false,.int .u32 0,.bool false,.int .u32 0,.slice none 0 0,.slice none 0 0,.slice none 0 0,.slice none 0 0,.bool false]=Wz at hz1 hz2 |-;refine fD (nX (cs:=zeroCells) rfl _ Wz w.heap.size 29 (0,0) _ rfl hz1 underlying29 rfl (by kernel_rfl) _ rfl) rfl ?_;exact⟨_,rfl,Dc _ _,hz2⟩
 |some ws=>
  obtain rfl:0=E:=by rw[<-hE,hw];rfl
  rw[hw,F8]at hws;have akI:=hws W2.heap.size W2.heap.size (aS _) (aS _);obtain⟨av,cap,rfl,hcap,hmax,hcells⟩:=id akI;obtain⟨R0,hR0⟩:∃R0,iter rG ws.length Pl.zero ws=R0:=⟨_,rfl⟩;obtain⟨j1,j2,j3⟩:=auA hw;obtain⟨l1,l2⟩:=afy j3;rw[j1]at l1 l2;have hRR:R=R0.bind fun p=>if fM p/\nQ p=s then some p else none:=by rw[<-hR,asA h0 hw,hR0]
  have b3:Below W2.heap.size W2 ((W2.alloc (.cells #[.slice av ws.length cap,.bool false] 133)).alloc (.cells zeroCells 29)):=iL (iL (eD _ W2) (aS _) _) (by simp) _;have r3:gL ((W2.alloc (.cells #[.slice av ws.length cap,.bool false] 133)).alloc (.cells zeroCells 29)) W2.heap.size (.slice av ws.length cap) false:=(iT _ _ _ (by simp)).trans (alloc_at W2 _);have p3:kJ ((W2.alloc (.cells #[.slice av ws.length cap,.bool false] 133)).alloc (.cells zeroCells 29)) W2.heap.size (W2.heap.size+1) W2.heap.size Pl.zero:=avG _ _ _ _ (by omega) (aS _) (by omega) (by have:=alloc_at (W2.alloc (.cells #[.slice av ws.length cap,.bool false] 133)) (.cells zeroCells 29);simpa using this);have w3:jI ((W2.alloc (.cells #[.slice av ws.length cap,.bool false] 133)).alloc (.cells zeroCells 29)) W2.heap.size W2.heap.size (.slice av ws.length cap) ws:=akI.pI fun k hk _=>b3.block k hk;have kl:∀g,wC prog g->g<W2.heap.size:=fun g hg=>k2.lt hg;clear hcells hws;go_wp2
  go_loopw [] (fun wr=>∃(p:Pl) (sv:Value) (b:Bool) (vs:eZ),kJ wr W2.heap.size (W2.heap.size+1) W2.heap.size p/\gL wr W2.heap.size sv b/\jI wr W2.heap.size W2.heap.size sv vs/\Below W2.heap.size W2 wr/\fO p/\lens p+vs.length<=ws.length/\(∀x∈vs,x∈ws)/\(b=true->R0=none)/\(b=false->∃k,vs.length<=k/\iter rG k p vs=R0)) (fun wr=>VI wr W2.heap.size)
  case atStart=>exact⟨_,_,_,ws,p3,r3,w3,b3,by decide,by simp[lens,Pl.zero],fun x hx=>hx,(fun h=>by cases h),fun _=>⟨_,aS _,hR0⟩⟩
  case round=>
   obtain⟨p,sv,b,vs,hp,hr,hv,hb,hn,hl,hm,hbt,hbf⟩:=hrel;obtain⟨a',cap',rfl,_⟩:=id hv;have c0:=hr.cell0;have c1:=hr.cell1;have hrd:=ayW hp;have hbw:Below w.heap.size w wr:=Xf.trans ⟨hb.os,hb.tape,hb.output,hb.size,fun j hj=>hb.block j (by omega)⟩;have tZ:wr.heap[w.heap.size]?=some (.cells zeroCells 29 (0,0)):=(hb.block _ (by omega)).trans h2;have kr:KW prog wr:=aX.keep fun g hg=>hbw.block g (aX.lt hg);obtain⟨d0,d1,d2,d3,d4,d5,d6,d7,d8,d9,d10,d11,d12,d13,d14⟩:=Na tZ;have fz:=fun j=>iY tZ j;cases b with
   |true=>
    obtain rfl:=hbt rfl;obtain rfl:R=none:=hRR;cases vs with
    |nil=>
     go_wp2
     change bodyPost _ _ _ _ _ (lM wr w.heap.size 0 [.bool false,.bool false,.bool false,.int .i64 0,.bool false,.int .u16 0,.bool false,.int .u32 0,.bool false,.int .u32 0,.slice none 0 0,.slice none 0 0,.slice none 0 0,.slice none 0 0,.bool false])
     obtain⟨hz1,hz2,_⟩:=wI (w:=w) (g:=w.heap.size) (aS _) [.bool false,.bool false,.bool false,.int .i64 0,.bool false,.int .u16 0,.bool false,.int .u32 0,.bool false,.int .u32 0,.slice none 0 0,.slice none 0 0,.slice none 0 0,.slice none 0 0,.bool false] 0 wr zeroCells tZ hbw;generalize lM wr w.heap.size 0 [.bool false,.bool false,.bool false,.int .i64 0,.bool false,.int .u16 0,.bool false,.int .u32 0,.bool false,.int .u32 0,.slice none 0 0,.slice none 0 0,.slice none 0 0,.slice none 0 0,.bool false]=Wz at hz1 hz2 |-;refine fD (nX (cs:=zeroCells) rfl _ Wz w.heap.size 29 (0,0) _ rfl hz1 underlying29 rfl (by kernel_rfl) _ rfl) rfl ?_;exact⟨_,rfl,Dc _ _,hz2⟩
    |cons v0 vs=>
     have tlt:(0:Int)<((v0::vs).length:Nat):=by simp<;>omega
     go_wp2
     change bodyPost _ _ _ _ _ (lM wr w.heap.size 0 [.bool false,.bool false,.bool false,.int .i64 0,.bool false,.int .u16 0,.bool false,.int .u32 0,.bool false,.int .u32 0,.slice none 0 0,.slice none 0 0,.slice none 0 0,.slice none 0 0,.bool false])
     obtain⟨hz1,hz2,_⟩:=wI (w:=w) (g:=w.heap.size) (aS _) [.bool false,.bool false,.bool false,.int .i64 0,.bool false,.int .u16 0,.bool false,.int .u32 0,.bool false,.int .u32 0,.slice none 0 0,.slice none 0 0,.slice none 0 0,.slice none 0 0,.bool false] 0 wr zeroCells tZ hbw;generalize lM wr w.heap.size 0 [.bool false,.bool false,.bool false,.int .i64 0,.bool false,.int .u16 0,.bool false,.int .u32 0,.bool false,.int .u32 0,.slice none 0 0,.slice none 0 0,.slice none 0 0,.slice none 0 0,.bool false]=Wz at hz1 hz2 |-;refine fD (nX (cs:=zeroCells) rfl _ Wz w.heap.size 29 (0,0) _ rfl hz1 underlying29 rfl (by kernel_rfl) _ rfl) rfl ?_;exact⟨_,rfl,Dc _ _,hz2⟩
   |false=>
    obtain⟨k,hk1,hk2⟩:=hbf rfl;cases vs with
    |nil=>
     obtain rfl:some p=R0:=by rw[<-hk2,agJ]
     obtain⟨_,_,_,_,hpl,FR,⟨am,lm,cm,rfl⟩,⟨ao,lo',co,rfl⟩,⟨ad,ld,cd,rfl⟩,⟨aa,la,ca,rfl⟩⟩:=hrd;obtain⟨q0,q1,q2,q3,q4,q5,q6,q7,q8,q9,q10,q11,q12,q13,q14⟩:=R8 hpl;have hf:lJ p:=by unfold lens at hl;unfold lJ;omega
     have pc:=au2 (lo:=W2.heap.size) (pb:=W2.heap.size+1) (rb:=W2.heap.size) kr hf hn FR;by_cases hpr:fM p
     .rw[aC hpr,aC hpr]at pc;by_cases hps:nQ p=s
      .obtain rfl:R=some p:=hRR.trans (aC ⟨hpr,hps⟩);have hne:(!(nQ p==s))=false:=by rw[hps];simp
       go_wp2_with (go_at_call 20;refine pc.mono ?_)
       first|(rintro e W5 rfl b5)|(rintro e W5 ⟨rfl,b5⟩)
       have LY:Below w.heap.size w W5:=hbw.trans ⟨b5.os,b5.tape,b5.output,b5.size,fun j hj=>b5.block j (by have:=hbw.size;omega)⟩;have wP:W5.heap[w.heap.size]?=some (.cells zeroCells 29 (0,0)):=(b5.block _ (by have:=hb.size;omega)).trans tZ;have DT:W5.heap[W2.heap.size+1]?=some (.cells (j5 p (.slice am lm cm) (.slice ao lo' co) (.slice ad ld cd) (.slice aa la ca)) 29 (0,0)):=(b5.block _ (kH hpl)).trans hpl;have IJ:Rd W5 (fun b=>W2.heap.size<=b) ig (j5 p (.slice am lm cm) (.slice ao lo' co) (.slice ad ld cd) (.slice aa la ca)).toList (iC p):=FR.mono b5.size fun b hb hlt=>⟨b5.block b hlt,hb⟩;clear d0 d1 d2 d3 d4 d5 d6 d7 d8 d9 d10 d11 d12 d13 d14 q0 q1 q2 q3 q4 q5 q6 q7 q8 q9 q10 q11 q12 q13 q14 fz;have hrg:W5.rangeAt (W2.heap.size+1) 0 (j5 p (.slice am lm cm) (.slice ao lo' co) (.slice ad ld cd) (.slice aa la ca)).toList:=fun j v hv=>by
        rw[kD,fA DT,<-hv,Array.getElem?_toList]
       have hth:W5.there w.heap.size 0 (j5 p (.slice am lm cm) (.slice ao lo' co) (.slice ad ld cd) (.slice aa la ca)).size:=fun j hj=>by
        rw[kD,fA wP];exact⟨by rw[Mf (show j<zeroCells.size from hj)];rfl,iY wP j⟩
       have kp:Keep _:=⟨IJ⟩;have kb:Keep _:=⟨hb⟩;have ks:Keep _:=⟨sz2⟩;have kx:Keep _:=⟨wP⟩;have kg:Keep _:=⟨hrg⟩;have kt:Keep _:=⟨hth⟩;have hst:=run_storeCells_cells (P:=prog) w.heap.size 0 (j5 p (.slice am lm cm) (.slice ao lo' co) (.slice ad ld cd) (.slice aa la ca)).toList 0 W5 (fun j hj=>by simpa using(hth j (by simpa using hj)).1) (fun j hj=>by simpa using(hth j (by simpa using hj)).2) (fun v hv=>azQ v (by simpa using hv));simp only[qE]at hst;have kst:Keep _:=⟨hst⟩;clear hst IJ FR hpl DT hbf hk1 hk2 hp hn hl hm hf hr hv hRR hrg hth wP;simp only[];go_wp2_with (first|refine wpList_load_mid rfl 29 (.tmp 7) rfl (W2.heap.size+1) 0 rfl (j5 p (.slice am lm cm) (.slice ao lo' co) (.slice ad ld cd) (.slice aa la ca)).toList _ kg.get underlying29 rfl (show(prog.info? 29).map (·.size)=some 15 by kernel_rfl) ?_)
       rw[kst.get];go_wp2
       obtain⟨hz1,hz2,hz3,AJ⟩:=wI (w:=w) (g:=w.heap.size) (aS _) (j5 p (.slice am lm cm) (.slice ao lo' co) (.slice ad ld cd) (.slice aa la ca)).toList 0 W5 zeroCells kx.get LY;rw[ahq]at hz1 hz2 hz3 AJ;rw[ayM]at hz1;generalize W5.setCells w.heap.size 0 (j5 p (.slice am lm cm) (.slice ao lo' co) (.slice ad ld cd) (.slice aa la ca)).toList=Wz at hz1 hz2 hz3 AJ |-;refine fD (nX (cs:=j5 p (.slice am lm cm) (.slice ao lo' co) (.slice ad ld cd) (.slice aa la ca)) rfl _ Wz w.heap.size 29 (0,0) _ rfl hz1 underlying29 rfl (by kernel_rfl) _ rfl) rfl ?_;exact⟨_,rfl,(kp.get.mono (by rw[AJ];exact aS _) fun b hb hlt=>⟨hz3 b (by omega),by omega⟩),hz2⟩
      .obtain rfl:R=none:=hRR.trans (zq fun h=>hps h.2);have hne:(!(nQ p==s))=true:=by simpa using hps
       go_wp2_with (go_at_call 20;refine pc.mono ?_)
       first|(rintro e W5 rfl b5)|(rintro e W5 ⟨rfl,b5⟩)
       have LY:Below w.heap.size w W5:=hbw.trans ⟨b5.os,b5.tape,b5.output,b5.size,fun j hj=>b5.block j (by have:=hbw.size;omega)⟩;have wP:W5.heap[w.heap.size]?=some (.cells zeroCells 29 (0,0)):=(b5.block _ (by have:=hb.size;omega)).trans tZ;have DT:W5.heap[W2.heap.size+1]?=some (.cells (j5 p (.slice am lm cm) (.slice ao lo' co) (.slice ad ld cd) (.slice aa la ca)) 29 (0,0)):=(b5.block _ (kH hpl)).trans hpl;have IJ:Rd W5 (fun b=>W2.heap.size<=b) ig (j5 p (.slice am lm cm) (.slice ao lo' co) (.slice ad ld cd) (.slice aa la ca)).toList (iC p):=FR.mono b5.size fun b hb hlt=>⟨b5.block b hlt,hb⟩;clear d0 d1 d2 d3 d4 d5 d6 d7 d8 d9 d10 d11 d12 d13 d14 q0 q1 q2 q3 q4 q5 q6 q7 q8 q9 q10 q11 q12 q13 q14 fz;obtain⟨d0,d1,d2,d3,d4,d5,d6,d7,d8,d9,d10,d11,d12,d13,d14⟩:=Na wP;have fz:=fun j=>iY wP j;obtain⟨q0,q1,q2,q3,q4,q5,q6,q7,q8,q9,q10,q11,q12,q13,q14⟩:=R8 DT;clear IJ FR hpl DT q0 q1 q2 q3 q4 q5 q6 q7 q8 q9 q10 q11 q12 q13 q14 hbf hk1 hk2 hp hn hl hm hb hf hr hv hRR;simp only[];go_wp2
       change bodyPost _ _ _ _ _ (lM W5 w.heap.size 0 [.bool false,.bool false,.bool false,.int .i64 0,.bool false,.int .u16 0,.bool false,.int .u32 0,.bool false,.int .u32 0,.slice none 0 0,.slice none 0 0,.slice none 0 0,.slice none 0 0,.bool false])
       obtain⟨hz1,hz2,hz3,AJ⟩:=wI (w:=w) (g:=w.heap.size) (aS _) [.bool false,.bool false,.bool false,.int .i64 0,.bool false,.int .u16 0,.bool false,.int .u32 0,.bool false,.int .u32 0,.slice none 0 0,.slice none 0 0,.slice none 0 0,.slice none 0 0,.bool false] 0 W5 zeroCells wP LY;generalize lM W5 w.heap.size 0 [.bool false,.bool false,.bool false,.int .i64 0,.bool false,.int .u16 0,.bool false,.int .u32 0,.bool false,.int .u32 0,.slice none 0 0,.slice none 0 0,.slice none 0 0,.slice none 0 0,.bool false]=Wz at hz1 hz2 hz3 AJ |-;refine fD (nX (cs:=zeroCells) rfl _ Wz w.heap.size 29 (0,0) _ rfl hz1 underlying29 rfl (by kernel_rfl) _ rfl) rfl ?_;exact⟨_,rfl,Dc _ _,hz2⟩
     rw[zq hpr,zq hpr]at pc;obtain rfl:R=none:=hRR.trans (zq fun h=>hpr h.1);go_wp2_with (go_at_call 20;refine pc.mono ?_)
     first|(rintro e W5 rfl b5)|(rintro e W5 ⟨rfl,b5⟩)
     have LY:Below w.heap.size w W5:=hbw.trans ⟨b5.os,b5.tape,b5.output,b5.size,fun j hj=>b5.block j (by have:=hbw.size;omega)⟩;have wP:W5.heap[w.heap.size]?=some (.cells zeroCells 29 (0,0)):=(b5.block _ (by have:=hb.size;omega)).trans tZ;have DT:W5.heap[W2.heap.size+1]?=some (.cells (j5 p (.slice am lm cm) (.slice ao lo' co) (.slice ad ld cd) (.slice aa la ca)) 29 (0,0)):=(b5.block _ (kH hpl)).trans hpl;have IJ:Rd W5 (fun b=>W2.heap.size<=b) ig (j5 p (.slice am lm cm) (.slice ao lo' co) (.slice ad ld cd) (.slice aa la ca)).toList (iC p):=FR.mono b5.size fun b hb hlt=>⟨b5.block b hlt,hb⟩;clear d0 d1 d2 d3 d4 d5 d6 d7 d8 d9 d10 d11 d12 d13 d14 q0 q1 q2 q3 q4 q5 q6 q7 q8 q9 q10 q11 q12 q13 q14 fz;obtain⟨d0,d1,d2,d3,d4,d5,d6,d7,d8,d9,d10,d11,d12,d13,d14⟩:=Na wP;have fz:=fun j=>iY wP j;obtain⟨q0,q1,q2,q3,q4,q5,q6,q7,q8,q9,q10,q11,q12,q13,q14⟩:=R8 DT;clear IJ FR hpl DT q0 q1 q2 q3 q4 q5 q6 q7 q8 q9 q10 q11 q12 q13 q14 hbf hk1 hk2 hp hn hl hm hb hf hr hv hRR;simp only[];go_wp2
     change bodyPost _ _ _ _ _ (lM W5 w.heap.size 0 [.bool false,.bool false,.bool false,.int .i64 0,.bool false,.int .u16 0,.bool false,.int .u32 0,.bool false,.int .u32 0,.slice none 0 0,.slice none 0 0,.slice none 0 0,.slice none 0 0,.bool false])
     obtain⟨hz1,hz2,hz3,AJ⟩:=wI (w:=w) (g:=w.heap.size) (aS _) [.bool false,.bool false,.bool false,.int .i64 0,.bool false,.int .u16 0,.bool false,.int .u32 0,.bool false,.int .u32 0,.slice none 0 0,.slice none 0 0,.slice none 0 0,.slice none 0 0,.bool false] 0 W5 zeroCells wP LY;generalize lM W5 w.heap.size 0 [.bool false,.bool false,.bool false,.int .i64 0,.bool false,.int .u16 0,.bool false,.int .u32 0,.bool false,.int .u32 0,.slice none 0 0,.slice none 0 0,.slice none 0 0,.slice none 0 0,.bool false]=Wz at hz1 hz2 hz3 AJ |-;refine fD (nX (cs:=zeroCells) rfl _ Wz w.heap.size 29 (0,0) _ rfl hz1 underlying29 rfl (by kernel_rfl) _ rfl) rfl ?_;exact⟨_,rfl,Dc _ _,hz2⟩
    |cons v0 vs=>
     have tlt:(0:Int)<((v0::vs).length:Nat):=by simp<;>omega
     have gl:=axS p (v0::vs) false (by simp);have gn:=ahJ p (v0::vs) false hn;have gm:=azs p (v0::vs) false;have hlen:∀x∈v0::vs,x.length<=1000000:=fun x hx=>by have:=l2 x (hm x hx);omega
     have hla:=agF hr hv;have gw:=avm wr kr W2.heap.size (W2.heap.size+1) W2.heap.size hb.size kl p _ false (v0::vs) hlen hp hr hv (by unfold lens at hl;omega) _ rfl;go_wp2_with (go_at_call 50;refine gw.mono ?_)
     rintro e W4 rfl p4 sv4 r4 w4 b4;simp only[];go_wp2
     obtain⟨k',rfl⟩:∃k',k=k'+1:=⟨k-1,by simp only[bR]at hk1;omega⟩;have htl:(lS p (v0::vs) false).2.1.length<(v0::vs).length:=by
      rcases agL p (v0::vs) false with h|h|h<;>rw[h]<;>simp only[List.length_tail,bR]<;>omega
     refine⟨⟨_,_,_,_,p4,r4,w4,hb.trans b4,gn,by omega,fun x hx=>hm x (gm x hx),fun hc=>?_,fun hc=>⟨k',?_,?_⟩⟩,?_⟩
     .rw[<-hk2];refine awC (by simp) ?_;unfold rG;rw[aC hc]
     .simp only[bR]at hk1 htl;omega
     .rw[<-hk2];refine(afz (by simp) ?_).symm;unfold rG;rw[hc];rfl
     rw[agF r4 w4,hla];exact htl
end Go.Vc
