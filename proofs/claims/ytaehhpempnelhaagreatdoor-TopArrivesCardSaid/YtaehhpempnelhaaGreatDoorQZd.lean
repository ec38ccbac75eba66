/-
  The walk of Parse.
-/
import Derived.Test.YtaehhpempnelhaaGreatDoorQTx3
import Derived.Test.YtaehhpempnelhaaGreatDoorQZb0
import Derived.Deep.MidRow
set_option maxRecDepth 100000
namespace Go.Vc
open Go Go.Proofs Go.RowKit Go.Plain
structure Keep (P:Prop):Prop where
 get:P
theorem apz{p:Pl}{am ao ad aa:Option Addr}{lm cm lo co ld cd la ca:Nat}(v:Value)(h:v∈iw p (.slice am lm cm) (.slice ao lo co) (.slice ad ld cd) (.slice aa la ca)):v.oneCell'=true:=by
 simp only[iw,List.mem_toArray,iH,List.not_mem_nil,or_false] at h;rcases h with rfl|rfl|rfl|rfl|rfl|rfl|rfl|rfl|rfl|rfl|rfl|rfl|rfl|rfl|rfl<;>rfl
def Pf(W:World)(rb:Nat):Nat:=match W.cell? ⟨rb,0,none⟩ with|some (.slice _ n _)=>n|_=>0
theorem aaj{W:World}{lo rb:Nat}{sv:Value}{wr:Bool}{ws:fO}(h:dX W rb sv wr)(hw:gT W lo rb sv ws):Pf W rb=ws.length:=by
 obtain ⟨a,cap,rfl,_⟩:=hw;unfold Pf;rw[h.cell0]
theorem aoF{W:World}{g:Nat}{cs:Array Value}{t:TypeId}{fz:Nat×Nat}(h:W.heap[g]?=some (.cells cs t fz))(i:Nat)(v:Value):(W.setCell ⟨g,i,none⟩ v).heap[g]?=some (.cells (cs.set! i v) t fz):=by
 simp[World.setCell,Array.getElem?_modify,h]
theorem G9{W:World}{g:Nat}(h:W.heap[g]?=some (.cells zeroCells 29 (0,0))):
  W.cell? ⟨g,0,none⟩=some (.bool false)/\W.cell? ⟨g,1,none⟩=some (.bool false)/\W.cell? ⟨g,2,none⟩=some (.bool false)/\W.cell? ⟨g,3,none⟩=some (.int .i64 0)/\W.cell? ⟨g,4,none⟩=some (.bool false)/\W.cell? ⟨g,5,none⟩=some (.int .u16 0)/\W.cell? ⟨g,6,none⟩=some (.bool false)/\W.cell? ⟨g,7,none⟩=some (.int .u32 0)/\W.cell? ⟨g,8,none⟩=some (.bool false)/\W.cell? ⟨g,9,none⟩=some (.int .u32 0)/\W.cell? ⟨g,10,none⟩=some (.slice none 0 0)/\W.cell? ⟨g,11,none⟩=some (.slice none 0 0)/\W.cell? ⟨g,12,none⟩=some (.slice none 0 0)/\W.cell? ⟨g,13,none⟩=some (.slice none 0 0)/\W.cell? ⟨g,14,none⟩=some (.bool false):=by
 simp only[Lib.cell_of_heap h];exact ⟨rfl,rfl,rfl,rfl,rfl,rfl,rfl,rfl,rfl,rfl,rfl,rfl,rfl,rfl,rfl⟩
def lJ(W:World)(g:Nat):Nat->List Value->World
 |_,[]=>W
 |i,v::l=>lJ (W.setCell ⟨g,i,none⟩ v) g (i+1) l
def JR(cs:Array Value):Nat->List Value->Array Value
 |_,[]=>cs
 |i,v::l=>JR (cs.set! i v) (i+1) l
theorem aaY(g:Nat):∀(l:List Value) (i:Nat) (W:World),lJ W g i l=W.setCells g i l
 | [],_,_=>rfl
 |v::l,i,W=>aaY g l (i+1) _
theorem aoG(p:Pl)(a b c d:Value):JR zeroCells 0 (iw p a b c d).toList=iw p a b c d:=by
 simp[JR,iw,zeroCells,Pl.zero]
theorem xG{w:World}{g:Nat}{t:TypeId}{fz:Nat×Nat}(hg:w.heap.size<=g):∀(l:List Value) (i:Nat) (W:World) (cs:Array Value),W.heap[g]?=some (.cells cs t fz)->Below w.heap.size w W->
  (lJ W g i l).heap[g]?=some (.cells (JR cs i l) t fz)/\Below w.heap.size w (lJ W g i l)/\(∀k,k≠g->(lJ W g i l).heap[k]?=W.heap[k]?)/\(lJ W g i l).heap.size=W.heap.size
 | [],i,W,cs,h,hb=>⟨h,hb,fun _ _=>rfl,rfl⟩
 |v::l,i,W,cs,h,hb=>by
  obtain ⟨h1,h2,h3,h4⟩:=xG hg l (i+1) (W.setCell ⟨g,i,none⟩ v) (cs.set! i v) (aoF h i v) (nO hb hg i v);refine ⟨h1,h2,fun k hk=>(h3 k hk).trans (Below.heap_setCell _ _ _ _ (by simpa using hk)),?_⟩;unfold lJ;rw[h4];simp[World.setCell]
theorem Me{W:World}{g:Nat}{p:Pl}{vm vo vd va:Value}(h:W.heap[g]?=some (.cells (iw p vm vo vd va) 29 (0,0))):
  W.cell? ⟨g,0,none⟩=some (.bool p.sm)/\W.cell? ⟨g,1,none⟩=some (.bool p.m)/\W.cell? ⟨g,2,none⟩=some (.bool p.st)/\W.cell? ⟨g,3,none⟩=some (.int .i64 p.ty)/\W.cell? ⟨g,4,none⟩=some (.bool p.sq)/\W.cell? ⟨g,5,none⟩=some (.int .u16 p.seq)/\W.cell? ⟨g,6,none⟩=some (.bool p.bL)/\W.cell? ⟨g,7,none⟩=some (.int .u32 p.time)/\W.cell? ⟨g,8,none⟩=some (.bool p.ss)/\W.cell? ⟨g,9,none⟩=some (.int .u32 p.aN)/\W.cell? ⟨g,10,none⟩=some (vm)/\W.cell? ⟨g,11,none⟩=some (vo)/\W.cell? ⟨g,12,none⟩=some (vd)/\W.cell? ⟨g,13,none⟩=some (va)/\W.cell? ⟨g,14,none⟩=some (.bool p.np):=by
 simp only[Lib.cell_of_heap h];exact ⟨rfl,rfl,rfl,rfl,rfl,rfl,rfl,rfl,rfl,rfl,rfl,rfl,rfl,rfl,rfl⟩
set_option maxHeartbeats 8000000 in
theorem alv(w:World)(aL:KW Tryz.prog w)(s:List UInt8)(hs:s.length<=1000000)(R:Option Pl)(hR:xD vT s=R):
  Calls Tryz.prog 18 #[.string ⟨s.toArray⟩] w fun e W'=>∃cs:Array Value,e= .returned (.tuple #[.agg cs,.int .i64 (if R.isSome then 0 else 6)])/\Rd W' (fun b=>w.heap.size<=b) eu cs.toList (eD (R.getD Pl.zero))/\Below w.heap.size w W':=by
 by_cases h0:s=[]
 .subst h0;obtain rfl:some Pl.zero=R:=hR;have hb:=Below.alloc (Below.refl w.heap.size w) (aI _) (.cells zeroCells 29);go_enter Tryz.func18,Tryz.ntmps18
  go_wp2
  refine bodyPost_ret (wR (cs:=zeroCells) rfl _ (w.alloc (.cells zeroCells 29)) w.heap.size 29 (0,0) _ rfl (alloc_at w _) Tryz.underlying29 rfl (by kernel_rfl) _ rfl) rfl ?_;exact ⟨_,rfl,vw _ _,hb⟩
 .have e0:(s==[])=false:=by rw[oI];exact decide_eq_false h0
  have kA:KW Tryz.prog (w.alloc (.cells zeroCells 29)):=aL.keep fun g hg=>Lib.alloc_old w _ g (aL.lt hg);have bA:=Below.alloc (Below.refl w.heap.size w) (aI _) (.cells zeroCells 29);have hA:(w.alloc (.cells zeroCells 29)).heap[w.heap.size]?=some (.cells zeroCells 29 (0,0)):=alloc_at w _;have sA:(w.alloc (.cells zeroCells 29)).heap.size=w.heap.size+1:=by simp
  obtain ⟨E,hE⟩:∃E,Kk (mH s)=E:=⟨_,rfl⟩;have wc:=ak4 s hs _ kA;rw[hE] at wc;go_enter Tryz.func18,Tryz.ntmps18
  go_wp2_with (go_at_call 49;refine wc.mono ?_)
  first|(rintro e W2 rfl sv hws b2)|(rintro e W2 sv rfl hws b2)|(rintro e W2 ⟨sv,rfl,hws,b2⟩)
  clear wc;have sz2:=b2.size;rw[sA] at sz2;have h2:W2.heap[w.heap.size]?=some (.cells zeroCells 29 (0,0)):=(b2.block _ (by rw[sA];omega)).trans hA;have Qq:Below w.heap.size w W2:=bA.trans ⟨b2.os,b2.tape,b2.output,b2.size,fun j hj=>b2.block j (by rw[sA];omega)⟩;have k2:KW Tryz.prog W2:=aL.keep fun g hg=>Qq.block g (aL.lt hg);cases hw:mH s with
  |none=>
   obtain rfl:6=E:=by rw[<-hE,hw];rfl
   obtain rfl:none=R:=by rw[<-hR];unfold xD;rw[if_neg h0,hw]
   obtain ⟨c0,c1,c2,c3,c4,c5,c6,c7,c8,c9,c10,c11,c12,c13,c14⟩:=G9 h2;have fz:=fun j=>Lib.frozen_of_heap h2 j;go_wp2
   change bodyPost _ _ _ _ _ (lJ W2 w.heap.size 0 [.bool false,.bool false,.bool false,.int .i64 0,.bool false,.int .u16 0,.bool false,.int .u32 0,.bool false,.int .u32 0,.slice none 0 0,.slice none 0 0,.slice none 0 0,.slice none 0 0,.bool false])
   obtain ⟨hz1,hz2,_⟩:=xG (w:=w) (g:=w.heap.size) (aI _) [.bool false,.bool false,.bool false,.int .i64 0,.bool false,.int .u16 0,.bool false,.int .u32 0,.bool false,.int .u32 0,.slice none 0 0,.slice none 0 0,.slice none 0 0,.slice none 0 0,.bool false] 0 W2 zeroCells h2 Qq;generalize lJ W2 w.heap.size 0 [.bool false,.bool false,.bool false,.int .i64 0,.bool false,.int .u16 0,.bool false,.int .u32 0,.bool false,.int .u32 0,.slice none 0 0,.slice none 0 0,.slice none 0 0,.slice none 0 0,.bool false]=Wz at hz1 hz2 |-;refine bodyPost_ret (wR (cs:=zeroCells) rfl _ Wz w.heap.size 29 (0,0) _ rfl hz1 Tryz.underlying29 rfl (by kernel_rfl) _ rfl) rfl ?_;exact ⟨_,rfl,vw _ _,hz2⟩
  |some ws=>
   obtain rfl:0=E:=by rw[<-hE,hw];rfl
   rw[hw,yL] at hws;have ad3:=hws W2.heap.size W2.heap.size (aI _) (aI _);obtain ⟨av,cap,rfl,hcap,hmax,hcells⟩:=id ad3;obtain ⟨R0,hR0⟩:∃R0,iter vT ws.length Pl.zero ws=R0:=⟨_,rfl⟩;obtain ⟨j1,j2,j3⟩:=ak3 hw;obtain ⟨l1,l2⟩:=Zl j3;rw[j1] at l1 l2;have hRR:R=R0.bind fun p=>if fT p/\qI p=s then some p else none:=by rw[<-hR,ajR h0 hw,hR0]
   have b3:Below W2.heap.size W2 ((W2.alloc (.cells #[.slice av ws.length cap,.bool false] 133)).alloc (.cells zeroCells 29)):=Below.alloc (Below.alloc (Below.refl _ W2) (aI _) _) (by simp) _;have r3:dX ((W2.alloc (.cells #[.slice av ws.length cap,.bool false] 133)).alloc (.cells zeroCells 29)) W2.heap.size (.slice av ws.length cap) false:=(Lib.alloc_old _ _ _ (by simp)).trans (alloc_at W2 _);have p3:iT ((W2.alloc (.cells #[.slice av ws.length cap,.bool false] 133)).alloc (.cells zeroCells 29)) W2.heap.size (W2.heap.size+1) W2.heap.size Pl.zero:=alZ _ _ _ _ (by omega) (aI _) (by omega) (by have:=alloc_at (W2.alloc (.cells #[.slice av ws.length cap,.bool false] 133)) (.cells zeroCells 29);simpa using this);have w3:gT ((W2.alloc (.cells #[.slice av ws.length cap,.bool false] 133)).alloc (.cells zeroCells 29)) W2.heap.size W2.heap.size (.slice av ws.length cap) ws:=ad3.jv fun k hk _=>b3.block k hk;have kl:∀g,uW Tryz.prog g->g<W2.heap.size:=fun g hg=>k2.lt hg;clear hcells hws;go_wp2
   go_loopw [] (fun wr=>∃(p:Pl) (sv:Value) (b:Bool) (vs:fO),iT wr W2.heap.size (W2.heap.size+1) W2.heap.size p/\dX wr W2.heap.size sv b/\gT wr W2.heap.size W2.heap.size sv vs/\Below W2.heap.size W2 wr/\gH p/\lens p+vs.length<=ws.length/\(∀x∈vs,x∈ws)/\(b=true->R0=none)/\(b=false->∃k,vs.length<=k/\iter vT k p vs=R0)) (fun wr=>Pf wr W2.heap.size)
   case atStart=>exact ⟨_,_,_,ws,p3,r3,w3,b3,by decide,by simp[lens,Pl.zero],fun x hx=>hx,(fun h=>by cases h),fun _=>⟨_,aI _,hR0⟩⟩
   case round=>
    obtain ⟨p,sv,b,vs,hp,hr,hv,hb,hn,hl,hm,hbt,hbf⟩:=hrel;obtain ⟨a',cap',rfl,_⟩:=id hv;have c0:=hr.cell0;have c1:=hr.cell1;have hrd:=aoQ hp;have hbw:Below w.heap.size w wr:=Qq.trans ⟨hb.os,hb.tape,hb.output,hb.size,fun j hj=>hb.block j (by omega)⟩;have oC:wr.heap[w.heap.size]?=some (.cells zeroCells 29 (0,0)):=(hb.block _ (by omega)).trans h2;have kr:KW Tryz.prog wr:=aL.keep fun g hg=>hbw.block g (aL.lt hg);obtain ⟨d0,d1,d2,d3,d4,d5,d6,d7,d8,d9,d10,d11,d12,d13,d14⟩:=G9 oC;have fz:=fun j=>Lib.frozen_of_heap oC j;cases b with
    |true=>
     obtain rfl:=hbt rfl;obtain rfl:R=none:=hRR;cases vs with
     |nil=>
      go_wp2
      change bodyPost _ _ _ _ _ (lJ wr w.heap.size 0 [.bool false,.bool false,.bool false,.int .i64 0,.bool false,.int .u16 0,.bool false,.int .u32 0,.bool false,.int .u32 0,.slice none 0 0,.slice none 0 0,.slice none 0 0,.slice none 0 0,.bool false])
      obtain ⟨hz1,hz2,_⟩:=xG (w:=w) (g:=w.heap.size) (aI _) [.bool false,.bool false,.bool false,.int .i64 0,.bool false,.int .u16 0,.bool false,.int .u32 0,.bool false,.int .u32 0,.slice none 0 0,.slice none 0 0,.slice none 0 0,.slice none 0 0,.bool false] 0 wr zeroCells oC hbw;generalize lJ wr w.heap.size 0 [.bool false,.bool false,.bool false,.int .i64 0,.bool false,.int .u16 0,.bool false,.int .u32 0,.bool false,.int .u32 0,.slice none 0 0,.slice none 0 0,.slice none 0 0,.slice none 0 0,.bool false]=Wz at hz1 hz2 |-;refine bodyPost_ret (wR (cs:=zeroCells) rfl _ Wz w.heap.size 29 (0,0) _ rfl hz1 Tryz.underlying29 rfl (by kernel_rfl) _ rfl) rfl ?_;exact ⟨_,rfl,vw _ _,hz2⟩
     |cons v0 vs=>
      have tlt:(0:Int)<((v0::vs).length:Nat):=by simp<;>omega
      go_wp2
      change bodyPost _ _ _ _ _ (lJ wr w.heap.size 0 [.bool false,.bool false,.bool false,.int .i64 0,.bool false,.int .u16 0,.bool false,.int .u32 0,.bool false,.int .u32 0,.slice none 0 0,.slice none 0 0,.slice none 0 0,.slice none 0 0,.bool false])
      obtain ⟨hz1,hz2,_⟩:=xG (w:=w) (g:=w.heap.size) (aI _) [.bool false,.bool false,.bool false,.int .i64 0,.bool false,.int .u16 0,.bool false,.int .u32 0,.bool false,.int .u32 0,.slice none 0 0,.slice none 0 0,.slice none 0 0,.slice none 0 0,.bool false] 0 wr zeroCells oC hbw;generalize lJ wr w.heap.size 0 [.bool false,.bool false,.bool false,.int .i64 0,.bool false,.int .u16 0,.bool false,.int .u32 0,.bool false,.int .u32 0,.slice none 0 0,.slice none 0 0,.slice none 0 0,.slice none 0 0,.bool false]=Wz at hz1 hz2 |-;refine bodyPost_ret (wR (cs:=zeroCells) rfl _ Wz w.heap.size 29 (0,0) _ rfl hz1 Tryz.underlying29 rfl (by kernel_rfl) _ rfl) rfl ?_;exact ⟨_,rfl,vw _ _,hz2⟩
    |false=>
     obtain ⟨k,hk1,hk2⟩:=hbf rfl;cases vs with
     |nil=>
      obtain rfl:some p=R0:=by rw[<-hk2,anS]
      obtain ⟨_,_,_,_,hpl,Aw,⟨am,lm,cm,rfl⟩,⟨ao,lo',co,rfl⟩,⟨ad,ld,cd,rfl⟩,⟨aa,la,ca,rfl⟩⟩:=hrd;obtain ⟨q0,q1,q2,q3,q4,q5,q6,q7,q8,q9,q10,q11,q12,q13,q14⟩:=Me hpl;have hf:iE p:=by unfold lens at hl;unfold iE;omega
      have pc:=aln (lo:=W2.heap.size) (pb:=W2.heap.size+1) (rb:=W2.heap.size) kr hf hn Aw;by_cases hpr:fT p
      .rw[if_pos hpr,if_pos hpr] at pc;by_cases hps:qI p=s
       .obtain rfl:R=some p:=hRR.trans (if_pos ⟨hpr,hps⟩);have hne:(!(qI p==s))=false:=by rw[hps];simp
        go_wp2_with (go_at_call 20;refine pc.mono ?_)
        first|(rintro e W5 rfl b5)|(rintro e W5 ⟨rfl,b5⟩)
        have F3:Below w.heap.size w W5:=hbw.trans ⟨b5.os,b5.tape,b5.output,b5.size,fun j hj=>b5.block j (by have:=hbw.size;omega)⟩;have qP:W5.heap[w.heap.size]?=some (.cells zeroCells 29 (0,0)):=(b5.block _ (by have:=hb.size;omega)).trans oC;have yE:W5.heap[W2.heap.size+1]?=some (.cells (iw p (.slice am lm cm) (.slice ao lo' co) (.slice ad ld cd) (.slice aa la ca)) 29 (0,0)):=(b5.block _ (rY hpl)).trans hpl;have CJ:Rd W5 (fun b=>W2.heap.size<=b) eu (iw p (.slice am lm cm) (.slice ao lo' co) (.slice ad ld cd) (.slice aa la ca)).toList (eD p):=Aw.mono b5.size fun b hb hlt=>⟨b5.block b hlt,hb⟩;clear d0 d1 d2 d3 d4 d5 d6 d7 d8 d9 d10 d11 d12 d13 d14 q0 q1 q2 q3 q4 q5 q6 q7 q8 q9 q10 q11 q12 q13 q14 fz;have hrg:W5.rangeAt (W2.heap.size+1) 0 (iw p (.slice am lm cm) (.slice ao lo' co) (.slice ad ld cd) (.slice aa la ca)).toList:=fun j v hv=>by
         rw[iI,Lib.cell_of_heap yE,<-hv,Array.getElem?_toList]
        have hth:W5.there w.heap.size 0 (iw p (.slice am lm cm) (.slice ao lo' co) (.slice ad ld cd) (.slice aa la ca)).size:=fun j hj=>by
         rw[iI,Lib.cell_of_heap qP];exact ⟨by rw[Gc (show j<zeroCells.size from hj)];rfl,Lib.frozen_of_heap qP j⟩
        have kp:Keep _:=⟨CJ⟩;have kb:Keep _:=⟨hb⟩;have ks:Keep _:=⟨sz2⟩;have kx:Keep _:=⟨qP⟩;have kg:Keep _:=⟨hrg⟩;have kt:Keep _:=⟨hth⟩;have hst:=run_storeCells_cells (P:=Tryz.prog) w.heap.size 0 (iw p (.slice am lm cm) (.slice ao lo' co) (.slice ad ld cd) (.slice aa la ca)).toList 0 W5 (fun j hj=>by simpa using (hth j (by simpa using hj)).1) (fun j hj=>by simpa using (hth j (by simpa using hj)).2) (fun v hv=>apz v (by simpa using hv));simp only[Nat.add_zero] at hst;have kst:Keep _:=⟨hst⟩;clear hst CJ Aw hpl yE hbf hk1 hk2 hp hn hl hm hf hr hv hRR hrg hth qP;simp only[];go_wp2_with (first|refine wpList_load_mid rfl 29 (.tmp 7) rfl (W2.heap.size+1) 0 rfl (iw p (.slice am lm cm) (.slice ao lo' co) (.slice ad ld cd) (.slice aa la ca)).toList _ kg.get Tryz.underlying29 rfl (show (Tryz.prog.info? 29).map (·.size)=some 15 by kernel_rfl) ?_)
        rw[kst.get];go_wp2
        obtain ⟨hz1,hz2,hz3,yT⟩:=xG (w:=w) (g:=w.heap.size) (aI _) (iw p (.slice am lm cm) (.slice ao lo' co) (.slice ad ld cd) (.slice aa la ca)).toList 0 W5 zeroCells kx.get F3;rw[aaY] at hz1 hz2 hz3 yT;rw[aoG] at hz1;generalize W5.setCells w.heap.size 0 (iw p (.slice am lm cm) (.slice ao lo' co) (.slice ad ld cd) (.slice aa la ca)).toList=Wz at hz1 hz2 hz3 yT |-;refine bodyPost_ret (wR (cs:=iw p (.slice am lm cm) (.slice ao lo' co) (.slice ad ld cd) (.slice aa la ca)) rfl _ Wz w.heap.size 29 (0,0) _ rfl hz1 Tryz.underlying29 rfl (by kernel_rfl) _ rfl) rfl ?_;exact ⟨_,rfl,(kp.get.mono (by rw[yT];exact aI _) fun b hb hlt=>⟨hz3 b (by omega),by omega⟩),hz2⟩
       .obtain rfl:R=none:=hRR.trans (if_neg fun h=>hps h.2);have hne:(!(qI p==s))=true:=by simpa using hps
        go_wp2_with (go_at_call 20;refine pc.mono ?_)
        first|(rintro e W5 rfl b5)|(rintro e W5 ⟨rfl,b5⟩)
        have F3:Below w.heap.size w W5:=hbw.trans ⟨b5.os,b5.tape,b5.output,b5.size,fun j hj=>b5.block j (by have:=hbw.size;omega)⟩;have qP:W5.heap[w.heap.size]?=some (.cells zeroCells 29 (0,0)):=(b5.block _ (by have:=hb.size;omega)).trans oC;have yE:W5.heap[W2.heap.size+1]?=some (.cells (iw p (.slice am lm cm) (.slice ao lo' co) (.slice ad ld cd) (.slice aa la ca)) 29 (0,0)):=(b5.block _ (rY hpl)).trans hpl;have CJ:Rd W5 (fun b=>W2.heap.size<=b) eu (iw p (.slice am lm cm) (.slice ao lo' co) (.slice ad ld cd) (.slice aa la ca)).toList (eD p):=Aw.mono b5.size fun b hb hlt=>⟨b5.block b hlt,hb⟩;clear d0 d1 d2 d3 d4 d5 d6 d7 d8 d9 d10 d11 d12 d13 d14 q0 q1 q2 q3 q4 q5 q6 q7 q8 q9 q10 q11 q12 q13 q14 fz;obtain ⟨d0,d1,d2,d3,d4,d5,d6,d7,d8,d9,d10,d11,d12,d13,d14⟩:=G9 qP;have fz:=fun j=>Lib.frozen_of_heap qP j;obtain ⟨q0,q1,q2,q3,q4,q5,q6,q7,q8,q9,q10,q11,q12,q13,q14⟩:=Me yE;clear CJ Aw hpl yE q0 q1 q2 q3 q4 q5 q6 q7 q8 q9 q10 q11 q12 q13 q14 hbf hk1 hk2 hp hn hl hm hb hf hr hv hRR;simp only[];go_wp2
        change bodyPost _ _ _ _ _ (lJ W5 w.heap.size 0 [.bool false,.bool false,.bool false,.int .i64 0,.bool false,.int .u16 0,.bool false,.int .u32 0,.bool false,.int .u32 0,.slice none 0 0,.slice none 0 0,.slice none 0 0,.slice none 0 0,.bool false])
        obtain ⟨hz1,hz2,hz3,yT⟩:=xG (w:=w) (g:=w.heap.size) (aI _) [.bool false,.bool false,.bool false,.int .i64 0,.bool false,.int .u16 0,.bool false,.int .u32 0,.bool false,.int .u32 0,.slice none 0 0,.slice none 0 0,.slice none 0 0,.slice none 0 0,.bool false] 0 W5 zeroCells qP F3;generalize lJ W5 w.heap.size 0 [.bool false,.bool false,.bool false,.int .i64 0,.bool false,.int .u16 0,.bool false,.int .u32 0,.bool false,.int .u32 0,.slice none 0 0,.slice none 0 0,.slice none 0 0,.slice none 0 0,.bool false]=Wz at hz1 hz2 hz3 yT |-;refine bodyPost_ret (wR (cs:=zeroCells) rfl _ Wz w.heap.size 29 (0,0) _ rfl hz1 Tryz.underlying29 rfl (by kernel_rfl) _ rfl) rfl ?_;exact ⟨_,rfl,vw _ _,hz2⟩
      .rw[if_neg hpr,if_neg hpr] at pc;obtain rfl:R=none:=hRR.trans (if_neg fun h=>hpr h.1);go_wp2_with (go_at_call 20;refine pc.mono ?_)
       first|(rintro e W5 rfl b5)|(rintro e W5 ⟨rfl,b5⟩)
       have F3:Below w.heap.size w W5:=hbw.trans ⟨b5.os,b5.tape,b5.output,b5.size,fun j hj=>b5.block j (by have:=hbw.size;omega)⟩;have qP:W5.heap[w.heap.size]?=some (.cells zeroCells 29 (0,0)):=(b5.block _ (by have:=hb.size;omega)).trans oC;have yE:W5.heap[W2.heap.size+1]?=some (.cells (iw p (.slice am lm cm) (.slice ao lo' co) (.slice ad ld cd) (.slice aa la ca)) 29 (0,0)):=(b5.block _ (rY hpl)).trans hpl;have CJ:Rd W5 (fun b=>W2.heap.size<=b) eu (iw p (.slice am lm cm) (.slice ao lo' co) (.slice ad ld cd) (.slice aa la ca)).toList (eD p):=Aw.mono b5.size fun b hb hlt=>⟨b5.block b hlt,hb⟩;clear d0 d1 d2 d3 d4 d5 d6 d7 d8 d9 d10 d11 d12 d13 d14 q0 q1 q2 q3 q4 q5 q6 q7 q8 q9 q10 q11 q12 q13 q14 fz;obtain ⟨d0,d1,d2,d3,d4,d5,d6,d7,d8,d9,d10,d11,d12,d13,d14⟩:=G9 qP;have fz:=fun j=>Lib.frozen_of_heap qP j;obtain ⟨q0,q1,q2,q3,q4,q5,q6,q7,q8,q9,q10,q11,q12,q13,q14⟩:=Me yE;clear CJ Aw hpl yE q0 q1 q2 q3 q4 q5 q6 q7 q8 q9 q10 q11 q12 q13 q14 hbf hk1 hk2 hp hn hl hm hb hf hr hv hRR;simp only[];go_wp2
       change bodyPost _ _ _ _ _ (lJ W5 w.heap.size 0 [.bool false,.bool false,.bool false,.int .i64 0,.bool false,.int .u16 0,.bool false,.int .u32 0,.bool false,.int .u32 0,.slice none 0 0,.slice none 0 0,.slice none 0 0,.slice none 0 0,.bool false])
       obtain ⟨hz1,hz2,hz3,yT⟩:=xG (w:=w) (g:=w.heap.size) (aI _) [.bool false,.bool false,.bool false,.int .i64 0,.bool false,.int .u16 0,.bool false,.int .u32 0,.bool false,.int .u32 0,.slice none 0 0,.slice none 0 0,.slice none 0 0,.slice none 0 0,.bool false] 0 W5 zeroCells qP F3;generalize lJ W5 w.heap.size 0 [.bool false,.bool false,.bool false,.int .i64 0,.bool false,.int .u16 0,.bool false,.int .u32 0,.bool false,.int .u32 0,.slice none 0 0,.slice none 0 0,.slice none 0 0,.slice none 0 0,.bool false]=Wz at hz1 hz2 hz3 yT |-;refine bodyPost_ret (wR (cs:=zeroCells) rfl _ Wz w.heap.size 29 (0,0) _ rfl hz1 Tryz.underlying29 rfl (by kernel_rfl) _ rfl) rfl ?_;exact ⟨_,rfl,vw _ _,hz2⟩
     |cons v0 vs=>
      have tlt:(0:Int)<((v0::vs).length:Nat):=by simp<;>omega
      have gl:=anW p (v0::vs) false (by simp);have gn:=apg p (v0::vs) false hn;have gm:=aph p (v0::vs) false;have hlen:∀x∈v0::vs,x.length<=1000000:=fun x hx=>by have:=l2 x (hm x hx);omega
      have hla:=aaj hr hv;have gw:=alJ wr kr W2.heap.size (W2.heap.size+1) W2.heap.size hb.size kl p _ false (v0::vs) hlen hp hr hv (by unfold lens at hl;omega) _ rfl;go_wp2_with (go_at_call 50;refine gw.mono ?_)
      rintro e W4 rfl p4 sv4 r4 w4 b4;simp only[];go_wp2
      obtain ⟨k',rfl⟩:∃k',k=k'+1:=⟨k-1,by simp only[bn] at hk1;omega⟩;have htl:(nD p (v0::vs) false).2.1.length<(v0::vs).length:=by
       rcases aan p (v0::vs) false with h|h|h<;>rw[h]<;>simp only[List.length_tail,bn]<;>omega
      refine ⟨⟨_,_,_,_,p4,r4,w4,hb.trans b4,gn,by omega,fun x hx=>hm x (gm x hx),fun hc=>?_,fun hc=>⟨k',?_,?_⟩⟩,?_⟩
      .rw[<-hk2];refine amL (by simp) ?_;unfold vT;rw[if_pos hc]
      .simp only[bn] at hk1 htl;omega
      .rw[<-hk2];refine (amK (by simp) ?_).symm;unfold vT;rw[hc];rfl
      .rw[aaj r4 w4,hla];exact htl
end Go.Vc
