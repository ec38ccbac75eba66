/-
  The contracts of chunk.pack and chunk.next.
-/
import Derived.Test.YtaehhpempnelhaaGreatDoorQVcs1
import Derived.Test.YtaehhpempnelhaaGreatDoorQTx5
import Derived.Test.YtaehhpempnelhaaGreatDoorQBase3
set_option maxRecDepth 100000
namespace Go.Vc
open Go Go.Proofs Go.Plain Go.RowKit Go.Shelf
attribute [local go_sem 100000] run_min_int2
theorem Ec(l:List Nat)(i:Nat)(h:i<l.length):((l.map fun n:Nat=>C.int (n:Int))).getD i default=C.int ((l.getD i 0:Nat):Int):=by simp[List.getD,h]
theorem IK{l:List Nat}{i:Nat}(h:i<l.length):l.getD i 0∈l:=by simp[List.getD,h]
theorem ZQ(F B:Nat)(l:List Nat):∀k,fP F B l (l.length+k)=fP F B l l.length*B^k
 |0=>by simp
 |k+1=>by
  have:l.getD (l.length+k) 0=0:=by simp[List.getD]
  rw[<-oD,fP,ZQ F B l k,this,Nat.pow_succ,Nat.add_zero,Nat.mul_left_comm,Nat.mul_comm B]
theorem ajg(l:List Nat)(F B p w:Nat)(hB:B=2^w)(hw:1<=w/\w<=2)(hp:w*p=14)(hF:F<4)(hl:l.length<=p)(hx:∀x∈l,x<B):
  PC Tryz.prog WM [(.sl I64,Ns l),(U16,.int ((F*16384:Nat):Int)),(I64,.int p),(I64,.int w)] [(U16,.int (fP F B l p:Nat))]:=by
 apply ahZ rfl;simp only[UW,aH,aB,aA,ay,aC,forall_const];have asu:p<=14:=by
  have:=Nat.le_mul_of_pos_left p (show 0<w by omega);omega
 have Gq:∀k,B^k=2^(w*k):=fun k=>by rw[hB,Nat.pow_mul]
 have hg:∀i,l.getD i 0<B:=fun i=>by
  by_cases h:i<l.length
  .exact hx _ (IK h)
  .simp[List.getD,Nat.not_lt.1 h];rw[hB];exact Nat.two_pow_pos w
 refine VC.go_loop (fun i:Nat=> [.int ((fP F B l i*B^(p-i):Nat):Int),.int i]) (fun i=>i<=l.length) (fun i=>l.length-i) 0 ?_ (bK _) fun i hi=>?_
 .simp only[aB,aA,ay,aC,forall_const];rw[fP,Nat.sub_zero,Gq,hp];rfl
 .simp only[aH,aB,aA,ay,aC,forall_const,aT,bO];refine ⟨fun hc=>?_,fun hc=>?_⟩
  .have hlt:=hg i;have hv:=Nq F B l (i+1) (fun j _=>hg j);have mY:fP F B l (i+1)=B*fP F B l i+l.getD i 0:=rfl;rw[Ec _ _ (by omega),bU];generalize l.getD i 0=x at hlt mY;have hk:w*(p-i)=w*(p-1-i)+w:=by
    rw[show p-i=(p-1-i)+1 by omega,Nat.mul_add,Nat.mul_one]
   have aq9:w*(p-i)<=14:=by rw[<-hp];exact Nat.mul_le_mul_left w (by omega)
   have i1:(w:Int)*((p:Int)-1-(i:Int))=((w*(p-1-i):Nat):Int):=by
    rw[Int.natCast_mul];congr 1
    omega
   have hB4:B<=4:=by rw[hB];exact kL (CX (by decide) hw.2) (by decide)
   have hsmall:x*2^(w*(p-1-i))<2^(w*(p-i)):=by
    rw[hk,Nat.pow_add,Nat.mul_comm (2^(w*(p-1-i)))];exact Nat.mul_lt_mul_of_pos_right (hB▸hlt) (Nat.two_pow_pos _)
   have asn:2^(w*(p-i))<=2^14:=CX (by decide) aq9;have hsum:fP F B l i*2^(w*(p-i))+x*2^(w*(p-1-i))=fP F B l (i+1)*B^(p-(i+1)):=by
    rw[mY,Nat.add_mul,Gq,show p-(i+1)=p-1-i by omega,hk,Nat.pow_add,<-hB,Nat.mul_comm B,Nat.mul_assoc,Nat.mul_comm B]
   have htop:fP F B l (i+1)*B^(p-(i+1))<65536:=by
    have h1:fP F B l (i+1)*B^(p-(i+1))<(F+1)*B^(i+1)*B^(p-(i+1)):=Nat.mul_lt_mul_of_pos_right hv (by rw[Gq];exact Nat.two_pow_pos _);have h2:(F+1)*B^(i+1)*B^(p-(i+1))=(F+1)*2^14:=by
     rw[Nat.mul_assoc,<-Nat.pow_add,show i+1+(p-(i+1))=p by omega,Gq,hp]
    rw[h2] at h1;have h3:(F+1)*2^14<=4*2^14:=Nat.mul_le_mul_right _ (by omega);omega
   have e1:arith .shl .u16 (IntKind.u16.wrap (x:Int)) ((w*(p-1-i):Nat):Int)=((x*2^(w*(p-1-i)):Nat):Int):=by
    rw[pU,bO,Nat.min_eq_left (by simp only[IntKind.bits];omega),zH,zH];have e3:(x:Int)%65536=x:=by omega
    rw[e3,show (x:Int)*2^(w*(p-1-i))=((x*2^(w*(p-1-i)):Nat):Int) by simp];omega
   have e2:arith .or .u16 ((fP F B l i*B^(p-i):Nat):Int) ((x*2^(w*(p-1-i)):Nat):Int)=((fP F B l (i+1)*B^(p-(i+1)):Nat):Int):=by
    rw[Gq,wY rfl (by show _<2^16;omega) (by show _<2^16;omega),vG _ _ _ hsmall,hsum]
   have hw1:((w*(p-1-i):Nat):Int)<=14:=by omega
   rw[i1,e1,e2];refine ⟨by omega,by omega,by omega,by omega,by omega,by omega,by omega,i+1,by simp,by omega,by omega⟩
  .have:i=l.length:=by omega
   subst this;rw[<-ZQ,show l.length+(p-l.length)=p by omega]
theorem aoo{w:World}{N:Nat->Prop}{s:Sh}{a:Option Addr}{n cap:Nat}{l:List C}(h:bq w N (.sl s) (.slice a n cap) (.ls l))(m:Nat)(hm:m<=l.length):bq w N (.sl s) (.slice a m cap) (.ls (l.take m)):=by
 obtain ⟨vs,⟨a',cap',rfl,h2,h3,h4⟩,e⟩:=h;simp only[C.kU] at*;have e2:Value.slice a n cap= .slice a' l.length cap':=by simpa [Sh.mk,Sh.isAgg] using e
 cases e2;refine ⟨[.slice a m cap],⟨a,cap,?_,?_,h3,fun hne=>?_⟩,by simp[Sh.mk,Sh.isAgg]⟩
 .simp only[C.kU,gD,Nat.min_eq_left hm]
 .simp only[C.kU,gD];omega
 .obtain ⟨b,off,rfl,hN,hlt,hr⟩:=h4 (by intro h0;rw[C.kU,h0] at hne;simp at hne);refine ⟨b,off,rfl,hN,hlt,fun i c hc=>hr i c ?_⟩;rw[C.kU,mR] at hc;split at hc
  .exact hc
  .cases hc
theorem aoj(l:List Nat):vY (l.map fun n:Nat=>(n:Int)) 8191 (fun x=>x==((l.getD 0 0:Nat):Int))=gY l:=by
 unfold vY gY;rw[<-List.map_take,List.takeWhile_map,aT];congr 2
 funext x
 show ((x:Int)==((l.getD 0 0:Nat):Int))=(x==l.getD 0 0);rw[Bool.eq_iff_iff,beq_iff_eq,beq_iff_eq];omega
theorem am4(l:List Nat):vY (l.map fun n:Nat=>(n:Int)) (min 14 l.length) (fun x=>x !=2)=min 14 l.length↔nS l:=by
 unfold vY nS;rw[<-List.map_take,List.takeWhile_map,aT,D7];have hl:(l.take 14).length=min 14 l.length:=gD;rw[<-hl];generalize l.take 14=m;induction m with
 |nil=>simp
 |cons x m ih=>
  by_cases hx:x=2
  .subst hx;simp
  .have hx2:((fun x:Int=>x !=2)∘fun n:Nat=>(n:Int)) x=true:=by simp;omega
   rw[List.takeWhile_cons_of_pos hx2,bn,bn];simp only[iH,forall_eq_or_imp,Nat.add_right_cancel_iff];exact ⟨fun h=>⟨hx,ih.1 h⟩,fun h=>ih.2 h.2⟩
theorem YS(F B:Nat)(l:List Nat)(M:Nat):∀p,(∀i,i<p->(l.take M).getD i 0=l.getD i 0)->fP F B (l.take M) p=fP F B l p
 |0,_=>rfl
 |p+1,h=>by rw[fP,fP,YS F B l M p (fun i hi=>h i (by omega)),h p (by omega)]
theorem al6(l:List Nat)(p i:Nat)(hi:i<p):(l.take (min p l.length)).getD i 0=l.getD i 0:=by
 rw[D7];simp[List.getD,mR,hi]
theorem Oa(W:World)(aL:KW Tryz.prog W)(N:Nat->Prop)(a:Option Addr)(cap:Nat)(l:List Nat)(hS:bq W N (.sl I64) (.slice a l.length cap) (Ns l))(F B p w:Nat)(hB:B=2^w)(hw:1<=w/\w<=2)(hp:w*p=14)(hF:F<4)(hx:∀x∈l.take p,x<B):
  Calls Tryz.prog 288 #[.slice a (min p l.length) cap,.int .u16 ((F*16384:Nat):Int),.int .i64 (p:Int),.int .i64 (w:Int)] W fun e W'=>e= .returned (.int .u16 (fP F B l p:Nat))/\Below W.heap.size W W':=by
 have hS2:=aoo hS (min p l.length) (by simp;omega);rw[<-List.map_take] at hS2;have hpc:=(PC.mq (by decide) (ajg (l.take (min p l.length)) F B p w hB hw hp hF (by rw[gD];omega) (by rw[D7];exact hx))).2 W N [.slice a (min p l.length) cap,.int .u16 ((F*16384:Nat):Int),.int .i64 (p:Int),.int .i64 (w:Int)] aL
  ⟨_,_,rfl,hS2,_,_,rfl,⟨_,rfl,rfl⟩,_,_,rfl,⟨_,rfl,rfl⟩,_,_,rfl,⟨_,rfl,rfl⟩,rfl⟩
 refine hpc.mono ?_;rintro e W' ⟨v,rfl,⟨vs,⟨v1,r1,rfl,⟨_,h1,rfl⟩,rfl⟩,rfl⟩,hb⟩;simp only[Rd] at h1;subst h1;refine ⟨?_,hb⟩;rw[YS F B l _ p (al6 l p)];rfl
theorem adg(l:List Nat)(hlen:0<l.length)(rn:Nat)(h2:l.getD 0 0<=2)(hr:rn<=8191):bits BinOp.or IntKind.u16 ((l[0]:Int)%65536*8192%65536) ((rn:Int)%65536)=((8192*l.getD 0 0+rn:Nat):Int):=by
 have hl0:l[0]=l.getD 0 0:=by simp[List.getD,hlen]
 rw[hl0];generalize l.getD 0 0=x at h2;have e1:(x:Int)%65536*8192%65536=((x*2^13:Nat):Int):=by omega
 have e2:(rn:Int)%65536=rn:=by omega
 rw[e1,e2];have:=wY (k:= .u16) (a:=x*2^13) (b:=rn) rfl (by show _<2^16;omega) (by show _<2^16;omega);rw[vG _ _ _ (by omega)] at this;have h3:bits BinOp.or IntKind.u16 ((x*2^13:Nat):Int) (rn:Int)=arith .or .u16 ((x*2^13:Nat):Int) (rn:Int):=rfl;rw[h3,this];omega
set_option maxHeartbeats 4000000 in
theorem apr(w:World)(aL:KW Tryz.prog w)(N:Nat->Prop)(sv:Value)(l:List Nat)(hsv:bq w N (.sl I64) sv (Ns l))(hne:l≠[])(ho:mg l):
  Calls Tryz.prog 284 #[sv] w fun e W'=>e= .returned (.tuple #[.int .u16 (jK l:Nat),.int .i64 (fM l:Nat)])/\Below w.heap.size w W':=by
 have hI:xP w sv (l.map fun n:Nat=>(n:Int)):=xP.of (N:=N) (by rw[Ints,qy];exact hsv);have hlen:0<l.length:=yO.2 hne;have hr:=Ik hne;obtain ⟨a,cap,rfl⟩:∃a cap,sv= .slice a l.length cap:=by
  obtain ⟨a,cap,h,_⟩:=hI;exact ⟨a,cap,by simpa using h⟩
 have hB1:Below w.heap.size w (w.alloc (.cells #[.slice a l.length cap] 27)):=(Below.refl _ w).alloc (aI _) _;have bN:=Boxed.new w 27 (.slice a l.length cap);have hI1:xP (w.alloc (.cells #[.slice a l.length cap] 27)) (.slice a l.length cap) (l.map fun n:Nat=>(n:Int)):=
  xP.of (N:=N) (by rw[Ints,qy];exact hsv.mono hB1.size fun c hc hlt=>⟨hB1.block c hlt,hc⟩)
 have hS1:bq (w.alloc (.cells #[.slice a l.length cap] 27)) N (.sl I64) (.slice a l.length cap) (Ns l):=hsv.mono hB1.size fun c hc hlt=>⟨hB1.block c hlt,hc⟩;have hy:(l.map fun n:Nat=>(n:Int))[0]?=some ((l.getD 0 0:Nat):Int):=by simp[List.getD,hlen]
 have g1:=WU _ _ _ hI1 8191 (by decide) 286 #[.pointer (some ⟨w.heap.size,0,none⟩)] (enters_of Tryz.func286 (by kernel_rfl) rfl) (fun x=>x==((l.getD 0 0:Nat):Int)) (fun x=>aoc _ _ _ _ hI1 bN _ hy x);rw[aoj,show ((8191:Nat):Int)=8191 from rfl] at g1;have g2:=WU _ _ _ hI1 (min 14 l.length) (by omega) 287 #[] (enters_of Tryz.func287 (by kernel_rfl) rfl) (fun x=>x !=2) (fun x=>aob _ x);generalize hbb:vY (l.map fun n:Nat=>(n:Int)) (min 14 l.length) (fun x=>x !=2)=bb at g2;have Al:=am4 l;rw[hbb] at Al;obtain ⟨a',cap',hsl,hcap,hmax,hcells⟩:=hI1;rw[aT] at hcap;simp only[aT] at hsl;cases hsl;obtain ⟨b,off,rfl,hblt,hc⟩:=hcells (by simp;exact hne);have d1:=hc 0 _ hy;simp only[Nat.add_zero] at d1;have hcell:=bN.cell;have i1:(0:Int)<l.length:=by omega
 refine (callsIn_wide (n:=3)).1 ?_;refine callsIn_of_wp Tryz.func284 rfl trivial ?_ rfl;simp only[Tryz.ntmps284,List.size_toArray,bn,zy,Nat.reduceAdd,Nat.reduceSub,Array.replicate_succ,Array.replicate_zero,List.push_toArray,List.append_toArray,fJ,jc];generalize hrn:gY l=rn at*;gi_wp2
 refine ⟨trivial,(callsIn_wide.2 g1).mono ?_⟩;rintro e w' ⟨rfl,rfl⟩;have CO:=Oa _ (aL.below hB1) N _ _ l hS1 3 4 7 2 rfl (by decide) (by decide) (by decide) (fun x hx=>by have:=ho x (yN hx);omega);have hcI:(l.length:Int)<=cap:=by omega
 by_cases hrun:14<=rn\/rn=l.length
 .have hC:jK l=8192*l.getD 0 0+rn/\fM l=rn:=by
   unfold jK fM;rw[hrn,if_pos hrun,if_pos hrun];exact ⟨rfl,rfl⟩
  have h2:=Ey ho 0;by_cases asq:14<=rn
  .have j1:(14:Int)<=rn:=by omega
   gi_wp2
   refine bodyPost_ret (results_tmp2 rfl _ _ _) rfl ?_;have hbv:=adg l hlen rn h2 (by omega);rw[hC.1,hC.2,<-hbv];exact ⟨rfl,hB1⟩
  .have j1:¬(14:Int)<=rn:=by omega
   have hrl:rn=l.length:=by omega
   have j2:((rn:Int)==l.length)=true:=by rw[beq_iff_eq];omega
   subst hrl;gi_wp2
   refine bodyPost_ret (results_tmp2 rfl _ _ _) rfl ?_;have hbv:=adg l hlen l.length h2 (by omega);rw[hC.1,hC.2,<-hbv];exact ⟨rfl,hB1⟩
 .have hC:jK l=(if nS l then fP 2 2 l 14 else fP 3 4 l 7)/\fM l=if nS l then min 14 l.length else min 7 l.length:=by
   unfold jK fM;rw[hrn,if_neg hrun,if_neg hrun];exact ⟨rfl,rfl⟩
  have j1:¬(14:Int)<=rn:=by omega
  have j2:((rn:Int)==l.length)=false:=by rw[beq_eq_false_iff_ne];omega
  by_cases h14:l.length<14
  .have k1:(l.length:Int)<14:=by omega
   have kN:¬(14:Int)<=l.length:=by omega
   rw[Nat.min_eq_right (by omega)] at g2 Al;have i14:Int.toNat (l.length:Int)=l.length:=bO _;gi_wp2
   refine ⟨trivial,(callsIn_wide.2 g2).mono ?_⟩;rintro e w' ⟨rfl,rfl⟩;by_cases lV:nS l
   .rw[if_pos lV,if_pos lV] at hC;have FW:=Oa _ (aL.below hB1) N _ _ l hS1 2 2 14 1 rfl (by decide) (by decide) (by decide) (fun x hx=>by have:=ho x (yN hx);have:=lV x hx;omega);rw[Nat.min_eq_right (by omega)] at FW hC;rw[Al.2 lV];gi_wp2
    refine ⟨trivial,(callsIn_wide.2 FW).mono ?_⟩;rintro e w' ⟨rfl,hbel⟩;gi_wp2
    refine bodyPost_ret (results_tmp2 rfl _ _ _) rfl ?_;rw[hC.1,hC.2];exact ⟨rfl,hB1.trans (hbel.mono (by simp))⟩
   .rw[if_neg lV,if_neg lV] at hC;have hbn:((bb:Int)==l.length)=false:=by rw[beq_eq_false_iff_ne];intro h;exact lV (Al.1 (by omega))
    by_cases h7:l.length<7
    .have k7:(l.length:Int)<7:=by omega
     rw[Nat.min_eq_right (by omega)] at CO hC;gi_wp2
     refine ⟨trivial,(callsIn_wide.2 CO).mono ?_⟩;rintro e w' ⟨rfl,hbel⟩;gi_wp2
     refine bodyPost_ret (results_tmp2 rfl _ _ _) rfl ?_;rw[hC.1,hC.2];exact ⟨rfl,hB1.trans (hbel.mono (by simp))⟩
    .have k7:¬(l.length:Int)<7:=by omega
     have k8:(7:Int)<=l.length:=by omega
     rw[Nat.min_eq_left (by omega)] at CO hC;gi_wp2
     refine ⟨trivial,(callsIn_wide.2 CO).mono ?_⟩;rintro e w' ⟨rfl,hbel⟩;gi_wp2
     refine bodyPost_ret (results_tmp2 rfl _ _ _) rfl ?_;rw[hC.1,hC.2];exact ⟨rfl,hB1.trans (hbel.mono (by simp))⟩
  .have k1:¬(l.length:Int)<14:=by omega
   have k2:(14:Int)<=l.length:=by omega
   have k8:(7:Int)<=l.length:=by omega
   have k7:¬(l.length:Int)<7:=by omega
   rw[Nat.min_eq_left (by omega)] at g2 Al;rw[show ((14:Nat):Int)=14 from rfl] at g2;gi_wp2
   refine ⟨trivial,(callsIn_wide.2 g2).mono ?_⟩;rintro e w' ⟨rfl,rfl⟩;by_cases lV:nS l
   .rw[if_pos lV,if_pos lV] at hC;have FW:=Oa _ (aL.below hB1) N _ _ l hS1 2 2 14 1 rfl (by decide) (by decide) (by decide) (fun x hx=>by have:=ho x (yN hx);have:=lV x hx;omega);rw[Nat.min_eq_left (by omega)] at FW hC;rw[Al.2 lV];gi_wp2
    refine ⟨trivial,(callsIn_wide.2 FW).mono ?_⟩;rintro e w' ⟨rfl,hbel⟩;gi_wp2
    refine bodyPost_ret (results_tmp2 rfl _ _ _) rfl ?_;rw[hC.1,hC.2];exact ⟨rfl,hB1.trans (hbel.mono (by simp))⟩
   .rw[if_neg lV,if_neg lV] at hC;have hbn:((bb:Int)==14)=false:=by rw[beq_eq_false_iff_ne];intro h;exact lV (Al.1 (by omega))
    rw[Nat.min_eq_left (by omega)] at CO hC;gi_wp2
    refine ⟨trivial,(callsIn_wide.2 CO).mono ?_⟩;rintro e w' ⟨rfl,hbel⟩;gi_wp2
    refine bodyPost_ret (results_tmp2 rfl _ _ _) rfl ?_;rw[hC.1,hC.2];exact ⟨rfl,hB1.trans (hbel.mono (by simp))⟩
end Go.Vc
