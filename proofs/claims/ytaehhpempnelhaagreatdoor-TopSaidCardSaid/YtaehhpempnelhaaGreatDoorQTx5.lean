/-
  Contracts of functions of the program, each out of its condition or by a walk, and plain lemmas.
-/
import Derived.Test.YtaehhpempnelhaaGreatDoorQTx4
set_option maxRecDepth 100000
namespace Go.Vc
open Go Go.Proofs Go.Plain Go.RowKit Go.Shelf Tryz
attribute [local go_sem 100000] run_min_int2
theorem GZ(l:List Nat)(i:Nat)(h:i<l.length):((l.map fun n:Nat=>C.int (n:Int))).getD i default=C.int ((l.getD i 0:Nat):Int):=by simp[List.getD,h]
theorem Hg{l:List Nat}{i:Nat}(h:i<l.length):l.getD i 0∈l:=by simp[List.getD,h]
theorem af8(F B:Nat)(l:List Nat):∀k,jM F B l (l.length+k)=jM F B l l.length*B^k
 |0=>by simp
 |k+1=>by
  have:l.getD (l.length+k) 0=0:=by simp[List.getD]
  rw[<-su,jM,af8 F B l k,this,Nat.pow_succ,qE,Nat.mul_left_comm,Nat.mul_comm B]
theorem aq7(l:List Nat)(F B p w:Nat)(hB:B=2^w)(hw:1<=w/\w<=2)(hp:w*p=14)(hF:F<4)(hl:l.length<=p)(hx:∀x∈l,x<B):
  PC prog ac8 [(.sl I64,Ns l),(U16,.int ((F*16384:Nat):Int)),(I64,.int p),(I64,.int w)] [(U16,.int (jM F B l p:Nat))]:=by
 apply apH rfl;simp only[abo,aJ];have aDH:p<=14:=by
  have:=Nat.le_mul_of_pos_left p (show 0<w by omega);omega
 have Mt:∀k,B^k=2^(w*k):=fun k=>by rw[hB,Nat.pow_mul]
 have hg:∀i,l.getD i 0<B:=fun i=>by
  by_cases h:i<l.length
  .exact hx _ (Hg h)
  .simp[List.getD,Nat.not_lt.1 h];rw[hB];exact Nat.two_pow_pos w
 refine VC.jw (fun i:Nat=> [.int ((jM F B l i*B^(p-i):Nat):Int),.int i]) (fun i=>i<=l.length) (fun i=>l.length-i) 0 ?_ (cu _) fun i hi=>?_
 .simp only[kM];rw[jM,Nat.sub_zero,Mt,hp];rfl
 simp only[aJ,aG,bJ,dF];refine⟨fun hc=>?_,fun hc=>?_⟩
 .have hlt:=hg i;have hv:=Uf F B l (i+1) (fun j _=>hg j);have rT:jM F B l (i+1)=B*jM F B l i+l.getD i 0:=rfl;rw[GZ _ _ (by omega),dV];generalize l.getD i 0=x at hlt rT;have hk:w*(p-i)=w*(p-1-i)+w:=by
   rw[show p-i=(p-1-i)+1 by omega,Nat.mul_add,Nat.mul_one]
  have aCm:w*(p-i)<=14:=by rw[<-hp];exact Nat.mul_le_mul_left w (by omega)
  have i1:(w:Int)*((p:Int)-1-(i:Int))=((w*(p-1-i):Nat):Int):=by
   rw[Int.natCast_mul];congr 1
   omega
  have hB4:B<=4:=by rw[hB];exact zw (I9 (by decide) hw.2) (by decide)
  have hsmall:x*2^(w*(p-1-i))<2^(w*(p-i)):=by
   rw[hk,Nat.pow_add,Nat.mul_comm (2^(w*(p-1-i)))];exact Nat.mul_lt_mul_of_pos_right (hB▸hlt) (Nat.two_pow_pos _)
  have aDD:2^(w*(p-i))<=2^14:=I9 (by decide) aCm;have hsum:jM F B l i*2^(w*(p-i))+x*2^(w*(p-1-i))=jM F B l (i+1)*B^(p-(i+1)):=by
   rw[rT,pq,Mt,show p-(i+1)=p-1-i by omega,hk,Nat.pow_add,<-hB,Nat.mul_comm B,Nat.mul_assoc,Nat.mul_comm B]
  have htop:jM F B l (i+1)*B^(p-(i+1))<65536:=by
   have h1:jM F B l (i+1)*B^(p-(i+1))<(F+1)*B^(i+1)*B^(p-(i+1)):=Nat.mul_lt_mul_of_pos_right hv (by rw[Mt];exact Nat.two_pow_pos _);have h2:(F+1)*B^(i+1)*B^(p-(i+1))=(F+1)*2^14:=by
    rw[Nat.mul_assoc,<-Nat.pow_add,show i+1+(p-(i+1))=p by omega,Mt,hp]
   rw[h2]at h1;have h3:(F+1)*2^14<=4*2^14:=Cc _ (by omega);omega
  have e1:arith .shl .u16 (IntKind.u16.wrap (x:Int)) ((w*(p-1-i):Nat):Int)=((x*2^(w*(p-1-i)):Nat):Int):=by
   rw[wG,dF,u6 (by simp only[IntKind.bits];omega),G9,G9];have e3:(x:Int)%65536=x:=by omega
   rw[e3,show(x:Int)*2^(w*(p-1-i))=((x*2^(w*(p-1-i)):Nat):Int) by simp];omega
  have e2:arith .or .u16 ((jM F B l i*B^(p-i):Nat):Int) ((x*2^(w*(p-1-i)):Nat):Int)=((jM F B l (i+1)*B^(p-(i+1)):Nat):Int):=by
   rw[Mt,CS rfl (by show _<2^16;omega) (by show _<2^16;omega),Bv _ _ _ hsmall,hsum]
  have hw1:((w*(p-1-i):Nat):Int)<=14:=by omega
  rw[i1,e1,e2];refine⟨by omega,by omega,by omega,by omega,by omega,by omega,by omega,i+1,by simp,by omega,by omega⟩
 have:i=l.length:=by omega
 subst this;rw[<-af8,show l.length+(p-l.length)=p by omega]
theorem Ua{w:World}{N:Nat->Prop}{s:Sh}{a:Option Addr}{n cap:Nat}{l:List C}(h:bV w N (.sl s) (.slice a n cap) (.ls l))(m:Nat)(hm:m<=l.length):bV w N (.sl s) (.slice a m cap) (.ls (l.take m)):=by
 obtain⟨vs,⟨a',cap',rfl,h2,h3,h4⟩,e⟩:=h;simp only[C.lF]at*;have e2:Value.slice a n cap=.slice a' l.length cap':=by simpa[Sh.mk,Sh.isAgg]using e
 cases e2;refine⟨[.slice a m cap],⟨a,cap,?_,?_,h3,fun hne=>?_⟩,by simp[Sh.mk,Sh.isAgg]⟩
 .simp only[C.lF,jV,u6 hm]
 .simp only[C.lF,jV];omega
 obtain ⟨b,off,rfl,hN,hlt,hr⟩:=h4 (by intro h0;rw[C.lF,h0]at hne;simp at hne);refine⟨b,off,rfl,hN,hlt,fun i c hc=>hr i c ?_⟩;rw[C.lF,sw]at hc;split at hc
 .exact hc
 cases hc
theorem ayj(l:List Nat):BU (l.map fun n:Nat=>(n:Int)) 8191 (fun x=>x==((l.getD 0 0:Nat):Int))=nT l:=by
 unfold BU nT;rw[<-List.map_take,List.takeWhile_map,bJ];congr 2
 funext x
 show((x:Int)==((l.getD 0 0:Nat):Int))=(x==l.getD 0 0);rw[Cj,beq_iff_eq,beq_iff_eq];omega
theorem awU(l:List Nat):BU (l.map fun n:Nat=>(n:Int)) (min 14 l.length) (fun x=>x !=2)=min 14 l.length↔uE l:=by
 unfold BU uE;rw[<-List.map_take,List.takeWhile_map,bJ,Tz];have hl:(l.take 14).length=min 14 l.length:=jV;rw[<-hl];generalize l.take 14=m;induction m with
 |nil=>simp
 |cons x m ih=>
  by_cases hx:x=2
  .subst hx;simp
  have hx2:((fun x:Int=>x !=2)∘fun n:Nat=>(n:Int)) x=true:=by simp;omega
  rw[List.takeWhile_cons_of_pos hx2,bR,bR];simp only[iR,forall_eq_or_imp,Nat.add_right_cancel_iff];exact⟨fun h=>⟨hx,ih.1 h⟩,fun h=>ih.2 h.2⟩
theorem ae0(F B:Nat)(l:List Nat)(M:Nat):∀p,(∀i,i<p->(l.take M).getD i 0=l.getD i 0)->jM F B (l.take M) p=jM F B l p
 |0,_=>rfl
 |p+1,h=>by rw[jM,jM,ae0 F B l M p (fun i hi=>h i (by omega)),h p (by omega)]
theorem avT(l:List Nat)(p i:Nat)(hi:i<p):(l.take (min p l.length)).getD i 0=l.getD i 0:=by
 rw[Tz];simp[List.getD,hi]
theorem UH(W:World)(aX:KW prog W)(N:Nat->Prop)(a:Option Addr)(cap:Nat)(l:List Nat)(hS:bV W N (.sl I64) (.slice a l.length cap) (Ns l))(F B p w:Nat)(hB:B=2^w)(hw:1<=w/\w<=2)(hp:w*p=14)(hF:F<4)(hx:∀x∈l.take p,x<B):
  Calls prog 288 #[.slice a (min p l.length) cap,.int .u16 ((F*16384:Nat):Int),.int .i64 (p:Int),.int .i64 (w:Int)] W fun e W'=>e=.returned (.int .u16 (jM F B l p:Nat))/\Below W.heap.size W W':=by
 have hS2:=Ua hS (min p l.length) (by simp;omega);rw[<-List.map_take]at hS2;have hpc:=(PC.oF (by decide) (aq7 (l.take (min p l.length)) F B p w hB hw hp hF (by rw[jV];omega) (by rw[Tz];exact hx))).2 W N [.slice a (min p l.length) cap,.int .u16 ((F*16384:Nat):Int),.int .i64 (p:Int),.int .i64 (w:Int)] aX
  ⟨_,_,rfl,hS2,_,_,rfl,⟨_,rfl,rfl⟩,_,_,rfl,⟨_,rfl,rfl⟩,_,_,rfl,⟨_,rfl,rfl⟩,rfl⟩
 refine hpc.mono ?_;rintro e W' ⟨v,rfl,⟨vs,⟨v1,r1,rfl,⟨_,h1,rfl⟩,rfl⟩,rfl⟩,hb⟩;simp only[Rd]at h1;subst h1;refine⟨?_,hb⟩;rw[ae0 F B l _ p (avT l p)];rfl
theorem ajH(l:List Nat)(hlen:0<l.length)(rn:Nat)(h2:l.getD 0 0<=2)(hr:rn<=8191):bits BinOp.or IntKind.u16 ((l[0]:Int)%65536*8192%65536) ((rn:Int)%65536)=((8192*l.getD 0 0+rn:Nat):Int):=by
 have hl0:l[0]=l.getD 0 0:=by simp[List.getD,hlen]
 rw[hl0];generalize l.getD 0 0=x at h2;have e1:(x:Int)%65536*8192%65536=((x*2^13:Nat):Int):=by omega
 have e2:(rn:Int)%65536=rn:=by omega
 rw[e1,e2];have:=CS (k:=.u16) (a:=x*2^13) (b:=rn) rfl (by show _<2^16;omega) (by show _<2^16;omega);rw[Bv _ _ _ (by omega)]at this;have h3:bits BinOp.or IntKind.u16 ((x*2^13:Nat):Int) (rn:Int)=arith .or .u16 ((x*2^13:Nat):Int) (rn:Int):=rfl;rw[h3,this];omega
set_option maxHeartbeats 4000000 in
theorem azB(w:World)(aX:KW prog w)(N:Nat->Prop)(sv:Value)(l:List Nat)(hsv:bV w N (.sl I64) sv (Ns l))(hne:l≠[])(ho:qU l):
  Calls prog 284 #[sv] w fun e W'=>e=.returned (.tuple #[.int .u16 (oI l:Nat),.int .i64 (kY l:Nat)])/\Below w.heap.size w W':=by
 have hI:Dm w sv (l.map fun n:Nat=>(n:Int)):=Dm.of (N:=N) (by rw[Ints,vW];exact hsv);have hlen:0<l.length:=Mg.2 hne;have hr:=TD hne;obtain⟨a,cap,rfl⟩:∃a cap,sv=.slice a l.length cap:=by
  obtain⟨a,cap,h,_⟩:=hI;exact⟨a,cap,by simpa using h⟩
 have hB1:Below w.heap.size w (w.alloc (.cells #[.slice a l.length cap] 27)):=(eD _ w).alloc (aS _) _;have bN:=Boxed.new w 27 (.slice a l.length cap);have hI1:Dm (w.alloc (.cells #[.slice a l.length cap] 27)) (.slice a l.length cap) (l.map fun n:Nat=>(n:Int)):=
  Dm.of (N:=N) (by rw[Ints,vW];exact hsv.mono hB1.size fun c hc hlt=>⟨hB1.block c hlt,hc⟩)
 have hS1:bV (w.alloc (.cells #[.slice a l.length cap] 27)) N (.sl I64) (.slice a l.length cap) (Ns l):=hsv.mono hB1.size fun c hc hlt=>⟨hB1.block c hlt,hc⟩;have hy:(l.map fun n:Nat=>(n:Int))[0]?=some ((l.getD 0 0:Nat):Int):=by simp[List.getD,hlen]
 have g1:=adg _ _ _ hI1 8191 (by decide) 286 #[.pointer (some ⟨w.heap.size,0,none⟩)] (enters_of func286 (by kernel_rfl) rfl) (fun x=>x==((l.getD 0 0:Nat):Int)) (fun x=>ayb _ _ _ _ hI1 bN _ hy x);rw[ayj,show((8191:Nat):Int)=8191 from rfl]at g1;have g2:=adg _ _ _ hI1 (min 14 l.length) (by omega) 287 #[] (enters_of func287 (by kernel_rfl) rfl) (fun x=>x !=2) (fun x=>aya _ x);generalize hbb:BU (l.map fun n:Nat=>(n:Int)) (min 14 l.length) (fun x=>x !=2)=bb at g2;have FH:=awU l;rw[hbb]at FH;obtain⟨a',cap',hsl,hcap,hmax,hcells⟩:=hI1;rw[bJ]at hcap;simp only[bJ]at hsl;cases hsl;obtain⟨b,off,rfl,hblt,hc⟩:=hcells (by simp;exact hne);have d1:=hc 0 _ hy;simp only[qE]at d1;have hcell:=bN.cell;have i1:(0:Int)<l.length:=by omega
 refine(jN (n:=3)).1 ?_;refine sI func284 rfl trivial ?_ rfl;simp only[ntmps284,ni,bR,eB,Nat.reduceAdd,Nat.reduceSub,qD,qC,qF,qB,iw,kS];generalize hrn:nT l=rn at*;gi_wp2
 refine⟨trivial,(jN.2 g1).mono ?_⟩;rintro e w' ⟨rfl,rfl⟩;have IL:=UH _ (aX.below hB1) N _ _ l hS1 3 4 7 2 rfl (by decide) (by decide) (by decide) (fun x hx=>by have:=ho x (Jb hx);omega);have hcI:(l.length:Int)<=cap:=by omega
 by_cases hrun:14<=rn\/rn=l.length
 .have hC:oI l=8192*l.getD 0 0+rn/\kY l=rn:=by
   unfold oI kY;rw[hrn,aC hrun,aC hrun];exact⟨rfl,rfl⟩
  have h2:=Oz ho 0;by_cases aDF:14<=rn
  .have j1:(14:Int)<=rn:=by omega
   gi_wp2
   refine fD (nN rfl _ _ _) rfl ?_;have hbv:=ajH l hlen rn h2 (by omega);rw[hC.1,hC.2,<-hbv];exact⟨rfl,hB1⟩
  .have j1:¬(14:Int)<=rn:=by omega
   have hrl:rn=l.length:=by omega
   have j2:((rn:Int)==l.length)=true:=by rw[beq_iff_eq];omega
   subst hrl;gi_wp2
   refine fD (nN rfl _ _ _) rfl ?_;have hbv:=ajH l hlen l.length h2 (by omega);rw[hC.1,hC.2,<-hbv];exact⟨rfl,hB1⟩
 have hC:oI l=(if uE l then jM 2 2 l 14 else jM 3 4 l 7)/\kY l=if uE l then min 14 l.length else min 7 l.length:=by
  unfold oI kY;rw[hrn,zq hrun,zq hrun];exact⟨rfl,rfl⟩
 have j1:¬(14:Int)<=rn:=by omega
 have j2:((rn:Int)==l.length)=false:=by rw[Gb];omega
 by_cases h14:l.length<14
 .have k1:(l.length:Int)<14:=by omega
  have kN:¬(14:Int)<=l.length:=by omega
  rw[Nat.min_eq_right (by omega)]at g2 FH;have i14:Int.toNat (l.length:Int)=l.length:=dF _;gi_wp2
  refine⟨trivial,(jN.2 g2).mono ?_⟩;rintro e w' ⟨rfl,rfl⟩;by_cases qH:uE l
  .rw[aC qH,aC qH]at hC;have LP:=UH _ (aX.below hB1) N _ _ l hS1 2 2 14 1 rfl (by decide) (by decide) (by decide) (fun x hx=>by have:=ho x (Jb hx);have:=qH x hx;omega);rw[Nat.min_eq_right (by omega)]at LP hC;rw[FH.2 qH];gi_wp2
   refine⟨trivial,(jN.2 LP).mono ?_⟩;rintro e w' ⟨rfl,hbel⟩;gi_wp2
   refine fD (nN rfl _ _ _) rfl ?_;rw[hC.1,hC.2];exact⟨rfl,hB1.trans (hbel.mono (by simp))⟩
  .rw[zq qH,zq qH]at hC;have hbn:((bb:Int)==l.length)=false:=by rw[Gb];intro h;exact qH (FH.1 (by omega))
   by_cases h7:l.length<7
   .have k7:(l.length:Int)<7:=by omega
    rw[Nat.min_eq_right (by omega)]at IL hC;gi_wp2
    refine⟨trivial,(jN.2 IL).mono ?_⟩;rintro e w' ⟨rfl,hbel⟩;gi_wp2
    refine fD (nN rfl _ _ _) rfl ?_;rw[hC.1,hC.2];exact⟨rfl,hB1.trans (hbel.mono (by simp))⟩
   .have k7:¬(l.length:Int)<7:=by omega
    have k8:(7:Int)<=l.length:=by omega
    rw[u6 (by omega)]at IL hC;gi_wp2
    refine⟨trivial,(jN.2 IL).mono ?_⟩;rintro e w' ⟨rfl,hbel⟩;gi_wp2
    refine fD (nN rfl _ _ _) rfl ?_;rw[hC.1,hC.2];exact⟨rfl,hB1.trans (hbel.mono (by simp))⟩
 have k1:¬(l.length:Int)<14:=by omega
 have k2:(14:Int)<=l.length:=by omega
 have k8:(7:Int)<=l.length:=by omega
 have k7:¬(l.length:Int)<7:=by omega
 rw[u6 (by omega)]at g2 FH;rw[show((14:Nat):Int)=14 from rfl]at g2;gi_wp2
 refine⟨trivial,(jN.2 g2).mono ?_⟩;rintro e w' ⟨rfl,rfl⟩;by_cases qH:uE l
 .rw[aC qH,aC qH]at hC;have LP:=UH _ (aX.below hB1) N _ _ l hS1 2 2 14 1 rfl (by decide) (by decide) (by decide) (fun x hx=>by have:=ho x (Jb hx);have:=qH x hx;omega);rw[u6 (by omega)]at LP hC;rw[FH.2 qH];gi_wp2
  refine⟨trivial,(jN.2 LP).mono ?_⟩;rintro e w' ⟨rfl,hbel⟩;gi_wp2
  refine fD (nN rfl _ _ _) rfl ?_;rw[hC.1,hC.2];exact⟨rfl,hB1.trans (hbel.mono (by simp))⟩
 rw[zq qH,zq qH]at hC;have hbn:((bb:Int)==14)=false:=by rw[Gb];intro h;exact qH (FH.1 (by omega))
 rw[u6 (by omega)]at IL hC;gi_wp2
 refine⟨trivial,(jN.2 IL).mono ?_⟩;rintro e w' ⟨rfl,hbel⟩;gi_wp2
 refine fD (nN rfl _ _ _) rfl ?_;rw[hC.1,hC.2];exact⟨rfl,hB1.trans (hbel.mono (by simp))⟩
end Go.Vc
namespace Go.Vc
open Go Go.Proofs Go.Plain Tryz
theorem aq8(l:List Nat)(hne:l≠[])(ho:qU l):PC prog 284 [(.sl I64,Ns l)] [(U16,.int (oI l:Nat)),(I64,.int (kY l:Nat))]:=by
 refine PC.qX (by decide) ⟨⟨_,func284,rfl,by kernel_rfl⟩,fun w N vs aX hvs=>?_⟩;obtain⟨v1,r,rfl,hv1,rfl⟩:=hvs;refine(azB w aX N v1 l hv1 hne ho).mono ?_;rintro e W' ⟨rfl,hbel⟩;exact⟨_,rfl,⟨[.int .u16 (oI l:Nat),.int .i64 (kY l:Nat)],⟨_,_,rfl,⟨_,rfl,rfl⟩,_,_,rfl,⟨_,rfl,rfl⟩,rfl⟩,rfl⟩,hbel⟩
def DR(l:List Int):Prop:=∀x∈l,0<=x/\x<=2
instance(l:List Int):Decidable (DR l):=by unfold DR;exact inferInstance
def zV(l:List Int):List Nat:=l.map Int.toNat
theorem axF{l:List Int}(h:DR l):qU (zV l)/\Ints l=Ns (zV l):=by
 refine⟨fun x hx=>?_,?_⟩
 .simp only[zV,gP]at hx;obtain⟨y,hy,rfl⟩:=hx;have:=h y hy;omega
 simp only[Ints,Ns,zV,vW];congr 1
 apply Ca;intro x hx;have:=h x hx;simp only[Function.comp];congr 1
 omega
def Qw(l:List Int):Int:=if DR l then 0 else 1
def Qv(l:List Int):List Nat:=if DR l then lD (zV l)else []
theorem azr{l:List Int}{i:Nat}(h:i<l.length):l.getD i 0∈l:=by simp[List.getD,h]
theorem apW(l:List Int)(hl:l.length<=1000000):PC prog Rh [(.sl I64,Ints l)] [(.sl U16,Ns (Qv l)),(I64,.int (Qw l))]:=by
 apply aoe rfl;simp only[aad,aJ];refine VC.jw (fun i:Nat=> [.ls [],.int 0,.int i]) (fun i=>i<=l.length/\∀j,j<i->0<=l.getD j 0/\l.getD j 0<=2) (fun i=>l.length-i) 0 rfl ⟨cu _,fun j hj=>by omega⟩ fun i hi=>?_;simp only[aJ,aG,bJ,dF];refine⟨fun hc=>?_,fun hc=>?_⟩
 .rw[NZ _ _ (by omega)];simp only[dV];refine⟨by omega,by omega,fun hbad=>?_,fun hgood=>⟨by omega,i+1,by simp,⟨by omega,fun j hj=>?_⟩,by omega⟩⟩
  .have hn:¬DR l:=fun h=>by have:=h _ (azr (l:=l) (i:=i) (by omega));omega
   rw[Qv,Qw,zq hn,zq hn];rfl
  .by_cases hji:j=i
   .subst hji;omega
   .exact hi.2 j (by omega)
 have hm:DR l:=fun x hx=>by
  obtain⟨j,hj,rfl⟩:=List.getElem_of_mem hx;have:=hi.2 j (by omega);simpa[List.getD,hj]using this
 obtain⟨ho,he⟩:=axF hm;have hnl:(zV l).length=l.length:=by simp[zV]
 rw[Qv,Qw,aC hm,aC hm];generalize zV l=n at ho he hnl;have he2:List.map C.int l=List.map (fun n:Nat=>C.int (n:Int)) n:=by simpa[Ints,Ns]using he
 refine VC.jw (fun s:List Nat×Nat=> [Ns s.1,.int s.2]) (fun s=>s.2<=n.length/\s.1++lD (n.drop s.2)=lD n/\s.1.length<=s.2) (fun s=>n.length-s.2) ([],0) rfl ⟨cu _,rfl,aS _⟩ fun s hs=>?_;obtain⟨out,at_⟩:=s;simp only[aJ,aG,bJ,bR,eB,dF,he2]at hs |-;refine⟨fun hc=>?_,fun hc=>?_⟩
 .have hne:n.drop at_≠[]:=by
   intro h;have:=pX List.length h;simp at this;omega
  have hmp:=OH hne;rw[lW]at hmp;have e1:(List.map (fun n:Nat=>C.int (n:Int)) n|>.take n.length).drop at_=List.map (fun n:Nat=>C.int (n:Int)) (n.drop at_):=by
   rw[mO (by simp),List.map_drop]
  rw[e1];refine⟨by omega,by omega,by omega,_,_,aq8 (n.drop at_) hne (UF ho _),by omega,?_⟩;simp only[dV];refine⟨by omega,(out++ [oI (n.drop at_)],at_+kY (n.drop at_)),?_,⟨by simp only;omega,?_,by simp;omega⟩,by simp only;omega⟩
  .simp
  .simp only;have:=hs.2.1;rw[N9 hne,xq]at this;rw[<-this];simp
 have:n.drop at_=[]:=FZ (by omega);have h2:=hs.2.1;rw[this,OG,lV]at h2;rw[h2]
theorem Vo(n:Nat)(h:n<4294967296):arith .shr .u64 (n:Int) 32=0:=by
 rw[vG];simp[IntKind.bits];omega
theorem mask32(n:Nat)(h:n<4294967296):arith .and .u64 (n:Int) 4294967295=n:=by
 rw[show(4294967295:Int)=((4294967295:Nat):Int)from rfl,EB rfl (by show _<2^64;omega) (by decide)];have:=Je n 32;rw[show(4294967295:Nat)=2^32-1 from rfl,this];omega
theorem amH(n:Nat)(h:n<4294967296):PC prog YI [(U64,.int 1),(U64,.int n)] [(U64,.int 0),(U64,.int n)]:=by
 apply amr rfl;have a1:arith .shr .u64 1 32=0:=Vo 1 (by decide);have a2:arith .and .u64 1 4294967295=1:=mask32 1 (by decide);have a3:=Vo n h;have a4:=mask32 n h;have a5:arith .mul .u64 1 (n:Int)=n:=by simp only[arith,nP];omega
 have a6:arith .mul .u64 0 (n:Int)=0:=by simp only[arith,nP];omega
 have a7:arith .mul .u64 0 0=0:=rfl;have a8:arith .add .u64 0 0=0:=rfl;have a9:arith .shr .u64 0 32=0:=Vo 0 (by decide);have a10:arith .and .u64 0 4294967295=0:=mask32 0 (by decide);have a11:arith .mul .u64 1 0=0:=rfl;simp only[Yq,aJ,a1,a2,a3,a4,a5,a6,a7,a8,a9,a10,a11]
theorem anC(n:Nat)(h:n<4294967296):PC prog ZJ [(U64,.int 1),(U64,.int n)] [(U64,.int 0),(U64,.int n)]:=by
 apply amV rfl;simp only[YU,aJ,aG];exact⟨_,_,amH n h,rfl⟩
theorem agG{x:Nat}:∀{l:List Nat},x∈l->∃m,m<l.length/\l.getD m 0=x/\∀j,j<m->l.getD j 0≠x
 | [],h=>by cases h
 |y::l,h=>by
  by_cases hy:y=x
  .exact ⟨0,by simp,hy,fun j hj=>by omega⟩
  have hl:x∈l:=(iR.1 h).resolve_left (fun e=>hy e.symm);obtain⟨m,h1,h2,h3⟩:=agG hl;refine⟨m+1,by simp;omega,by simpa using h2,fun j hj=>?_⟩;cases j with
  |zero=>exact hy
  |succ j=>exact h3 j (by omega)
theorem aok(l:List Nat)(x:Nat)(hl:l.length<=1000000):∃r:Int,PC prog Xx [(.sl I64,Ns l),(I64,.int x)] [(I64,.int r)]/\(0<=r↔x∈l):=by
 by_cases hx:x∈l
 .obtain ⟨m,f1,f2,f3⟩:=agG hx;refine⟨(m:Nat),?_,by simp[hx]⟩;apply Xt rfl;simp only[Qz,aJ];refine VC.jw (fun i:Nat=> [.int 0,.int i]) (fun i=>i<=m) (fun i=>m-i) 0 rfl (cu _) fun i hi=>?_;simp only[aJ,aG,bJ,dF];refine⟨fun hc=>?_,fun hc=>by omega⟩;rw[GZ _ _ (by omega),dV];refine⟨by omega,by omega,fun heq=>?_,fun hne=>⟨by omega,i+1,by simp,?_,?_⟩⟩
  .have:i=m:=by
    by_cases him:i=m
    .exact him
    .exact absurd (show l.getD i 0=x by omega) (f3 i (by omega))
   rw[this]
  .by_cases him:i=m
   .subst him;omega
   omega
  .by_cases him:i=m
   .subst him;omega
   .omega
 refine ⟨-1,?_,by simp[hx]⟩;apply Xt rfl;simp only[Qz,aJ];refine VC.jw (fun i:Nat=> [.int 0,.int i]) (fun i=>i<=l.length) (fun i=>l.length-i) 0 rfl (cu _) fun i hi=>?_;simp only[aJ,aG,bJ,dF];refine⟨fun hc=>?_,fun hc=>?_⟩
 .rw[GZ _ _ (by omega),dV];refine⟨by omega,by omega,fun heq=>?_,fun hne=>⟨by omega,i+1,by simp,by omega,by omega⟩⟩;exact absurd (by have:=Hg (l:=l) (i:=i) (by omega);rwa[show l.getD i 0=x by omega]at this) hx
 trivial
theorem amG(l:List Nat)(x:Nat)(hl:l.length<=1000000):PC prog Xo [(.sl I64,Ns l),(I64,.int x)] [(.bool,.bool (decide (x∈l)))]:=by
 apply alQ rfl;simp only[Xl,aJ,aG];obtain⟨r,h1,h2⟩:=aok l x hl;refine⟨_,h1,?_⟩;rw[dV,show decide (0<=r)=decide (x∈l) by rw[Cj,dQ,dQ];exact h2]
theorem aeu(x:C)(n k m:Nat)(z:C)(hk:k+m<=n):jr (List.replicate k x++List.replicate (n-k) z) k (List.replicate m x)=List.replicate (k+m) x++List.replicate (n-(k+m)) z:=by
 unfold jr;rw[List.take_append_of_le_length (by simp),mO (by simp),cO,qV,qV,qV,
  mO (by rw[qV];omega),F5,qV,DZ (by rw[qV];omega),List.drop_replicate,
  show n-k-(k+m-k)=n-(k+m) by omega,iw,<-gJ,List.replicate_append_replicate]
theorem anA(x:Nat)(n:Nat)(hn:n<=100000):PC prog Xv [(.sl I64,Ns [x]),(I64,.int n)] [(.sl I64,Ns (List.replicate n x))]:=by
 apply alT rfl;simp only[Xq,aJ,aG,bR,eB];have c1:IntKind.u64.wrap (((0+1:Nat):Nat):Int)=1:=rfl;have c2:IntKind.u64.wrap (n:Int)=n:=by rw[nP];omega
 have c3:IntKind.i64.wrap (n:Int)=n:=lY (by omega);rw[c1,c2];refine⟨fun h=>by omega,fun _=>⟨_,_,anC n (by omega),?_⟩⟩;simp only[dV,c3];refine⟨fun h=>by omega,fun _=>⟨by omega,by omega,by omega,?_⟩⟩;have hr:Ns (List.replicate n x)=.ls (List.replicate n (C.int x)):=by simp[Ns]
 rw[hr];refine VC.jw (fun k:Nat=> [.int k,.ls (List.replicate k (C.int x)++List.replicate (n-k) (C.int 0))]) (fun k=>k<=n/\(1<=n->1<=k)) (fun k=>n-k) (min 1 n) ?_ ⟨by omega,by omega⟩ fun k hk=>?_
 .simp only[kM,dF,c3,Aw,xu,bR,eB];have e1:min (((0+1:Nat):Nat):Int) (n:Int)=((min 1 n:Nat):Int):=by omega
  rw[e1];congr 2
  congr 1
  by_cases h0:n=0
  .subst h0;rfl
  .have e2:List.take n [C.int (x:Int)]=List.replicate 1 (C.int x):=by
    rw[mO (by simp;omega)];rfl
   have e3:min 1 n=1:=by omega
   have:=aeu (C.int x) n 0 1 (C.int 0) (by omega);rw[e2,e3];simpa using this
 simp only[aJ,aG,c3,dF,Aw,xu];have t1:(0+((k:Int)-0)).toNat=k:=by omega
 have t2:((n:Int)-k).toNat=n-k:=by omega
 have e1:(List.replicate k (C.int x)++List.replicate (n-k) (C.int 0)).take k=List.replicate k (C.int (x:Int)):=by
  rw[List.take_append_of_le_length (by simp),mO (by simp)]
 rw[t1,t2,e1,qV];refine⟨fun hc=>?_,fun hc=>?_⟩
 .have e2:min (k:Int) ((n:Int)-k)=((min k (n-k):Nat):Int):=by omega
  rw[e2];refine⟨by omega,by omega,by omega,by omega,by omega,by omega,k+min k (n-k),?_,⟨by omega,by omega⟩,by omega⟩;have:=aeu (C.int x) n k (min k (n-k)) (C.int 0) (by omega);rw[List.take_replicate,Nat.min_comm (n-k) k,this];simp
 have:k=n:=by omega
 subst this;simp
theorem azC(c:Nat)(_:c<65536):(qd c).length<=8191:=by
 unfold qd;split
 .rw[qV];omega
 split<;>simp
theorem ait(c k:Nat):c&&&2^k=0↔c.testBit k=false:=by
 constructor
 .intro h;have:=pX (fun n=>n.testBit k) h;simpa[Nat.testBit_and,Nat.testBit_two_pow_self]using this
 intro h;apply Nat.eq_of_testBit_eq;intro i;rw[Nat.testBit_and,Nat.testBit_two_pow,Nat.zero_testBit];by_cases hi:k=i
 .subst hi;simp[h]
 simp[hi]
theorem ai8:∀c:Nat,c<65536->(arith .and .u16 (c:Int) 32768=0↔c<32768):=by
 intro c hc;rw[show(32768:Int)=((32768:Nat):Int)from rfl,EB rfl (by show _<2^16;omega) (by decide)];rw[show(32768:Nat)=2^15 from rfl];have h:=ait c 15;rw[Nat.testBit_eq_decide_div_mod_eq,pV]at h;omega
theorem ahF:∀c:Nat,c<65536->32768<=c->(arith .and .u16 (c:Int) 16384=0↔c<49152):=by
 intro c hc h32;rw[show(16384:Int)=((16384:Nat):Int)from rfl,EB rfl (by show _<2^16;omega) (by decide)];rw[show(16384:Nat)=2^14 from rfl];have h:=ait c 14;rw[Nat.testBit_eq_decide_div_mod_eq,pV]at h;omega
theorem aBq(c:Nat)(hc:c<65536):IntKind.i64.wrap (arith .and .u16 (c:Int) 8191)=((c%8192:Nat):Int):=by
 rw[show(8191:Int)=((8191:Nat):Int)from rfl,EB rfl (by show _<2^16;omega) (by decide)];have:=Je c 13;rw[show(8191:Nat)=2^13-1 from rfl,this,lY (by omega)]
theorem aBY(c:Nat)(hc:c<32768):arith .and .i64 (IntKind.i64.wrap (arith .shr .u16 (c:Int) 13)) 3=((c/8192:Nat):Int):=by
 have e1:arith .shr .u16 (c:Int) 13=((c/8192:Nat):Int):=by
  rw[vG];simp[IntKind.bits]
 rw[e1,lY (by omega),show(3:Int)=((3:Nat):Int)from rfl,aeX (by show _<2^63;omega) (by decide)];have:=Je (c/8192) 2;rw[show(3:Nat)=2^2-1 from rfl,this];omega
theorem agX(c w k:Nat)(hc:c<65536)(hw:1<=w/\w<=2)(hk:k<=16):arith .and .i64 (IntKind.i64.wrap (arith .shr .u16 (c:Int) (k:Int))) (arith .shl .i64 1 (w:Int)-1)=((c/2^k%2^w:Nat):Int):=by
 have e1:arith .shr .u16 (c:Int) (k:Int)=((c/2^k:Nat):Int):=by
  rw[vG,dF,u6 (by simp only[IntKind.bits];omega)];simp
 have h1:c/2^k<=c:=Nat.div_le_self _ _;generalize c/2^k=q at e1 h1;have e2:arith .shl .i64 1 (w:Int)-1=((2^w-1:Nat):Int):=by
  rcases(show w=1\/w=2 by omega)with rfl|rfl<;>rfl
 rw[e1,lY (by omega),e2,aeX (by show _<2^63;omega) (by show _<2^63;rcases(show w=1\/w=2 by omega)with rfl|rfl<;>decide),Je]
theorem aou(c m:Nat)(hc:c<65536)(hm:m<=4000):PC prog aaD [(U16,.int c),(I64,.int m)] [(.sl I64,Ns ((qd c).take m))]:=by
 apply ant rfl;simp only[Zp,aJ,aG];refine⟨fun h=>?_,fun h=>?_⟩
 .have h2:c<32768:=(ai8 c hc).1 h;rw[aBq c hc,aBY c h2];have e1:min ((c%8192:Nat):Int) (m:Int)=((min (c%8192) m:Nat):Int):=by omega
  rw[e1];refine⟨_,anA (c/8192) (min (c%8192) m) (by omega),?_⟩;rw[qd,aC h2,List.take_replicate,Nat.min_comm]
 have h2:¬c<32768:=fun h'=>h ((ai8 c hc).2 h');by_cases h3:c<49152
 .have hz:=(ahF c hc (by omega)).2 h3;rw[qd,zq h2,aC h3];refine VC.jw (fun i:Nat=> [Ns ((List.range i).map fun i=>c/2^(13-i)%2),.int i]) (fun i=>i<=min 14 m) (fun i=>14-i) 0 rfl (cu _) fun i hi=>?_;simp only[aJ,aG,hz,not_true_eq_false,pY,bJ,I8,bR,eB,ne_eq];refine⟨fun hc2=>?_,fun hc2=>?_⟩
  .have ek:(1:Int)*(14-1-(i:Int))=((13-i:Nat):Int):=by omega
   have ed:=agX c 1 (13-i) hc (by decide) (by omega);rw[ek];rw[show((1:Nat):Int)=1 from rfl]at ed;refine⟨by omega,by omega,by omega,by omega,by omega,by decide,by omega,by omega,i+1,?_,by omega,by omega⟩;rw[ed,F4,gW];simp
  .have:i=min 14 m:=by omega
   subst this;congr 3
   rw[<-List.map_take,List.take_range,Nat.min_comm]
 have hz:¬arith .and .u16 (c:Int) 16384=0:=fun h'=>h3 ((ahF c hc (by omega)).1 h');rw[qd,zq h2,zq h3];refine VC.jw (fun i:Nat=> [Ns ((List.range i).map fun i=>c/4^(6-i)%4),.int i]) (fun i=>i<=min 7 m) (fun i=>7-i) 0 rfl (cu _) fun i hi=>?_;simp only[aJ,aG,hz,not_false_eq_true,eO,bJ,I8,bR,eB,ne_eq];refine⟨fun hc2=>?_,fun hc2=>?_⟩
 .have ek:(2:Int)*(7-1-(i:Int))=((2*(6-i):Nat):Int):=by omega
  have ed:=agX c 2 (2*(6-i)) hc (by decide) (by omega);rw[ek];rw[show((2:Nat):Int)=2 from rfl,Nat.pow_mul]at ed;refine⟨by omega,by omega,by omega,by omega,by omega,by decide,by omega,by omega,i+1,?_,by omega,by omega⟩;rw[ed,F4,gW];simp
 have:i=min 7 m:=by omega
 subst this;congr 3
 rw[<-List.map_take,List.take_range,Nat.min_comm]
def Eh(c:List Nat)(count:Int):Except Int (List Nat×Nat):=if count<0\/4000<count then .error 1 else rd c count.toNat
def rE:Except Int (List Nat×Nat)->Int| .ok _=>0| .error e=>e
def rL:Except Int (List Nat×Nat)->List Nat| .ok x=>x.1| .error _=> []
def rN:Except Int (List Nat×Nat)->Nat| .ok x=>x.2| .error _=>0
def join(out:List Nat)(k:Nat):Except Int (List Nat×Nat)->Except Int (List Nat×Nat)| .ok x=> .ok (out++x.1,k+x.2)| .error e=> .error e
def Wx(c:List Nat):Prop:=c.length<=1000000/\∀x∈c,x<65536
theorem azo(r:Except Int (List Nat×Nat)):join [] 0 r=r:=by
 cases r with
 |ok x=>simp[join]
 |error e=>rfl
theorem rd_step(c:List Nat)(i n:Nat)(out:List Nat)(h:i<c.length)(hn:out.length<n)(h3:3∉(qd (c.getD i 0)).take (n-out.length)):
  join out i (rd (c.drop i) (n-out.length))=join (out++(qd (c.getD i 0)).take (n-out.length)) (i+1) (rd (c.drop (i+1)) (n-(out++(qd (c.getD i 0)).take (n-out.length)).length)):=by
 have e1:c.drop i=c.getD i 0::c.drop (i+1):=by
  rw[D6 h];simp[List.getD,h]
 rw[e1,rd,zq (by omega),zq h3,cO,<-Nat.sub_sub];cases rd (c.drop (i+1)) (n-out.length-((qd (c.getD i 0)).take (n-out.length)).length)with
 |ok x=>simp[join];omega
 |error e=>rfl
theorem aAi(c:List Nat)(i n:Nat)(out:List Nat)(h:i<c.length)(hn:out.length<n)(h3:3∈(qd (c.getD i 0)).take (n-out.length)):join out i (rd (c.drop i) (n-out.length))=.error 6:=by
 have e1:c.drop i=c.getD i 0::c.drop (i+1):=by
  rw[D6 h];simp[List.getD,h]
 rw[e1,rd,zq (by omega),aC h3];rfl
theorem ayX(c:List Nat)(n:Nat)(out:List Nat)(hn:out.length<n):join out c.length (rd (c.drop c.length) (n-out.length))=.error 2:=by
 rw[List.drop_length,rd,zq (by omega)];rfl
theorem aq9(c:List Nat)(count:Int)(hc:Wx c):PC prog ac9 [(.sl U16,Ns c),(I64,.int count)] [(.sl I64,Ns (rL (Eh c count))),(I64,.int (rN (Eh c count):Nat)),(I64,.int (rE (Eh c count)))]:=by
 apply apI rfl;simp only[abp,aJ];refine⟨fun h=>?_,fun h=>?_⟩
 .rw[Eh,aC (by omega)];rfl
 rw[Eh,zq (by omega)];obtain⟨n,rfl⟩:∃n:Nat,count=n:=⟨count.toNat,by omega⟩;rw[dF];refine VC.jw (fun s:List Nat×Nat=> [.ls [],.int 0,.int 0,Ns s.1,.int s.2]) (fun s=>s.2<=c.length/\s.1.length<=n/\rd c n=join s.1 s.2 (rd (c.drop s.2) (n-s.1.length))) (fun s=>c.length-s.2) ([],0) rfl ⟨cu _,cu _,(azo _).symm⟩ fun s hs=>?_;obtain⟨out,i⟩:=s;simp only at hs;obtain⟨h1,h2,h3⟩:=hs;simp only[aJ,aG,bJ,dF];refine⟨fun hlt=>⟨fun hz=>?_,fun hz=>?_⟩,fun hge=>?_⟩
 .have:i=c.length:=by omega
  subst this;rw[h3,ayX c n out (by omega)];rfl
 .have hx:=hc.2 _ (Hg (l:=c) (i:=i) (by omega));have ht:=rd_step c i n out (by omega) (by omega);have hb:=aAi c i n out (by omega) (by omega);have hcl:=hc.1;rw[GZ _ _ (by omega)];generalize c.getD i 0=x at hx ht hb;have e1:(n:Int)-(out.length:Int)=((n-out.length:Nat):Int):=by omega
  have hl:=azC x hx;have hl2:((qd x).take (n-out.length)).length<=n-out.length:=by rw[jV];omega
  rw[e1];refine⟨by omega,by omega,by omega,_,aou x (n-out.length) hx (by omega),_,amG _ 3 (by omega),fun h3'=>?_,fun h3'=>?_⟩
  .rw[h3,hb (by simpa using h3')];rfl
  .have aCt:3∉(qd x).take (n-out.length):=by simpa using h3'
   simp only[gU,bJ];refine⟨by omega,by omega,(out++(qd x).take (n-out.length),i+1),?_,⟨by simp only;omega,by simp only[cO];omega,?_⟩,by simp only;omega⟩
   .simp[Ns]
   .rw[h3,ht aCt]
 have e:n-out.length=0:=by omega
 rw[h3,e,Plain.Dc];simp[join,rL,rN,rE]
theorem axG(l:List Nat)(h:qU l):DR (l.map fun n:Nat=>(n:Int))/\zV (l.map fun n:Nat=>(n:Int))=l:=by
 refine⟨fun x hx=>?_,?_⟩
 .simp only[gP]at hx;obtain⟨y,hy,rfl⟩:=hx;have:=h y hy;omega
 simp[zV,Function.comp_def]
theorem aAH{c:List Nat}{count:Int}(hc:Wx c)(h:rE (Eh c count)=0):∃l k,Eh c count=.ok (l,k)/\(l.length:Int)=count/\k<=c.length/\qU l/\l.length<=4000:=by
 unfold Eh at h |-;split at h
 .cases h
 .rename_i hr;rw[zq hr];cases hd:rd c count.toNat with
  |ok x=>
   obtain⟨l,k⟩:=x;obtain⟨h1,h2,_⟩:=aBk hd;exact⟨l,k,rfl,by omega,h2,aAh hc.2 hd,by omega⟩
  |error e=>
   exfalso;rw[hd]at h;have:∀(c:List Nat) (n:Nat) (e:Int),rd c n=.error e->e≠0:=by
    intro c;induction c with
    |nil=>intro n e he;unfold rd at he;split at he<;>cases he;decide
    |cons x c ih=>
     intro n e he;unfold rd at he;split at he
     .cases he
     .split at he
      .cases he;decide
      .split at he
       .cases he
       next e' he'=>cases he;exact ih _ _ he'
   exact this _ _ _ hd h
theorem aik(l:List Nat)(h:qU l):(lD l).length<=l.length:=by
 have:=aAI _ l rfl h;omega
theorem auw(l:List Nat)(h:qU l)(hl:l.length<=1000000):PC prog Rh [(.sl I64,Ns l)] [(.sl U16,Ns (lD l)),(I64,.int 0)]:=by
 obtain⟨m1,m2⟩:=axG l h;have hw:=apW (l.map fun n:Nat=>(n:Int)) (by simpa using hl);rw[Qv,Qw,aC m1,aC m1,m2]at hw;have e:Ints (l.map fun n:Nat=>(n:Int))=Ns l:=by simp[Ints,Ns,Function.comp_def]
 rwa[e]at hw
abbrev Me:Sh:=.jc .bool (.jc .bool (.jc .bool (.jc I64 (.jc U16 (.jc U32 (.jc U32 (.jc (.sl U32) .je)))))))
abbrev Gm(h:Hd):C:=.ls [.bool h.pad,.bool h.ext,.bool h.mark,.int h.typ,.int h.seq,.int h.time,.int h.bZ,Ns h.eU]
theorem Q9(h:Hd):PC prog acZ [(Me,Gm h)] [(.bool,.bool (decide h.right))]:=by
 apply apt rfl;simp only[aa8,aJ,bJ];congr 3
 by_cases hr:h.right
 .have:=hr;obtain⟨h1,h2,h3⟩:=this;simp[hr,h1,show h.typ<=127 by omega,show(h.eU.length:Int)<=15 by omega]
 simp only[hr,decide_false];unfold Hd.right at hr;by_cases h1:0<=h.typ<;>by_cases h2:h.typ<=127<;>simp[h1,h2]
 omega
theorem asx(h:Hd):PC prog adU [(Me,Gm h)] [(I64,.int (if h.right then 12+4*(h.eU.length:Int)else 0))]:=by
 apply aqS rfl;simp only[acd,aJ,aG,bJ];refine⟨_,Q9 h,fun hr=>?_,fun hr=>?_⟩
 .simp only[lI,pV]at hr;rw[zq hr]
 simp only[lI,dQ]at hr;have:=hr;obtain⟨h1,h2,h3⟩:=this;rw[aC hr];exact⟨by omega,by omega,rfl⟩
theorem auC(v:Nat)(_:v<4294967296): [C.int (IntKind.u8.wrap (arith .shr .u32 v 24)),C.int (IntKind.u8.wrap (arith .shr .u32 v 16)),C.int (IntKind.u8.wrap (arith .shr .u32 v 8)),C.int (IntKind.u8.wrap v)]=ofBytes (fq 4 v):=by
 have e1:arith .shr .u32 (v:Int) 24=((v/2^24:Nat):Int):=by rw[vG];simp[IntKind.bits]
 have e2:arith .shr .u32 (v:Int) 16=((v/2^16:Nat):Int):=by rw[vG];simp[IntKind.bits]
 have e3:arith .shr .u32 (v:Int) 8=((v/2^8:Nat):Int):=by rw[vG];simp[IntKind.bits]
 rw[e1,e2,e3,wH,wH,wH,wH];simp[fq,ofBytes,Nat.div_div_eq_div_mul]
theorem Rq(b:List UInt8)(v:Nat)(hv:v<4294967296)(hb:b.length<=1000000):PC prog adI [(aV,B b),(U32,.int v)] [(aV,B (b++fq 4 v))]:=by
 apply aqW rfl;simp only[Rl,aJ,aG,auC v hv,AQ,bD,y9];omega
theorem avp:∀n:Nat,n<16->∀p e:Bool,
  (if e=true then arith .or .u8 (if p=true then arith .or .u8 (IntKind.u8.wrap (arith .or .i64 128 n)) 32 else IntKind.u8.wrap (arith .or .i64 128 n)) 16
   else if p=true then arith .or .u8 (IntKind.u8.wrap (arith .or .i64 128 n)) 32 else IntKind.u8.wrap (arith .or .i64 128 n))=((UInt8.ofNat (128+32*p.toNat+16*e.toNat+n)).toNat:Int):=by decide+kernel
theorem atu:∀n:Nat,n<128->∀m:Bool,(if m=true then arith .or .u8 (IntKind.u8.wrap (n:Int)) 128 else IntKind.u8.wrap (n:Int))=((UInt8.ofNat (128*m.toNat+n)).toNat:Int):=by decide+kernel
theorem aea(l:List Nat)(i:Nat)(h:i<l.length):words (l.take (i+1))=words (l.take i)++fq 4 (l.getD i 0):=by
 rw[nM h];simp only[words,gW,List.flatten_append];simp[List.getD,h]
theorem agy{l:List Nat}{i:Nat}(h:i<l.length):l.getD i 0∈l:=by
 simp[List.getD,h]
def Jr(h:Hd):List UInt8:=if h.right then h.bytes else []
def Jq(h:Hd):Int:=if h.right then 0 else 1
theorem aq3(h:Hd)(ho:h.ok):PC prog acY [(Me,Gm h)] [(aV,B (Jr h)),(I64,.int (Jq h))]:=by
 apply aps rfl;simp only[aa7,aJ,aG,bJ];refine⟨_,Q9 h,fun hr=>?_,fun hr=>?_⟩
 .simp only[lI,pV]at hr;rw[Jr,Jq,zq hr,zq hr];rfl
 simp only[lI,dQ]at hr;have:=hr;obtain⟨h1,h2,h3⟩:=this;obtain⟨o1,o2,o3,o4⟩:=ho;obtain⟨t,ht⟩:∃t:Nat,h.typ=t:=⟨h.typ.toNat,by omega⟩;have f1:=avp h.eU.length h3 h.pad h.ext;have f2:=atu t (by omega) h.mark;have f3:arith .shr .u16 (h.seq:Int) 8=((h.seq/2^8:Nat):Int):=by rw[vG];simp[IntKind.bits]
 have e4: [C.int ((UInt8.ofNat (128+32*h.pad.toNat+16*h.ext.toNat+h.eU.length)).toNat:Int),C.int ((UInt8.ofNat (128*h.mark.toNat+t)).toNat:Int),C.int ((UInt8.ofNat (h.seq/2^8)).toNat:Int),C.int ((UInt8.ofNat h.seq).toNat:Int)]=
   ofBytes (UInt8.ofNat h.first::UInt8.ofNat h.second::fq 2 h.seq):=by
  simp[ofBytes,fq,Hd.first,Hd.second,ht]
 rw[ht,f1,f2,f3,wH,wH,e4];have e0:List.replicate (Int.toNat 0) (C.int 0)=[]:=rfl;rw[e0,iw,bD];refine⟨by omega,by omega,by omega,by omega,by simp,_,Rq _ _ o2 (by simp),_,Rq _ _ o3 (by simp),?_⟩;refine VC.jw (fun i:Nat=> [B ((UInt8.ofNat h.first::UInt8.ofNat h.second::fq 2 h.seq)++fq 4 h.time++fq 4 h.bZ++words (h.eU.take i)),.int i]) (fun i=>i<=h.eU.length) (fun i=>h.eU.length-i) 0 ?_ (cu _) fun i hi=>?_
 .simp only[kM];simp[words]
 simp only[aJ,aG,bJ];have hwl:=ML (h.eU.take i);rw[jV]at hwl;refine⟨fun hc=>⟨by omega,by omega,?_⟩,fun hc=>?_⟩
 .rw[dF,RI _ _ (by omega)];refine⟨_,Rq _ _ (o4 _ (agy (by omega))) (by simp;omega),by omega,i+1,?_,by omega,by omega⟩;rw[aea _ _ (by omega)];simp
 rw[mO (by omega),Jr,Jq,aC hr,aC hr];simp[Hd.bytes]
theorem QT(b:List UInt8)(i:Nat)(hi:i+4<=b.length)(hb:b.length<=9223372036854775807):PC prog abN [(aV,B b),(I64,.int i)] [(U32,.int (num b i 4))]:=by
 apply an5 rfl;simp only[ZY,aJ,aG];refine⟨_,_,sP b i 4 hb,?_⟩;have e:qx b.length i 4=0:=by rw[zi];omega
 have hl:=qL b i 4;have e2:mX b i 4=num b i 4:=by rw[mX,aC e];rfl
 rw[dV,e2,Og];congr 3
 omega
theorem bits:∀x:Nat,x<256->arith .shr .u8 x 6=((x/64:Nat):Int)/\arith .and .u8 x 15=((x%16:Nat):Int)/\(decide (arith .and .u8 x 32≠0))=decide (x/32%2=1)/\(decide (arith .and .u8 x 16≠0))=decide (x/16%2=1)/\
  (decide (arith .and .u8 x 128≠0))=decide (128<=x)/\arith .and .u8 x 127=((x%128:Nat):Int)/\arith .quo .u8 x 64=((x/64:Nat):Int)/\arith .rem .u8 x 16=((x%16:Nat):Int)/\arith .rem .u8 x 128=((x%128:Nat):Int)/\
  (decide (arith .rem .u8 (arith .quo .u8 x 32) 2=1))=decide (x/32%2=1)/\(decide (arith .rem .u8 (arith .quo .u8 x 16) 2=1))=decide (x/16%2=1):=by decide+kernel
theorem uj(b:List UInt8)(i:Nat):(((b.getD i 0).toNat:Nat):Int)=(at_ b i:Int):=rfl
theorem HZ{b:List UInt8}{e:Int}(h:qb b=e)(he:e≠0):Gm (Js b)=.ls [.bool false,.bool false,.bool false,.int 0,.int 0,.int 0,.int 0,.ls []]/\hdN b=0:=by
 rw[Js,hdN,zq (by rw[h];exact he),zq (by rw[h];exact he)];exact⟨rfl,rfl⟩
theorem afA(n:Nat)(h:n<65536):IntKind.i64.wrap (n:Int)=n:=lY (by omega)
theorem az5(b:List UInt8)(h:4<=b.length):arith .or .u16 (arith .shl .u16 (IntKind.u16.wrap (at_ b 2:Int)) 8) (IntKind.u16.wrap (at_ b 3:Int))=(num b 2 2:Int):=by
 have h2:=gN b 2;have h3:=gN b 3;have e1:IntKind.u16.wrap (at_ b 2:Int)=(at_ b 2:Int):=by rw[G9];omega
 have e2:IntKind.u16.wrap (at_ b 3:Int)=(at_ b 3:Int):=by rw[G9];omega
 have e3:arith .shl .u16 (at_ b 2:Int) 8=((at_ b 2*2^8:Nat):Int):=by
  rw[wG,G9];simp[IntKind.bits];omega
 rw[e1,e2,e3,CS rfl (by show _<2^16;omega) (by show _<2^16;omega),Bv _ _ _ (by omega)];have e4:(b.drop 2).take 2=[b.getD 2 0,b.getD 3 0]:=by
  match b,h with
  |_::_::x::y::l,_=>rfl
 simp[num,e4,at_,be]
theorem av5(b:List UInt8)(i:Nat):((List.range (i+1)).map fun j=>num b (12+4*j) 4)=((List.range i).map fun j=>num b (12+4*j) 4)++ [num b (12+4*i) 4]:=by
 rw[F4,gW];rfl
theorem asy(b:List UInt8)(hb:b.length<=140737488355328):PC prog adV [(aV,B b)] [(Me,Gm (Js b)),(I64,.int (hdN b)),(I64,.int (qb b))]:=by
 apply aqT rfl;have i0:Int.toNat 0=0:=rfl;have i1:Int.toNat 1=1:=rfl;have i2:Int.toNat 2=2:=rfl;have i3:Int.toNat 3=3:=rfl;obtain⟨q1,q2,q3,q4,_,_,_⟩:=bits (at_ b 0) (gN b 0);obtain⟨_,_,_,_,q5,q6,_⟩:=bits (at_ b 1) (gN b 1);have q7:=afA (at_ b 0%16) (by omega);have q8:=afA (at_ b 1%128) (by omega);simp only[ace,aJ,aG,bD,mR,i0,uj,q1,q2,q7];refine⟨fun hc=>?_,fun hc=>⟨by omega,fun hv=>?_,fun hv=>⟨by omega,by omega,by omega,fun hs=>?_,fun hs=>⟨by omega,by omega,by omega,by omega,by omega,by omega,?_⟩⟩⟩⟩
 .have e:qb b=2:=by unfold qb;rw[aC (by omega)]
  rw[(HZ e (by decide)).1,(HZ e (by decide)).2,e];rfl
 .have e:qb b=3:=by unfold qb;rw[zq (by omega),aC (by omega)]
  rw[(HZ e (by decide)).1,(HZ e (by decide)).2,e];rfl
 .have e:qb b=2:=by unfold qb;rw[zq (by omega),zq (by omega),aC (by omega)]
  rw[(HZ e (by decide)).1,(HZ e (by decide)).2,e];rfl
 have e:qb b=0:=by rw[N7];omega
 refine⟨_,QT b 4 (by omega) (by omega),_,QT b 8 (by omega) (by omega),?_⟩;refine VC.jw (fun i:Nat=> [.int i,Ns ((List.range i).map fun j=>num b (12+4*j) 4)]) (fun i=>i<=at_ b 0%16) (fun i=>at_ b 0%16-i) 0 rfl (cu _) fun i hi=>?_;simp only[aJ,aG,mR,i0,i1,i2,i3,uj,q2,q7,q3,q4,q5,q6,q8,bJ,I8];refine⟨fun hc=>⟨by omega,by omega,?_⟩,fun hc=>?_⟩
 .have ei:(12:Int)+4*(i:Int)=((12+4*i:Nat):Int):=by omega
  rw[ei];refine⟨_,QT b (12+4*i) (by omega) (by omega),by simp;omega,by omega,i+1,?_,by omega,by omega⟩;rw[av5,atH];simp
 have hi2:i=at_ b 0%16:=by omega
 rw[az5 b (by omega),Js,hdN,aC e,aC e,e,hi2];simp[Hd.of]
abbrev qA:Sh:=.jc Me (.jc U16 (.jc aV (.jc aV (.jc I64 .je))))
abbrev oJ(k:Pk):C:=.ls [Gm k.hd,.int (k.aQ:Int),B k.ext,B k.pay,.int (k.pad:Int)]
theorem Rv(b:List UInt8)(hb:b.length<=1000000):PC prog adQ [(aV,B b)] [(I64,.int (jR b:Int)),(I64,.int (if jR b=0 then 5 else 0))]:=by
 apply aqO rfl;simp only[ab6,aJ,aG,bD];have hlt:=gN b (b.length-1);refine⟨fun h0=>?_,fun h0=>?_⟩
 .have h0:b.length=0:=by omega
  unfold jR;rw[aC h0];rfl
 have h0:¬b.length=0:=by omega
 have e1:((b.length:Int)-1).toNat=b.length-1:=by omega
 have e2:((ofBytes b).getD ((b.length:Int)-1).toNat default).toInt=(at_ b (b.length-1):Int):=by
  rw[e1,mR];rfl
 rw[e2];have e3:IntKind.i64.wrap (at_ b (b.length-1):Int)=(at_ b (b.length-1):Int):=by unfold IntKind.wrap;simp[IntKind.bits,IntKind.signed];omega
 rw[e3];unfold jR;rw[zq h0];refine⟨by omega,by omega,by omega,fun h=>?_,fun h=>?_⟩
 .rw[aC (by omega)];rfl
 rw[zq (by omega),zq (by omega)]
theorem JC(b:List UInt8)(hb:b.length<=1000000):PC prog abJ [(aV,B b)] [(aV,B b)]:=by
 apply an1 rfl;simp only[ZU,aJ,aG,bD];refine⟨fun h0=>?_,fun h0=>?_⟩
 .obtain rfl:b=[]:=oC (by omega);rfl
 have:=uo [b] (by simp) (by simp;omega);simp only[List.flatten_cons,List.flatten_nil,lV]at this;exact⟨_,this,rfl⟩
theorem wV(n:Nat)(h:n<=1000000):arith .rem .i64 (n:Int) 4=((n%4:Nat):Int)/\arith .quo .i64 (n:Int) 4=((n/4:Nat):Int):=by
 constructor
 .show (n:Int).tmod ((4:Nat):Int)=_;rw[<-Int.ofNat_tmod]
 show IntKind.i64.wrap ((n:Int).tdiv 4)=_;have:(n:Int).tdiv 4=((n/4:Nat):Int):=by
  show(n:Int).tdiv ((4:Nat):Int)=_;rw[<-Int.ofNat_tdiv]
 rw[this];unfold IntKind.wrap;simp[IntKind.bits,IntKind.signed];omega
theorem apR(k:Pk)(hb:k.ext.length<=1000000):PC prog abL [(qA,oJ k)] [(.bool,.bool (decide k.fits))]:=by
 apply an3 rfl;simp only[ZW,aJ,aG,bD];obtain⟨r1,r2⟩:=wV k.ext.length hb;rw[r1,r2];refine⟨_,Q9 k.hd,fun h=>?_,fun h=>⟨fun h2=>?_,fun h2=>⟨fun h3=>?_,fun h3=>?_⟩⟩⟩
 .congr 3
  symm
  rw[pV];rintro⟨f1,f2,f3,f4,f5⟩;rcases h with(h|h)|h
  .simp[f1]at h
  .omega
  omega
 .congr 3
  symm
  rw[pV];rintro⟨f1,f2,f3,f4,f5⟩;obtain⟨h2,h3⟩:=h2;obtain⟨g1,g2⟩:=f4 h2;rw[g1,g2]at h3;simp at h3
 all_goals
  have hk:k.hd.right/\k.ext.length%4=0/\k.ext.length/4<=65535/\(k.hd.ext=false->k.aQ=0/\k.ext=[]):=by
   obtain⟨h1,h4⟩:=h;simp only[not_or,lI,pV,Jj]at h1;refine⟨h1.1,by omega,by omega,fun he=>?_⟩;rcases h2 with h2|h2
   .exact absurd he h2
   .exact ⟨by omega,oC (by omega)⟩
  obtain⟨k1,k2,k3,k4⟩:=hk;have hf:k.fits↔(if k.hd.pad then 1<=k.pad/\k.pad<=255 else k.pad=0):=⟨fun hh=>hh.2.2.2.2,fun hh=>⟨k1,k2,k3,k4,hh⟩⟩;rw[h3]at hf;congr 3
  by_cases hq:k.fits
  .have:=hf.1 hq;simp only[eO,xk,pY]at this;rw[iH hq];first
   |(rw[aC (by omega)];simp;omega)
   |(simp;omega)
  have:=mt hf.2 hq;simp only[eO,xk,pY]at this;rw[gQ hq];first
  |(split<;>simp<;>omega)
  |(simp;omega)
theorem abB(k:Pk)(hr:k.hd.right)(hb:k.ext.length<=1000000)(hp:k.pay.length<=1000000)(hd:k.pad<=1000000):PC prog acU [(qA,oJ k)] [(I64,.int (k.sum:Int))]:=by
 apply apn rfl;simp only[aa3,aJ,aG,bD];have h1:=asx k.hd;rw[aC hr]at h1;have h3:=hr.2.2;refine⟨_,h1,?_⟩;simp only[dV];refine⟨by omega,by omega,fun _=>by omega,fun _=>by omega,?_⟩;unfold Pk.sum;cases k.hd.ext<;>simp<;>omega
theorem Gn(k:Pk)(hb:k.ext.length<=1000000)(hp:k.pay.length<=1000000)(hd:k.pad<=1000000):PC prog aay [(qA,oJ k)] [(.bool,.bool (decide k.right))]:=by
 apply anm rfl;simp only[Zk,aJ,aG];refine⟨_,apR k hb,?_⟩;by_cases hf:k.fits
 .refine ⟨_,fun _=>abB k hf.1 hb hp hd,?_⟩;unfold Pk.right;simp only[hf,dV,true_and,decide_true,eO,lI];congr 3
  rw[Cj,dQ,dQ];omega
 refine ⟨.int 0,fun h=>by simp[hf]at h,?_⟩;unfold Pk.right;simp[hf]
theorem Sb(b:List UInt8)(n:Nat)(h1:1<=n)(h2:n<=255)(hb:b.length<=1000000):PC prog afJ [(aV,B b),(I64,.int (n:Int))] [(aV,B (b++trail n)),(I64,.int 0)]:=by
 apply atB rfl;simp only[aec,aJ,aG,bD];refine⟨fun h=>by omega,fun _=>⟨by omega,by omega,by omega,by omega,by omega,by omega,by omega,?_⟩⟩;have e0:((b.length:Int)+n).toNat=b.length+n:=by omega
 have e1:((b.length:Int)+n-1).toNat=b.length+(n-1):=by omega
 have e2:IntKind.u8.wrap (n:Int)=((UInt8.ofNat n).toNat:Int):=by unfold IntKind.wrap;simp[IntKind.bits,IntKind.signed]
 have e3:List.take (b.length+n) (ofBytes b)=ofBytes b:=mO (by simp);rw[e0,e1,e2];simp only[Aw,xu,e3];congr 3
 unfold jr trail;rw[zq (by omega)];obtain⟨m,rfl⟩:∃m,n=m+1:=⟨n-1,by omega⟩;simp only[Nat.add_sub_cancel,vY,iw,qV,Nat.sub_zero,bD,mO (show(ofBytes b).length<=b.length+(m+1) by simp),kD,List.drop_replicate];rw[show b.length+(m+1)-b.length=m+1 by omega,List.set_append_right _ _ (by simp),bD,xA];rw[<-AQ,<-AQ];congr 1
 have e4:ofBytes (List.replicate m 0)=List.replicate m (C.int 0):=by simp[ofBytes]
 rw[e4,List.replicate_succ',List.set_append_right _ _ (by simp),qV,Nat.sub_self];rfl
theorem be2(L:List UInt8)(i:Nat)(h:i+2<=L.length):num L i 2=at_ L i*256+at_ L (i+1):=by
 unfold num;have e:(L.drop i).take 2=[L.getD i 0,L.getD (i+1) 0]:=by
  rw[Es (show i<L.length by omega),Es (show i+1<L.length by omega),Cb,Cb,vY];simp[at_]
 rw[e];simp[be,at_]
theorem azO(L:List UInt8)(i:Nat)(h:i+2<=L.length):arith .or .i64 (arith .shl .i64 (IntKind.i64.wrap ((L.getD i 0).toNat:Int)) 8) (IntKind.i64.wrap ((L.getD (i+1) 0).toNat:Int))=(num L i 2:Int):=by
 have h1:=gN L i;have h2:=gN L (i+1);rw[be2 L i h];show arith .or .i64 (arith .shl .i64 (IntKind.i64.wrap (at_ L i:Int)) 8) (IntKind.i64.wrap (at_ L (i+1):Int))=_;have w:∀n:Nat,n<256->IntKind.i64.wrap (n:Int)=(n:Int):=fun n hn=>by unfold IntKind.wrap;simp[IntKind.bits,IntKind.signed];omega
 have w2:∀n:Nat,n<65536->IntKind.i64.wrap (n:Int)=(n:Int):=fun n hn=>by unfold IntKind.wrap;simp[IntKind.bits,IntKind.signed];omega
 rw[w _ h1,w _ h2,wG];have e1:(at_ L i:Int)*2^(min (8:Int).toNat IntKind.i64.bits)=((at_ L i*256:Nat):Int):=by simp[IntKind.bits]
 rw[e1,w2 _ (by omega),afZ (by simp[IntKind.bits];omega) (by simp[IntKind.bits];omega)];rw[show at_ L i*256=at_ L i*2^8 by rfl,Bv _ 8 _ (by omega)]
theorem azN(L:List UInt8)(i:Nat)(h:i+2<=L.length):arith .or .u16 (arith .shl .u16 (IntKind.u16.wrap ((L.getD i 0).toNat:Int)) 8) (IntKind.u16.wrap ((L.getD (i+1) 0).toNat:Int))=(num L i 2:Int):=by
 have h1:=gN L i;have h2:=gN L (i+1);rw[be2 L i h];show arith .or .u16 (arith .shl .u16 (IntKind.u16.wrap (at_ L i:Int)) 8) (IntKind.u16.wrap (at_ L (i+1):Int))=_;have w2:∀n:Nat,n<65536->IntKind.u16.wrap (n:Int)=(n:Int):=fun n hn=>by unfold IntKind.wrap;simp[IntKind.bits,IntKind.signed];omega
 rw[w2 _ (by omega),w2 _ (by omega),wG];have e1:(at_ L i:Int)*2^(min (8:Int).toNat IntKind.u16.bits)=((at_ L i*256:Nat):Int):=by simp[IntKind.bits]
 rw[e1,w2 _ (by omega),CS rfl (by show _<2^16;omega) (by show _<2^16;omega)];rw[show at_ L i*256=at_ L i*2^8 by rfl,Bv _ 8 _ (by omega)]
theorem TH(b:List UInt8)(p i n:Nat):num (b.drop p) i n=num b (p+i) n:=by unfold num;rw[xq]
theorem Hz{b:List UInt8}{e:Int}(he:fE b=e)(h:e≠0):oJ (uR b)=.ls [.ls [.bool false,.bool false,.bool false,.int 0,.int 0,.int 0,.int 0,.ls []],.int 0,.ls [],.ls [],.int 0]/\Mj b=[]:=by
 unfold uR Mj;rw[he,zq h,zq h];exact⟨rfl,rfl⟩
theorem Oo{b:List UInt8}(he:fE b=0):oJ (uR b)=.ls [Gm (Hd.of b),.int ((if(Hd.of b).ext then num b (hdN b) 2 else 0:Nat):Int),B (if(Hd.of b).ext then(b.drop (hdN b+4)).take (4*num b (hdN b+2) 2)else []),B ((iD b).take ((iD b).length-jK b)),.int (jK b:Int)]/\Mj b=(iD b).drop ((iD b).length-jK b):=by
 unfold uR Mj;rw[aC he,aC he];exact⟨rfl,rfl⟩
theorem apQ(b:List UInt8)(hb:b.length<=1000000):PC prog abK [(aV,B b)] [(qA,oJ (uR b)),(aV,B (Mj b)),(I64,.int (fE b))]:=by
 apply an2 rfl;simp only[ZV,aJ,aG,bD];refine⟨fun h=>?_,fun h=>?_⟩
 .have e:fE b=4:=by unfold fE;rw[aC (by omega)]
  obtain⟨q1,q2⟩:=Hz e (by decide);rw[q1,q2,e];rfl
 refine ⟨_,_,_,asy b (by omega),fun he=>?_,fun he=>?_⟩
 .have he:qb b≠0:=he;have e:fE b=qb b:=by unfold fE;rw[zq (by omega),aC he]
  obtain⟨q1,q2⟩:=Hz e he;rw[q1,q2,e];rfl
 have he:qb b=0:=he;have hz:=N7.1 he;have hN:hdN b=12+4*(at_ b 0%16):=by unfold hdN;rw[aC he]
 have hH:Js b=Hd.of b:=by unfold Js;rw[aC he]
 have h65:¬65535<b.length:=by omega
 have hE:fE b=if(Hd.of b).ext=true/\(b.length<hdN b+4\/b.length<hdN b+4+4*num b (hdN b+2) 2)then 2 else if(Hd.of b).pad=true/\jR (iD b)=0 then 5 else 0:=by
  unfold fE;rw[zq h65,zq (fun h=>h he)]
 rw[hH];simp only[dV,dF,wE,xL,jQ,mR,bD,Aw,xu,show(1:Int).toNat=1 from rfl,show(2:Int).toNat=2 from rfl,show(3:Int).toNat=3 from rfl,show(4:Int).toNat=4 from rfl];have hn0:=TH b (hdN b) 0 2;have hn2:=TH b (hdN b) 2 2;have hdl:(b.drop (hdN b)).length=b.length-hdN b:=by simp
 have hd4:(b.drop (hdN b)).drop 4=b.drop (hdN b+4):=by rw[xq]
 generalize hL:b.drop (hdN b)=L at hn0 hn2 hdl hd4;refine⟨by omega,by omega,by omega,fun hx=>⟨fun hs=>?_,fun hs=>?_⟩,fun hx=>?_⟩
 .have hx:(Hd.of b).ext=true:=hx;have e:fE b=2:=by rw[hE,aC ⟨hx,by omega⟩]
  obtain⟨q1,q2⟩:=Hz e (by decide);rw[q1,q2,e];rfl
 .have hx:(Hd.of b).ext=true:=hx;have hw:=azO L 2 (by omega);rw[hw];have hlt:=qL L 2 2;rw[hd4];generalize hM:b.drop (hdN b+4)=M;have hMl:M.length=b.length-(hdN b+4):=by rw[<-hM];simp
  generalize hwn:num L 2 2=wn at hn2 hlt;have e4:(4*(wn:Int)).toNat=4*wn:=by omega
  rw[e4];refine⟨by omega,by omega,by omega,by omega,by omega,by omega,by omega,fun hs2=>?_,fun hs2=>?_⟩
  .have e:fE b=2:=by rw[hE,aC ⟨hx,by omega⟩]
   obtain⟨q1,q2⟩:=Hz e (by decide);rw[q1,q2,e];rfl
  .have hno:¬((Hd.of b).ext=true/\(b.length<hdN b+4\/b.length<hdN b+4+4*num b (hdN b+2) 2)):=fun hh=>by
    have:=hh.2;omega
   have hu:=azN L 0 (by omega);rw[hu,hn0,qE];have hT:iD b=M.drop (4*wn):=by unfold iD;rw[aC hx,hM,<-hn2]
   refine⟨by omega,by omega,_,JC _ (by simp;omega),by omega,by omega,by omega,?_⟩;generalize hTT:M.drop (4*wn)=T at hT;have WS:T.length<=1000000:=by rw[<-hTT];simp;omega
   obtain⟨t1,t2,_⟩:=OQ T;refine⟨fun hp=>⟨_,_,Rv T WS,fun hy=>?_,fun hy=>?_⟩,fun hp=>?_⟩
   .have hp:(Hd.of b).pad=true:=hp;have hy:(if jR T=0 then(5:Int)else 0)≠0:=hy;have ht:jR T=0:=by
     by_cases h0:jR T=0
     .exact h0
     .rw[zq h0]at hy;exact absurd rfl hy
    have e:fE b=5:=by rw[hE,zq hno,aC ⟨hp,by rw[hT];exact ht⟩]
    obtain⟨q1,q2⟩:=Hz e (by decide);rw[q1,q2,e];rfl
   .have hp:(Hd.of b).pad=true:=hp;have hy:(if jR T=0 then(5:Int)else 0)=0:=hy;have ht:jR T≠0:=by
     intro h0;rw[aC h0]at hy;cases hy
    have e:fE b=0:=by rw[hE,zq hno,zq (fun hh=>ht (by rw[<-hT];exact hh.2))]
    have hpp:jK b=jR T:=by unfold jK;rw[aC hp,hT]
    obtain⟨q1,q2⟩:=Oo e;rw[hpp,hT]at q1 q2;rw[q1,q2,e,aC hx,aC hx];have e5:((T.length:Int)-(jR T:Int)).toNat=T.length-jR T:=by omega
    simp only[dV,e5];refine⟨by omega,by omega,by omega,_,JC _ (by simp;omega),by omega,by omega,by omega,?_⟩;rw[hM,<-hn2];rfl
   .have hp:(Hd.of b).pad=false:=hp;have e:fE b=0:=by rw[hE,zq hno,zq (fun hh=>by rw[hp]at hh;cases hh.1)]
    have hpp:jK b=0:=by unfold jK;rw[zq (by rw[hp];decide)]
    obtain⟨q1,q2⟩:=Oo e;rw[hpp,hT]at q1 q2;rw[q1,q2,e,aC hx,aC hx];have e5:((T.length:Int)-0).toNat=T.length-0:=by omega
    simp only[e5];refine⟨by omega,by omega,by omega,_,JC _ (by simp;omega),by omega,by omega,by omega,?_⟩;rw[hM,<-hn2];rfl
 have hx:¬(Hd.of b).ext=true:=fun hh=>by
  have h3:(Hd.of b).ext=false:=hx;rw[h3]at hh;cases hh
 have hno:¬((Hd.of b).ext=true/\(b.length<hdN b+4\/b.length<hdN b+4+4*num b (hdN b+2) 2)):=fun hh=>hx hh.1;have hT:iD b=L:=by unfold iD;rw[zq hx,hL]
 clear hd4 hn0 hn2;revert hT hdl;generalize L=T;intro hdl hT;have WS:T.length<=1000000:=by omega
 obtain⟨t1,t2,_⟩:=OQ T;refine⟨fun hp=>⟨_,_,Rv T WS,fun hy=>?_,fun hy=>?_⟩,fun hp=>?_⟩
 .have hp:(Hd.of b).pad=true:=hp;have hy:(if jR T=0 then(5:Int)else 0)≠0:=hy;have ht:jR T=0:=by
   by_cases h0:jR T=0
   .exact h0
   .rw[zq h0]at hy;exact absurd rfl hy
  have e:fE b=5:=by rw[hE,zq hno,aC ⟨hp,by rw[hT];exact ht⟩]
  obtain⟨q1,q2⟩:=Hz e (by decide);rw[q1,q2,e];rfl
 .have hp:(Hd.of b).pad=true:=hp;have hy:(if jR T=0 then(5:Int)else 0)=0:=hy;have ht:jR T≠0:=by
   intro h0;rw[aC h0]at hy;cases hy
  have e:fE b=0:=by rw[hE,zq hno,zq (fun hh=>ht (by rw[<-hT];exact hh.2))]
  have hpp:jK b=jR T:=by unfold jK;rw[aC hp,hT]
  obtain⟨q1,q2⟩:=Oo e;rw[hpp,hT]at q1 q2;rw[q1,q2,e,zq hx,zq hx];have e5:((T.length:Int)-(jR T:Int)).toNat=T.length-jR T:=by omega
  simp only[dV,e5];refine⟨by omega,by omega,by omega,_,JC _ (by simp;omega),by omega,by omega,by omega,?_⟩;rfl
 have hp:(Hd.of b).pad=false:=hp;have e:fE b=0:=by rw[hE,zq hno,zq (fun hh=>by rw[hp]at hh;cases hh.1)]
 have hpp:jK b=0:=by unfold jK;rw[zq (by rw[hp];decide)]
 obtain⟨q1,q2⟩:=Oo e;rw[hpp,hT]at q1 q2;rw[q1,q2,e,zq hx,zq hx];have e5:((T.length:Int)-0).toNat=T.length-0:=by omega
 simp only[e5];refine⟨by omega,by omega,by omega,_,JC _ (by simp;omega),by omega,by omega,by omega,?_⟩;rfl
theorem JD(b:List UInt8)(hb:b.length<=1000000):PC prog abM [(aV,B b)] [(qA,oJ (uR b)),(I64,.int (fE b))]:=by
 apply an4 rfl;simp only[ZX,aJ,aG];exact⟨_,_,_,apQ b hb,rfl⟩
def yx(k:Pk)(room:Int):Int:=if ¬k.right then 1 else if room<k.sum then 7 else 0
def LG(k:Pk)(room:Int):List UInt8:=if yx k room=0 then k.bytes else []
theorem av7{k:Pk}{room:Int}:yx k room=0↔k.right/\(k.sum:Int)<=room:=by
 unfold yx;split
 next h=>simp[h]
 .rename_i h;have h:k.right:=Jj.1 h;split
  .simp;omega
  simp[h];omega
theorem FL(k:IntKind)(n j:Nat)(hj:j<=k.bits):arith .shr k ((n:Nat):Int) ((j:Nat):Int)=((n/2^j:Nat):Int):=by
 rw[vG,dF,u6 hj];simp
abbrev DX:Sh:=.jc I64 (.jc I64 (.jc I64 .je))
abbrev CF(s:Sp):C:=.ls [.int (s.id:Int),.int (s.pos:Int),.int (s.size:Int)]
abbrev Ei(l:List Sp):C:=.ls (l.map CF)
abbrev If1:Sh:=.dB 221 .je
abbrev If2:Sh:=.dB 222 .je
theorem two_bytes(kk:IntKind)(h8:8<=kk.bits)(v:Nat): [C.int (IntKind.u8.wrap (arith .shr kk (v:Int) 8)),C.int (IntKind.u8.wrap (v:Int))]=ofBytes (fq 2 v):=by
 have e:=FL kk v 8 h8;rw[show((8:Nat):Int)=8 from rfl]at e;rw[e,wH,wH];simp[fq,ofBytes]
theorem aoo(k:Pk)(room:Int)(ho:k.ok)(hb:k.ext.length<=1000000)(hp:k.pay.length<=1000000)(hd:k.pad<=1000000):PC prog aax [(qA,oJ k),(I64,.int room)] [(aV,B (LG k room)),(I64,.int (yx k room))]:=by
 apply anl rfl;simp only[Zj,aJ,aG,bD];refine⟨_,Gn k hb hp hd,fun hr=>?_,fun hr=>?_⟩
 .have hr:¬k.right:=by simpa using hr
  have e:yx k room=1:=by unfold yx;rw[aC hr]
  unfold LG;rw[e];rfl
 have hr:k.right:=by simpa using hr
 have hl:=MN k (trail k.pad) (aga (by have:=hr.1.2.2.2.2;split at this<;>omega)).1;have hs:=hr.2;refine⟨_,abB k hr.1.1 hb hp hd,fun h=>?_,fun h=>?_⟩
 .have h:room<(k.sum:Int):=h;have e:yx k room=7:=by unfold yx;rw[zq (fun hh=>hh hr),aC h]
  unfold LG;rw[e];rfl
 have h:¬room<(k.sum:Int):=by simpa using h
 have e:yx k room=0:=av7.2 ⟨hr,by omega⟩;have eb:LG k room=k.bytes:=aC e;have hw:=aq3 k.hd ho.1;have Jr:Jr k.hd=k.hd.bytes:=aC hr.1.1;have Jq:Jq k.hd=0:=aC hr.1.1;rw[Jr,Jq]at hw;rw[e,eb];refine⟨_,_,hw,fun h2=>absurd rfl h2,fun _=>?_⟩;obtain⟨_,rq⟩:=wV k.ext.length hb;rw[rq];have hab: [C.int (IntKind.u8.wrap (arith .shr .u16 (k.aQ:Int) 8)),C.int (IntKind.u8.wrap (k.aQ:Int)),C.int (IntKind.u8.wrap (arith .shr .i64 ((k.ext.length/4:Nat):Int) 8)),C.int (IntKind.u8.wrap ((k.ext.length/4:Nat):Int))]=ofBytes (fq 2 k.aQ++fq 2 (k.ext.length/4)):=by
  rw[<-AQ,<-two_bytes .u16 (by decide),<-two_bytes .i64 (by decide)];rfl
 rw[hab];have hlen:=hl;unfold Dw at hlen;simp only[cO]at hlen;have htr:∀X:List UInt8,X++(k.pay++trail k.pad)=X++k.pay++trail k.pad:=fun X=>by rw[gJ]
 have hby:k.bytes=k.hd.bytes++vS k++k.pay++trail k.pad:=by unfold Pk.bytes Dw;simp only[gJ]
 have Af:=hr.1.2.2.2.2;refine⟨fun hx=>?_,fun hx=>?_⟩
 .have hex:vS k=fq 2 k.aQ++(fq 2 (k.ext.length/4)++k.ext):=aC hx;have j1:=uo [k.hd.bytes,fq 2 k.aQ++fq 2 (k.ext.length/4),k.ext] (by simp) (by rw[hex]at hlen;simp at hlen |-;omega);have j2:=uo [k.hd.bytes++vS k,k.pay] (by simp) (by simp;omega);have f1: [k.hd.bytes,fq 2 k.aQ++fq 2 (k.ext.length/4),k.ext].flatten=k.hd.bytes++vS k:=by rw[hex];simp
  have f2: [k.hd.bytes++vS k,k.pay].flatten=k.hd.bytes++vS k++k.pay:=by simp
  rw[f1]at j1;rw[f2]at j2;refine⟨_,j1,_,j2,fun hq=>?_,fun hq=>?_⟩
  .rw[aC hq]at Af;exact⟨_,_,Sb _ k.pad Af.1 Af.2 (by simp;omega),by rw[hby]⟩
  .rw[zq (by rw[hq];decide)]at Af;rw[hby,Af];simp[trail]
 have hex:vS k=[]:=zq (by rw[hx];decide);have j2:=uo [k.hd.bytes,k.pay] (by simp) (by simp;omega);have f2: [k.hd.bytes,k.pay].flatten=k.hd.bytes++vS k++k.pay:=by rw[hex];simp
 rw[f2]at j2;refine⟨_,j2,fun hq=>?_,fun hq=>?_⟩
 .rw[aC hq]at Af;exact⟨_,_,Sb _ k.pad Af.1 Af.2 (by simp;omega),by rw[hby]⟩
 rw[zq (by rw[hq];decide)]at Af;rw[hby,Af];simp[trail]
end Go.Vc
