/-
  Contracts of functions of the program, each out of its condition or by a walk, and plain lemmas.
-/
import Derived.Test.YtaehhpempnelhaaGreatDoorQTx5
set_option maxRecDepth 100000
namespace Go.Vc
open Go Go.Proofs Go.Plain Tryz
theorem P5(n:Nat)(h:n<9223372036854775807):arith .rem .i64 (n:Int) 4=((n%4:Nat):Int):=by
 rw[NA _ _ _ (by omega)];omega
theorem aiY(x:Nat)(_:x<256):arith .shr .u8 (x:Int) 4=((x/16:Nat):Int):=FL .u8 x 4 (by decide)
theorem U5(x:Nat)(h:x<256):arith .and .u8 (x:Int) 15=((x%16:Nat):Int):=by
 have:=EB (k:=.u8) rfl (a:=x) (b:=15) h (by decide);rw[show((15:Nat):Int)=15 from rfl]at this;rw[this,Je x 4]
theorem apL(x:Nat)(h:x<256):PC prog Yf [(.je,.ls []),(U8,.int (x:Int))] [(.bool,.bool (decide (x/16=15\/x/16=0)))]:=by
 apply amd rfl;simp only[XY,aJ,aiY x h];have e:(if(decide (((x/16:Nat):Int)=15))=true then true else decide (((x/16:Nat):Int)=0))=decide (x/16=15\/x/16=0):=by
  rw[Cj];by_cases h1:x/16=15
  .simp[h1]
  .have e1:¬((x/16:Nat):Int)=15:=by omega
   rw[zq (by simpa using e1)];simp only[dQ,h1,false_or];omega
 first
  |(rw[<-e];simp)
  |(simp only[dQ]at e |-;rw[e])
theorem apT(x:Nat):PC prog Yg [(.je,.ls []),(U8,.int (x:Int))] [(.bool,.bool false)]:=by
 apply ame rfl;simp only[XZ,aJ]
theorem aom(b:List UInt8)(h:0<b.length):PC prog X6 [(.je,.ls []),(aV,B b)] [(DX,.ls [.int ((at_ b 0/16:Nat):Int),.int 1,.int ((at_ b 0%16+1:Nat):Int)]),(.bool,.bool true)]:=by
 have hx:=gN b 0;apply al5 rfl;simp only[XK,aJ,aG,bD,mR,Aw,uj,aiY _ hx,U5 _ hx];rw[lY (by omega),lY (by omega)];refine⟨by omega,by omega,by omega,?_⟩;simp
theorem aor(b:List UInt8)(h:2<=b.length):PC prog QB [(.je,.ls []),(aV,B b)] [(DX,.ls [.int ((at_ b 0:Nat):Int),.int 2,.int ((at_ b 1:Nat):Int)]),(.bool,.bool true)]:=by
 have hx:=gN b 0;have hy:=gN b 1;apply XD rfl;simp only[QA,aJ,aG,bD,mR,Aw,Int.toNat_one,uj];rw[lY (by omega),lY (by omega)];refine⟨fun hc=>by omega,fun _=>⟨by omega,by omega,rfl⟩⟩
theorem aoq(b:List UInt8)(h:b.length<2):PC prog QB [(.je,.ls []),(aV,B b)] [(DX,.ls [.int 0,.int 0,.int 0]),(.bool,.bool false)]:=by
 apply XD rfl;simp only[QA,aJ,aG,bD];refine⟨fun hc=>trivial,fun hc=>by omega⟩
theorem FX(b:List UInt8)(k:Nat):B (b.drop k)=C.ls (List.drop k (List.take b.length (ofBytes b))):=by
 rw[mO (by simp),xL]
theorem agl(l:List Sp)(s:Sp):l.map CF++ [CF s]=(l++ [s]).map CF:=by simp
structure qy where
 p:Nat
 out:List Sp
 m:List C
def qy.enc(s:qy):List C:=[.ls [],.int 0,Ei s.out,.int (s.p:Int),.ls s.m]
def qy.inv(aD:Bool)(b:List UInt8)(s:qy):Prop:=s.p<=b.length/\wk aD b 0 []=wk aD b s.p s.out/\(∀x:Nat,jT s.m x=decide (x∈oO s.out))/\s.out.length<=s.p
theorem qy.next{aD:Bool}{b:List UInt8}{s:qy}(h:s.inv aD b)(h0:s.p<b.length)(h1:¬at_ b s.p=0)(h2:¬(aD=true/\(at_ b s.p/16=15\/at_ b s.p/16=0)))(h3:¬(aD=false/\b.length<=s.p+1))
  (h4:¬b.length<(dL aD b s.p).pos+(dL aD b s.p).size) (h5:¬(dL aD b s.p).id∈oO s.out):
  (qy.mk ((dL aD b s.p).pos+(dL aD b s.p).size) (s.out++ [dL aD b s.p]) (pQ s.m (dL aD b s.p).id (.bool true))).inv aD b/\b.length-((dL aD b s.p).pos+(dL aD b s.p).size)<b.length-s.p:=by
 obtain⟨i1,i2,i3,i4⟩:=h;have LV:=Kg aD b s.p;refine⟨⟨by simp only;omega,?_,fun x=>?_,?_⟩,by omega⟩
 .rw[i2,wk_step h0 h1 h2 h3 h4 h5]
 .simp only;rw[Ez,i3];by_cases hx:((dL aD b s.p).id:Int)=x
  .have:(dL aD b s.p).id=x:=by omega
   rw[aC hx];simp[oO,this]
  .have:¬x=(dL aD b s.p).id:=by omega
   rw[zq hx];simp[oO,this]
 simp only[cO,yJ];omega
theorem aq5(b:List UInt8)(hb:b.length<=1000000)(c0:C)(hc0:c0=.ls []):PC prog ac4 [(If1,c0),(aV,B b)] [(.sl DX,Ei (wk true b 0 []).1),(I64,.int (wk true b 0 []).2)]:=by
 subst hc0;apply apC rfl;simp only[abk,aJ];refine VC.jw qy.enc (qy.inv true b) (fun s=>b.length-s.p) ⟨0,[],[]⟩ (by simp[qy.enc,E.eval]) ⟨cu _,rfl,fun x=>by simp[CO,oO],aS _⟩ fun s hs=>?_;obtain⟨i1,i2,i3,i4⟩:=id hs;have hx:=gN b s.p;simp only[qy.enc,aJ,aG,bD,mR,dF,uj];refine⟨fun hc=>⟨by omega,by omega,fun hz=>?_,fun hz=>?_⟩,fun hc=>?_⟩
 .refine ⟨by omega,⟨s.p+1,s.out,s.m⟩,by simp,⟨by simp only;omega,?_,i3,by simp only;omega⟩,by simp only;omega⟩;rw[i2,He (by omega) (by omega)]
 .refine ⟨by omega,by omega,_,apL _ hx,?_⟩;simp only[kM];refine⟨fun he=>?_,fun he=>?_⟩
  .rw[i2,Kr (by omega) (by omega) ⟨rfl,he⟩]
  .have hbd:=aom (b.drop s.p) (by rw[lW];omega);rw[UO,qE,FX]at hbd;refine⟨by omega,by omega,by omega,_,_,hbd,?_⟩;simp only[kM,aG];refine⟨fun hf=>by simp at hf,by omega,by omega,fun hl=>?_,fun hl=>⟨fun ht=>?_,fun ht=>?_⟩⟩
   .rw[i2,Kt (by omega) (by omega) (by simp;omega) (by simp) (by simp[dL];omega)];rfl
   .have ht:jT s.m ((at_ b s.p/16:Nat):Int)=true:=ht;rw[i3]at ht;rw[i2,Ke (by omega) (by omega) (by simp;omega) (by simp) (by simp[dL];omega) (by simpa[dL]using ht)];rfl
   .have ht:jT s.m ((at_ b s.p/16:Nat):Int)=false:=ht;rw[i3]at ht;obtain⟨n1,n2⟩:=qy.next (aD:=true) hs (by omega) (by omega) (by simp;omega) (by simp) (by simp[dL];omega) (by simpa[dL]using ht);refine⟨?_,by omega,_,?_,n1,n2⟩
    .simp only[bJ,bR,eB];omega
    .simp only[dL,eO,<-agl];rw[show(1+(s.p:Int))=((s.p+1:Nat):Int) by omega,<-Ck];simp only[Ei,gW,jG,pU]
 rw[i2,Bq (by omega)]
theorem aq4(b:List UInt8)(hb:b.length<=1000000)(c0:C)(hc0:c0=.ls []):PC prog ac3 [(If2,c0),(aV,B b)] [(.sl DX,Ei (wk false b 0 []).1),(I64,.int (wk false b 0 []).2)]:=by
 subst hc0;apply apB rfl;simp only[abj,aJ];refine VC.jw qy.enc (qy.inv false b) (fun s=>b.length-s.p) ⟨0,[],[]⟩ (by simp[qy.enc,E.eval]) ⟨cu _,rfl,fun x=>by simp[CO,oO],aS _⟩ fun s hs=>?_;obtain⟨i1,i2,i3,i4⟩:=id hs;have hx:=gN b s.p;have hy:=gN b (s.p+1);simp only[qy.enc,aJ,aG,bD,mR,dF,uj];refine⟨fun hc=>⟨by omega,by omega,fun hz=>?_,fun hz=>?_⟩,fun hc=>?_⟩
 .refine ⟨by omega,⟨s.p+1,s.out,s.m⟩,by simp,⟨by simp only;omega,?_,i3,by simp only;omega⟩,by simp only;omega⟩;rw[i2,He (by omega) (by omega)]
 .refine ⟨by omega,by omega,_,apT _,?_⟩;simp only[kM,aG];by_cases h1:b.length<=s.p+1
  .have hbd:=aoq (b.drop s.p) (by rw[lW];omega);rw[FX]at hbd;refine⟨fun he=>by simp at he,by omega,by omega,by omega,_,_,hbd,?_⟩;simp only[kM,aG];refine⟨?_,fun hf=>by simp at hf⟩;rw[i2,NP (by omega) (by omega) (by simp) ⟨rfl,h1⟩];rfl
  .have hbd:=aor (b.drop s.p) (by rw[lW];omega);rw[UO,UO,qE,FX]at hbd;refine⟨fun he=>by simp at he,by omega,by omega,by omega,_,_,hbd,?_⟩;simp only[kM,aG];refine⟨fun hf=>by simp at hf,by omega,by omega,fun hl=>?_,fun hl=>⟨fun ht=>?_,fun ht=>?_⟩⟩
   .rw[i2,Kt (by omega) (by omega) (by simp) (by simp;omega) (by simp[dL];omega)];rfl
   .have ht:jT s.m ((at_ b s.p:Nat):Int)=true:=ht;rw[i3]at ht;rw[i2,Ke (by omega) (by omega) (by simp) (by simp;omega) (by simp[dL];omega) (by simpa[dL]using ht)];rfl
   .have ht:jT s.m ((at_ b s.p:Nat):Int)=false:=ht;rw[i3]at ht;obtain⟨n1,n2⟩:=qy.next (aD:=false) hs (by omega) (by omega) (by simp) (by simp;omega) (by simp[dL];omega) (by simpa[dL]using ht);refine⟨?_,by omega,_,?_,n1,n2⟩
    .simp only[bJ,bR,eB];omega
    .simp only[dL,xk,pY,<-agl];rw[show(2+(s.p:Int))=((s.p+2:Nat):Int) by omega,<-Ck];simp only[Ei,gW,jG,pU]
 rw[i2,Bq (by omega)]
theorem ayk(q:Nat)(h:q<65536):arith .and .u16 (q:Int) 65520=((q/16*16:Nat):Int):=by
 have:=EB (k:=.u16) rfl (a:=q) (b:=65520) h (by decide);rw[show((65520:Nat):Int)=65520 from rfl]at this;rw[this];congr 1
 have e:q/16*16=(q>>>4)<<<4:=by rw[Nat.shiftRight_eq_div_pow,Nat.shiftLeft_eq]
 rw[e];apply Nat.eq_of_testBit_eq;intro i;rw[Nat.testBit_and,Nat.testBit_shiftLeft,Nat.testBit_shiftRight];by_cases hi:i<16
 .have h65:∀i:Fin 16,(65520:Nat).testBit i.1=decide (i.1≥4):=by decide
  rw[h65 ⟨i,hi⟩];by_cases h4:i≥4
  .simp[h4,show 4+(i-4)=i by omega]
  .simp[h4]
 have h1:q.testBit i=false:=Nat.testBit_lt_two_pow (nK h (I9 (n:=2) (by decide) (show 16<=i by omega)));have h2:q.testBit (4+(i-4))=false:=by rw[show 4+(i-4)=i by omega];exact h1
 rw[h1,h2];simp
theorem Ra(q:Nat)(hq:q<65536)(b:List UInt8)(hb:b.length<=1000000):PC prog ac6 [(U16,.int (q:Int)),(aV,B b)] [(.sl DX,Ei (spots q b).1),(I64,.int (spots q b).2)]:=by
 apply apF rfl;simp only[abm,aJ,aG,ayk q hq];unfold spots;refine⟨fun h1=>⟨_,_,aq5 b hb _ rfl,?_⟩,fun h1=>⟨fun h2=>⟨_,_,aq4 b hb _ rfl,?_⟩,fun h2=>?_⟩⟩
 .rw[aC (by omega)]
 .rw[zq (by omega),aC (by omega)]
 rw[zq (by omega),zq (by omega)];rfl
theorem ayI(l:List Sp)(i:Nat)(h:i<l.length):(l.map CF).getD ((i:Int)).toNat default=CF (l.getD i Sp.zero):=by simp[List.getD,h]
theorem ayH(l:List Sp)(i:Nat)(h:i<l.length):l.take (i+1)=l.take i++ [l.getD i Sp.zero]:=by rw[nM h];simp[List.getD,h]
theorem az4{l:List Sp}{i:Nat}(h:i<l.length):l.getD i Sp.zero∈l:=by simp[List.getD,h]
theorem aB9(n:Nat)(_:n<=100000000):arith .rem .i64 (4-((n%4:Nat):Int)) 4=(((4-n%4)%4:Nat):Int):=by
 rw[NA _ _ _ (by omega)];omega
theorem MV(b:List UInt8)(hb:b.length<=100000000):PC prog aeK [(aV,B b)] [(aV,B (yh b))]:=by
 apply asn rfl;simp only[adn,aJ,aG,bD,P5 _ (show b.length<9223372036854775807 by omega),aB9 _ hb];refine⟨by omega,by omega,by omega,by omega,by omega,?_⟩;rw[<-Ck,dF];congr 3
 rw[RJ,mO (by simp),Aw];have e:List.drop 0 (ofBytes b)=ofBytes b:=rfl;rw[e,QU];congr 1
 unfold yh jr;simp only[vY,iw,qV,Nat.sub_zero,kD,List.drop_replicate];rw[mO (by omega),xA]
theorem apS(l:List El)(hl:l.length<=1000000):PC prog abQ [(.sl ou,ny l)] [(.bool,.bool (zB l))]:=by
 apply aoc rfl;simp only[Z9,aJ];refine VC.jw (fun i:Nat=> [.bool false,.int (i:Int)]) (fun i=>i<=l.length/\∀e∈l.take i,nG true e) (fun i=>l.length-i) 0 rfl ⟨cu _,by simp⟩ fun i hi=>?_;obtain⟨i1,i2⟩:=hi;simp only[aJ,aG,bJ];refine⟨fun hc=>?_,fun hc=>?_⟩
 .have hk:i<l.length:=by omega
  have hm:=H7 hk;have ht:=Kz l i hk;rw[Dg l i hk];generalize l.getD i El.zero=e at hm ht;simp only[iP,jE,dV,gU,bD];refine⟨by omega,by omega,fun h=>?_,fun h=>⟨by omega,i+1,by simp,⟨by omega,?_⟩,by omega⟩⟩
  .have:zB l=false:=gQ fun hall=>by
    have:=Sj (hall e hm);omega
   rw[this]
  .rw[ht];intro x hx;rcases zx.1 hx with hx|hx
   .exact i2 x hx
   .rw[sF]at hx;subst hx;simp only[nG,eO];omega
 have he:i=l.length:=by omega
 rw[he,jQ]at i2;have:zB l=true:=iH i2;rw[this]
theorem aop(l:List El)(hl:l.length<=1000000):PC prog aaA [(.sl ou,ny l)] [(U16,.int (xQ l:Nat))]:=by
 apply anp rfl;simp only[Zm,aJ,aG];refine⟨_,Rc l hl,?_⟩;simp only[kM];unfold xQ;refine⟨fun h=>?_,fun h=>⟨_,apS l hl,?_⟩⟩
 .rw[zq (by simpa using h)];rfl
 rw[aC (by simpa using h)];simp only[kM];refine⟨fun h=>?_,fun h=>?_⟩<;>rw[h]<;>rfl
theorem aeP(aD:Bool)(l:List El)(e:El):vN aD (l++ [e])=vN aD l++enc aD e:=by simp[vN]
theorem SV(aD:Bool):∀(l:List El),(∀e∈l,e.data.length<=255)->(vN aD l).length<=257*l.length
 | [],_=>by simp[vN]
 |e::l,h=>by
  have ih:=SV aD l (fun x hx=>h x (by simp[hx]));have h1:=h e (by simp);have h2:=Ni aD e;have h3:Plain.ahead aD<=2:=by unfold Plain.ahead;split<;>omega
  have e1:vN aD (e::l)=enc aD e++vN aD l:=by simp[vN]
  rw[e1,cO,bR];omega
theorem aAq(a b:Nat)(ha:a<16)(hb:b<16):arith .or .i64 (arith .shl .i64 (a:Int) 4) (b:Int)=((16*a+b:Nat):Int):=by
 have h1:arith .shl .i64 (a:Int) 4=((16*a:Nat):Int):=by
  rw[wG,show(2:Int)^(min (4:Int).toNat IntKind.i64.bits)=16 from rfl,lY (by omega)];omega
 rw[h1,afZ (nK (show 16*a<256 by omega) (by decide)) (nK (show b<256 by omega) (by decide))];congr 1
 have key:∀a b:Fin 16,16*a.1|||b.1=16*a.1+b.1:=by decide
 exact key ⟨a,ha⟩ ⟨b,hb⟩
theorem J4{l:List El}(h:lH l):∀e∈l,1<=e.id/\e.id<=255/\e.data.length<=255:=by
 intro e he;obtain⟨j,hj,rfl⟩:=List.getElem_of_mem he;have:=h j hj;unfold BQ at this;rw[F7,nL hj]at this;exact⟨this.1,this.2.1,this.2.2.1⟩
theorem azw{e:El}(h:nG true e): [C.int (IntKind.u8.wrap (arith .or .i64 (arith .shl .i64 e.id 4) ((e.data.length:Int)-1)))]++ofBytes e.data=ofBytes (enc true e):=by
 obtain⟨h1,h2,h3,h4⟩:=Sj h;obtain⟨n,hn⟩:∃n:Nat,e.id=n:=⟨e.id.toNat,by omega⟩;have e1:(e.data.length:Int)-1=((e.data.length-1:Nat):Int):=by omega
 rw[hn,e1,aAq n _ (by omega) (by omega),wH];unfold enc;rw[aC rfl,hn,dF,show 16*n+(e.data.length-1)=16*n+e.data.length-1 by omega];simp only[ofBytes,jG,kS,iw]
theorem ax2{e:El}(h:1<=e.id/\e.id<=255/\e.data.length<=255): [C.int (IntKind.u8.wrap e.id),C.int (IntKind.u8.wrap (e.data.length:Int))]++ofBytes e.data=ofBytes (enc false e):=by
 obtain⟨n,hn⟩:∃n:Nat,e.id=n:=⟨e.id.toNat,by omega⟩;rw[hn,wH,wH];unfold enc;rw[zq (by simp),hn,dF];simp only[ofBytes,jG,kS,iw]
def Qh(l:List El):List UInt8:=if lH l then Bp l else []
def Qg(l:List El):Int:=if lH l then 0 else 1
theorem asi{aD:Bool}{l:List El}(h:lH l)(i:Nat)(hi:i<=l.length):(vN aD (l.take i)).length<=257*i:=by
 have:=SV aD (l.take i) (fun e he=>(J4 h e (Jb he)).2.2);rw[jV]at this;omega
theorem aq6(l:List El)(hl:l.length<=10000):PC prog ac5 [(.sl ou,ny l)] [(U16,.int (xQ l:Nat)),(aV,B (Qh l)),(I64,.int (Qg l))]:=by
 apply apD rfl;simp only[abl,aJ,aG];refine⟨_,aop l (by omega),?_⟩;simp only[kM];by_cases hr:lH l
 .have hp:=asY hr;have hw:Qh l=Bp l:=aC hr;have he:Qg l=0:=aC hr;rw[hp,hw,he];have hfit:=(MO hr).1;unfold Bp;generalize hn:zB l=aD at hfit;refine⟨fun h=>?_,fun h=>?_⟩
  .exfalso;unfold KJ at h;cases aD<;>simp at h
  .refine VC.jw (fun i:Nat=> [B (vN aD (l.take i)),.int (i:Int)]) (fun i=>i<=l.length) (fun i=>l.length-i) 0 (by simp[E.eval,vN,ofBytes]) (cu _) fun i hi=>?_;have hlen:=asi (aD:=aD) hr i hi;simp only[aJ,aG,bJ,bD,bR,eB];refine⟨fun hc=>?_,fun hc=>?_⟩
   .have hk:i<l.length:=by omega
    have hm:=hfit _ (H7 hk);have hm2:=J4 hr _ (H7 hk);have ht:=Kz l i hk;rw[Dg l i hk];generalize l.getD i El.zero=e at hm ht hm2;simp only[iP,jE,dV,gU,bD];refine⟨by omega,by omega,fun h1=>?_,fun h1=>?_⟩
    .have hnar:aD=true:=by
      unfold KJ at h1;cases aD
      .simp at h1
      .rfl
     subst hnar;refine⟨by omega,by omega,by omega,by omega,i+1,?_,by omega,by omega⟩;rw[gJ,azw hm,AQ,ht,aeP];simp
    have hnar:aD=false:=by
     unfold KJ at h1;cases aD
     .rfl
     .simp at h1
    subst hnar;refine⟨by omega,by omega,by omega,i+1,?_,by omega,by omega⟩;rw[gJ,ax2 hm2,AQ,ht,aeP];simp
   .have hi2:i=l.length:=by omega
    rw[hi2,jQ]at hlen |-;refine⟨_,MV (vN aD l) (by omega),rfl⟩
 have hp:xQ l=0:=zq hr;have hw:Qh l=[]:=zq hr;have he:Qg l=1:=zq hr;rw[hp,hw,he];refine⟨fun _=>rfl,fun h=>by simp at h⟩
theorem aue(b:List UInt8)(l:List Sp)(i:Nat)(h:i<l.length):(l.take (i+1)).map (jP b)=(l.take i).map (jP b)++ [jP b (l.getD i Sp.zero)]:=by rw[ayH l i h,gW];rfl
theorem aAF(b:List UInt8)(s:Sp)(_:s.pos+s.size<=b.length):C.ls ((List.take ((s.pos:Int)+(s.size:Int)).toNat (ofBytes b)).drop ((s.pos:Int)).toNat)=B (jP b s).data:=by
 rw[<-Ck,dF,dF,wE,xL];unfold jP;congr 2
 rw[List.drop_take,xA]
theorem Gv(q:Nat)(b:List UInt8):(spots q b).1.length<=b.length:=by
 have key:∀(aD:Bool) (n p:Nat) (out:List Sp),b.length-p<=n->out.length<=p->p<=b.length->(wk aD b p out).1.length<=b.length:=by
  intro aD n;induction n with
  |zero=>intro p out h1 h2 h3;rw[Bq (by omega)];simp only;omega
  |succ n ih=>
   intro p out h1 h2 h3;by_cases hp:p<b.length
   .by_cases h0:at_ b p=0
    .rw[He hp h0];exact ih _ _ (by omega) (by omega) (by omega)
    by_cases hs:aD=true/\(at_ b p/16=15\/at_ b p/16=0)
    .rw[Kr hp h0 hs];simp only;omega
    by_cases hw:aD=false/\b.length<=p+1
    .rw[NP hp h0 hs hw];simp
    by_cases hl:b.length<(dL aD b p).pos+(dL aD b p).size
    .rw[Kt hp h0 hs hw hl];simp
    by_cases ht:(dL aD b p).id∈oO out
    .rw[Ke hp h0 hs hw hl ht];simp
    rw[wk_step hp h0 hs hw hl ht];have:=Kg aD b p;exact ih _ _ (by omega) (by simp;omega) (by omega)
   .rw[Bq hp];simp only;omega
 unfold spots;split
 .exact key true _ 0 [] (aS _) (cu _) (cu _)
 split
 .exact key false _ 0 [] (aS _) (cu _) (cu _)
 simp
theorem acr(q:Nat)(hq:q<65536)(b:List UInt8)(hb:b.length<=1000000):PC prog adW [(U16,.int (q:Int)),(aV,B b)] [(.sl ou,ny (uF q b)),(I64,.int (spots q b).2)]:=by
 obtain⟨g1,g2,_⟩:=AX q b;have g3:=Gv q b;apply aqU rfl;simp only[acf,aJ,aG];refine⟨_,_,Ra q hq b hb,?_⟩;simp only[kM];unfold uF;generalize (spots q b).1=l at g1 g2 g3;refine⟨fun h=>?_,fun h=>?_⟩
 .rcases g2 with g2|⟨g2,_⟩
  .exact absurd g2 h
  .rw[g2];rfl
 rw[h];refine VC.jw (fun i:Nat=> [ny ((l.take i).map (jP b)),.int (i:Int)]) (fun i=>i<=l.length) (fun i=>l.length-i) 0 rfl (cu _) fun i hi=>?_;simp only[aJ,aG,bJ,bD,bR,eB,jV];refine⟨fun hc=>?_,fun hc=>?_⟩
 .have hk:i<l.length:=by omega
  have hm:=g1 _ (az4 hk);have ht:=aue b l i hk;rw[ayI l i hk];generalize l.getD i Sp.zero=s at hm ht;have hcut:=aAF b s hm;simp only[iP,jE,dV,hcut];have hcl:=pX (fun c:C=>c.toList.length) hcut;simp only[gU,bD]at hcl;have hdl:(jP b s).data.length=s.size:=by unfold jP;simp;omega
  refine⟨by omega,by omega,by omega,by omega,by omega,by omega,?_,by omega,by omega,i+1,?_,by omega,by omega⟩
  .rw[hcl];omega
  .rw[ht];simp only[ny,gW,jG,pU];rfl
 rw[show i=l.length by omega,jQ]
theorem TI:∀(n:Nat) (l:List Nat),l.Nodup->(∀x∈l,x<n)->l.length<=n
 |0,l,_,h=>by
  cases l with
  |nil=>exact aS _
  |cons x l=>exact absurd (h x (by simp)) (Nat.not_lt_zero x)
 |n+1,l,hd,h=>by
  have ih:=TI n (l.erase n) (hd.erase n) fun x hx=>by
   have h1:=(hd.mem_erase_iff).1 hx;have:=h x h1.2;omega
  rw[List.length_erase]at ih;split at ih<;>omega
theorem asW(q:Nat)(b:List UInt8):(uF q b).length<=256:=by
 obtain⟨_,_,h⟩:=AX q b;have h1:=(MO h).2;have h2:=J4 h;have:=TI 256 _ h1 (by
  intro x hx;obtain⟨e,he,rfl⟩:=gP.1 hx;have:=h2 e he;omega)
 simpa using this
theorem aiF(v:Nat)(h:v<4294967296):IntKind.u64.wrap (v:Int)=(v:Int):=by rw[nP];omega
def PS:List UInt8:=jy
theorem ayB:∀i:Nat,i<256->(PS.getD i 0).toNat=bl i:=by decide+kernel
theorem NQ:PS.length=256:=by decide+kernel
theorem aAM(n k:Nat):bl (n/2^k)=bl n-k:=by
 have h:∀j,bl (n/2^k)<=j↔bl n-k<=j:=by
  intro j;have hp:0<2^k:=Nat.pow_pos (by decide);rw[wS,Nat.div_lt_iff_lt_mul hp,<-Nat.pow_add,<-wS];omega
 have h1:=(h (bl n-k)).2 (aS _);have h2:=(h (bl (n/2^k))).1 (aS _);omega
theorem Ov(v m:Nat)(k:Nat)(h:m=v/2^k)(hm:m<256)(hv:k=0\/2^k<=v):(((k:Nat):Int))+IntKind.i64.wrap (((PS.getD (IntKind.u8.wrap ((m:Nat):Int)).toNat 0).toNat:Nat):Int)=((bl v:Nat):Int):=by
 have e1:(IntKind.u8.wrap ((m:Nat):Int)).toNat=m:=by rw[qK];omega
 have hb:bl m<=8:=wS.2 hm;rw[e1,ayB m hm,lY (by omega)];have h2:bl m=bl v-k:=by rw[h,aAM]
 have h3:k<=bl v:=by
  rcases hv with h|h
  .omega
  .have:=(wS (n:=v) (k:=k));by_cases hc:bl v<=k
   .have:=this.1 hc;omega
   .omega
 omega
set_option maxHeartbeats 4000000 in
theorem amI(v:Nat)(h:v<4294967296):PC prog YJ [(U32,.int v)] [(I64,.int (bl v:Nat))]:=by
 apply ams rfl;have htab: jy=PS:=rfl;have s16:arith .shr .u32 ((v:Nat):Int) 16=((v/2^16:Nat):Int):=FL .u32 v 16 (by decide);have s8:arith .shr .u32 ((v:Nat):Int) 8=((v/2^8:Nat):Int):=FL .u32 v 8 (by decide);have s24:arith .shr .u32 ((v/2^16:Nat):Int) 8=((v/2^16/2^8:Nat):Int):=FL .u32 (v/2^16) 8 (by decide);have hb:bl v<=32:=wS.2 h;simp only[Yr,aJ,aG,htab];by_cases h1:(65536:Int)<=((v:Nat):Int)
 .simp only[h1,eO,s16,s24];by_cases h2:(256:Int)<=((v/2^16:Nat):Int)
  .simp only[h2,eO];have k0:=Ov v (v/2^16/2^8) 24 (by omega) (by omega) (by omega);rw[show(((24:Nat):Int))=16+8 from rfl]at k0;rw[k0,NQ,qK];exact⟨fun _=>by omega,by omega,by omega,by omega,rfl⟩
  .simp only[h2,pY];have k0:=Ov v (v/2^16) 16 rfl (by omega) (by omega);rw[show(((16:Nat):Int))=16 from rfl]at k0;rw[k0,NQ,qK];exact⟨fun _=>by omega,by omega,by omega,by omega,rfl⟩
 simp only[h1,pY,s8];by_cases h2:(256:Int)<=((v:Nat):Int)
 .simp only[h2,eO];have k0:=Ov v (v/2^8) 8 rfl (by omega) (by omega);rw[show(((8:Nat):Int))=0+8 from rfl]at k0;rw[k0,NQ,qK];exact⟨fun _=>by omega,by omega,by omega,by omega,rfl⟩
 simp only[h2,pY];have k0:=Ov v v 0 (by omega) (by omega) (by omega);rw[show(((0:Nat):Int))=0 from rfl]at k0;rw[k0,NQ,qK];exact⟨fun _=>by omega,by omega,by omega,by omega,rfl⟩
abbrev wZ:Sh:=.jc I64 (.jc U32 (.jc (.sl U32) .je))
abbrev vk(r:Rm):C:=.ls [.int r.exp,.int r.vR,Ns r.srcs]
theorem Lm{p:Prop}[Decidable p]{x:Bool}(h:x=true↔p): [(Sh.bool,C.bool x)]=[(Sh.bool,C.bool (decide p))]:=by
 have:x=decide p:=by rw[Cj,dQ];exact h
 rw[this]
theorem aq0(r:Rm):PC prog acL [(wZ,vk r)] [(.bool,.bool (decide r.right))]:=by
 apply apd rfl;simp only[aaU,aJ,bJ];refine⟨fun h=>?_,fun h=>⟨fun h2=>?_,fun h2=>?_⟩⟩;all_goals
  apply Lm;unfold Rm.right
  (try simp only[dQ,xk,false_iff])
  omega
theorem aqG(e m:Nat)(he:e<=63)(hm:m<262144):PC prog acy [(I64,.int e),(U32,.int m)] [(wZ,vk (Gd e m []))]:=by
 apply apJ rfl;simp only[QZ,aJ,aG];refine⟨fun h=>?_,fun h=>?_⟩
 .have h0:m=0:=by omega
  subst h0;simp[Gd,qp]
 have h0:m≠0:=by omega
 have hb:bl m<=18:=wS.2 hm;refine⟨_,amI m (by omega),?_⟩;simp only[dV];have e1:min ((e:Nat):Int) (18-((bl m:Nat):Int))=((qp e m:Nat):Int):=by unfold qp;rw[zq h0];omega
 have hu:qp e m<=e/\qp e m<=18-bl m:=by unfold qp;rw[zq h0];omega
 have h3:m*2^qp e m<262144:=(wS (n:=m*2^qp e m) (k:=18)).1 (by rw[Vf h0];omega);have e2:arith .shl .u32 ((m:Nat):Int) ((qp e m:Nat):Int)=((m*2^qp e m:Nat):Int):=by
  have e3:min (qp e m) (IntKind.bits .u32)=qp e m:=by simp only[IntKind.bits];omega
  rw[wG,dF,e3,Og];have e4:((m:Nat):Int)*2^qp e m=((m*2^qp e m:Nat):Int):=by simp
  rw[e4];omega
 rw[e1,e2];have e5:((e:Nat):Int)-((qp e m:Nat):Int)=((e-qp e m:Nat):Int):=by omega
 refine⟨by omega,by omega,by omega,?_⟩;rw[e5];rfl
theorem aBf(e m:Nat)(he:e<=63)(hm:m<262144):arith .or .u64 (arith .shl .u64 (IntKind.u64.wrap ((e:Nat):Int)) 18) (IntKind.u64.wrap ((m:Nat):Int))=((e*262144+m:Nat):Int):=by
 have e1:IntKind.u64.wrap ((e:Nat):Int)=((e:Nat):Int):=by rw[nP];omega
 have e2:IntKind.u64.wrap ((m:Nat):Int)=((m:Nat):Int):=by rw[nP];omega
 have e3:arith .shl .u64 ((e:Nat):Int) 18=((e*262144:Nat):Int):=by
  rw[wG,nP];simp[IntKind.bits];omega
 rw[e1,e2,e3,CS rfl (by show _<2^64;omega) (by show _<2^64;omega)];have:=Bv e 18 m (by omega);rw[show(262144:Nat)=2^18 by rfl,this]
def Lx(r:Rm):List UInt8:=if r.right then r.bytes else []
def PY(r:Rm):Int:=if r.right then 0 else 1
theorem azR(l:List Nat)(i:Nat)(h:i<l.length):((l.map fun n:Nat=>C.int (n:Int))).getD i default=C.int ((l.getD i 0:Nat):Int):=by
 simp[List.getD,h]
theorem aqZ(r:Rm)(ho:r.ok):PC prog acK [(wZ,vk r)] [(aV,B (Lx r)),(I64,.int (PY r))]:=by
 apply apc rfl;simp only[aaT,aJ,aG,bJ];refine⟨_,aq0 r,fun h=>?_,fun h=>?_⟩
 .have h:¬r.right:=by simpa using h
  rw[Lx,PY,zq h,zq h];rfl
 have h:r.right:=by simpa using h
 rw[Lx,PY,aC h,aC h];have hn:=r.qL h;obtain⟨h1,h2,h3,h4⟩:=h;obtain⟨exp,vR,srcs⟩:=r;simp only at h1 h2 h3 h4;obtain⟨e,rfl⟩:∃e:Nat,exp=e:=⟨exp.toNat,by omega⟩;have e1:=aBf e vR (by omega) h2;have pe:uQ (e*262144+vR) 3=0:=by rw[J6];refine⟨by omega,by omega,?_⟩;show _<16777216;omega
 have pb:gH (e*262144+vR) 3=fq 3 (e*262144+vR):=by rw[gH,aC pe];rfl
 have hstr:ofBytes [82,69,77,66]=ofBytes zS:=rfl;have hone: [C.int (IntKind.u8.wrap ((srcs.length:Nat):Int))]=ofBytes [UInt8.ofNat srcs.length]:=by
  simp only[ofBytes,jG,pU,zu,qK];rfl
 rw[e1];simp only[hstr,hone,bD];have l4:zS.length=4:=rfl;refine⟨by omega,by omega,by omega,by omega,by simp;omega,by simp;omega,_,_,vC (e*262144+vR) 3 (by omega),?_⟩;rw[pb];simp only[gU,bD,y9];refine⟨by simp;omega,?_⟩;refine VC.jw (fun i:Nat=> [B (zS++(UInt8.ofNat srcs.length::(fq 3 (e*262144+vR)++words (srcs.take i)))),.int i]) (fun i=>i<=srcs.length) (fun i=>srcs.length-i) 0 ?_ (cu _) fun i hi=>?_
 .simp only[kM];simp[words,ofBytes,zS]
 simp only[aJ,aG,bJ,bD];refine⟨fun hc=>?_,fun hc=>?_⟩
 .have hmem:=ho.2 _ (agy (l:=srcs) (i:=i) (by omega));rw[dF,azR _ _ (by omega),dV,aiF _ hmem];have pe:uQ (srcs.getD i 0) 4=0:=by rw[J6];refine⟨by omega,by omega,?_⟩;show _<4294967296;omega
  have pb:gH (srcs.getD i 0) 4=fq 4 (srcs.getD i 0):=by rw[gH,aC pe];rfl
  refine⟨by omega,by omega,_,_,vC (srcs.getD i 0) 4 (by omega),?_⟩;rw[pb];have hwl:=ML (srcs.take i);rw[jV]at hwl;refine⟨by simp[l4,hwl];omega,by omega,i+1,?_,by omega,by omega⟩;rw[aea _ _ (by omega)];simp[ofBytes]
 have:i=srcs.length:=by omega
 subst this;rw[jQ];simp[Rm.bytes,Rm.num]
theorem KI{b:List UInt8}{e:Int}(h:rP b=e)(he:e≠0):vk (AA b)=.ls [.int 0,.int 0,.ls []]:=by
 rw[AA,zq (by rw[h];exact he)];rfl
theorem w8i(b:List UInt8)(i:Nat):IntKind.i64.wrap (at_ b i:Nat)=((at_ b i:Nat):Int):=by have:=gN b i;exact lY (by omega)
theorem aB6(n:Nat)(h:8<=n)(h2:n<=65520):arith .quo .i64 ((n:Nat)-8:Int) 4=(((n-8)/4:Nat):Int):=by
 rw[afY _ _ _ (by omega),lY (by omega)];omega
theorem Uu(b:List UInt8)(i n:Nat)(h:i+n<=b.length)(hn:1<=n/\n<=8):mX b (i:Int) (n:Int)=num b i n:=by
 have e:qx b.length i n=0:=by rw[zi];omega
 rw[mX,aC e];rfl
theorem avW(b:List UInt8)(i:Nat):Ns ((List.range (i+1)).map fun j=>num b (8+4*j) 4)=.ls ((Ns ((List.range i).map fun j=>num b (8+4*j) 4)).toList++ [.int (num b (8+4*i) 4:Nat)]):=by
 rw[F4];simp[Ns]
theorem n18(n:Nat)(h:n<16777216):IntKind.i64.wrap (arith .shr .u64 ((n:Nat):Int) 18)=((n/262144:Nat):Int)/\IntKind.u32.wrap (arith .and .u64 ((n:Nat):Int) 262143)=((n%262144:Nat):Int):=by
 have e1:arith .shr .u64 ((n:Nat):Int) 18=((n/2^18:Nat):Int):=FL .u64 n 18 (by decide);have e2:arith .and .u64 ((n:Nat):Int) 262143=((n%262144:Nat):Int):=by
  rw[show(262143:Int)=((262143:Nat):Int) by rfl,EB rfl (by show _<2^64;omega) (by decide)];have:=Je n 18;rw[<-this]
 rw[e1,e2];refine⟨lY (by omega),?_⟩;rw[Og];omega
theorem asr(b:List UInt8)(hb:b.length<=140737488355328):PC prog adM [(aV,B b)] [(wZ,vk (AA b)),(I64,.int (rP b))]:=by
 apply aqJ rfl;have i4:Int.toNat 4=4:=rfl;have i0:Int.toNat 0=0:=rfl;have l4:=gN b 4;simp only[ab1,aJ,aG,bD,mR,i4,i0,uj,w8i,P5 _ (show b.length<9223372036854775807 by omega),xu,wE,Er];have hs:([82,69,77,66]:List UInt8)=zS:=rfl;rw[hs];refine⟨fun h1=>?_,fun h1=>⟨fun h2=>?_,fun h2=>⟨by omega,fun h3=>?_,fun h3=>⟨by omega,by omega,?_⟩⟩⟩⟩
 .have e:rP b=4:=by unfold rP;rw[aC (by omega)]
  rw[KI e (by decide),e]
 .have e:rP b=2:=by unfold rP;rw[zq (by omega),aC (by omega)]
  rw[KI e (by decide),e]
 .have e:rP b=6:=by unfold rP;rw[zq (by omega),zq (by omega),aC h3]
  rw[KI e (by decide),e]
 rw[aB6 _ (by omega) (by omega)];have h3:b.take 4=zS:=by simpa using h3
 refine⟨fun h4=>?_,fun h4=>⟨fun h5=>?_,fun h5=>?_⟩⟩
 .have e:rP b=2:=by unfold rP;rw[zq (by omega),zq (by omega),zq (by simp[h3]),aC (by omega)]
  rw[KI e (by decide),e]
 .have e:rP b=4:=by unfold rP;rw[zq (by omega),zq (by omega),zq (by simp[h3]),zq (by omega),aC (by omega)]
  rw[KI e (by decide),e]
 have hl:b.length=8+4*at_ b 4:=by omega
 have e:rP b=0:=by rw[axk];exact⟨by omega,by omega,h3,hl⟩
 have hn:num b 5 3<16777216:=qL b 5 3;have g:=Uu b 5 3 (by omega) (by omega);obtain⟨q1,q2⟩:=n18 _ hn;refine⟨_,_,sP b 5 3 (by omega),?_⟩;rw[show mX b 5 3=num b 5 3 from g,dV,q1,q2];refine⟨_,aqG _ _ (by omega) (by omega),?_⟩;refine VC.jw (fun i:Nat=> [.int i,Ns ((List.range i).map fun j=>num b (8+4*j) 4)]) (fun i=>i<=at_ b 4) (fun i=>at_ b 4-i) 0 rfl (cu _) fun i hi=>?_;simp only[aJ,aG,mR,i4,uj,w8i,bJ,I8];refine⟨fun hc=>?_,fun hc=>?_⟩
 .have ei:(8:Int)+4*(i:Int)=((8+4*i:Nat):Int):=by omega
  have g4:=Uu b (8+4*i) 4 (by omega) (by omega);have hl4:num b (8+4*i) 4<4294967296:=qL b _ 4;rw[ei];refine⟨by omega,by omega,_,_,sP b ((8+4*i:Nat):Int) 4 (by omega),?_⟩;rw[show mX b ((8+4*i:Nat):Int) 4=num b (8+4*i) 4 from g4,dV,Og];have e6:((num b (8+4*i) 4:Nat):Int)%4294967296=((num b (8+4*i) 4:Nat):Int):=by omega
  rw[e6];refine⟨by simp;omega,by omega,i+1,?_,by omega,by omega⟩;rw[avW];rfl
 have hi2:i=at_ b 4:=by omega
 subst hi2;rw[AA,aC e,e];rfl
structure Sn where
 w:Int
 d:Int
def Sn.zero:Sn:=⟨0,0⟩
structure Ar where
 base:Nat
 time:Int
 count:Nat
 seen:List Sn
abbrev Ma:Sh:=.jc I64 (.jc I64 .je)
abbrev uY:Sh:=.jc U16 (.jc I64 (.jc U8 (.jc (.sl Ma) .je)))
abbrev Gj(s:Sn):C:=.ls [.int s.w,.int s.d]
abbrev AP(a:Ar):C:=.ls [.int (a.base:Nat),.int a.time,.int (a.count:Nat),.ls (a.seen.map Gj)]
def Sn.right(s:Sn):Prop:=(s.w=0/\s.d=0)\/(s.w=1/\0<=s.d/\s.d<=255)\/(s.w=2/\-32768<=s.d/\s.d<32768)
instance(s:Sn):Decidable s.right:=by unfold Sn.right;exact inferInstance
def Ar.right(a:Ar):Prop:=(-8388608<=a.time/\a.time<8388608)/\a.seen.length<=4000/\∀s∈a.seen,s.right
instance(a:Ar):Decidable a.right:=by unfold Ar.right;exact inferInstance
def Ar.ok(a:Ar):Prop:=a.base<65536/\a.count<256
def Sn.bytes(s:Sn):List UInt8:=if s.w=1 then [UInt8.ofNat s.d.toNat]else if s.w=2 then yQ s.d 2 else []
def Ar.mh(a:Ar):List Nat:=a.seen.map fun s=>s.w.toNat
def two(l:List Nat):List UInt8:=(l.map fun n=>gH n 2).flatten
def deltas(l:List Sn):List UInt8:=(l.map Sn.bytes).flatten
def Dj(a:Ar):List UInt8:=gH a.base 2++(gH a.seen.length 2++(yQ a.time 3++ [UInt8.ofNat a.count]))
def Ar.raw(a:Ar):List UInt8:=Dj a++(two (lD a.mh)++deltas a.seen)
def Ar.bytes(a:Ar):List UInt8:=yh a.raw
theorem Uk(l:List Sn)(i:Nat)(h:i<l.length):(l.map Gj).getD i default=Gj (l.getD i Sn.zero):=by simp[List.getD,h]
theorem aiK{l:List Sn}{i:Nat}(h:i<l.length):l.getD i Sn.zero∈l:=by simp[List.getD,h]
theorem amt(s:Sn):PC prog Yt [(Ma,Gj s)] [(.bool,.bool (decide s.right))]:=by
 apply amj rfl;simp only[Yi,aJ];unfold Sn.right;refine⟨fun h=>?_,fun h=>⟨fun h1=>?_,fun h1=>⟨fun h2=>?_,fun h2=>?_⟩⟩⟩<;>apply Lm<;>simp<;>omega
theorem Zt(a:Ar):PC prog aaG [(uY,AP a)] [(.bool,.bool (decide a.right))]:=by
 apply anv rfl;simp only[Zr,aJ,bJ];refine⟨fun h=>?_,fun h=>?_⟩
 .apply Lm;unfold Ar.right;simp;omega
 refine VC.jw (fun i:Nat=> [.bool false,.int i]) (fun i=>i<=a.seen.length/\∀s∈a.seen.take i,s.right) (fun i=>a.seen.length-i) 0 rfl ⟨cu _,by simp⟩ fun i hi=>?_;simp only[aJ,aG,bJ,dF];refine⟨fun hc=>?_,fun hc=>?_⟩
 .have hil:i<a.seen.length:=by omega
  rw[Uk _ _ hil];refine⟨by omega,by omega,_,amt (a.seen.getD i Sn.zero),fun hr=>?_,fun hr=>⟨by omega,i+1,rfl,⟨by omega,fun s hs=>?_⟩,by omega⟩⟩
  .apply Lm;simp only[xk,false_iff];intro h2;exact(yM hr) (h2.2.2 _ (aiK hil))
  .rw[nM hil]at hs;rcases zx.1 hs with hs|hs
   .exact hi.2 s hs
   .have e:s=a.seen.getD i Sn.zero:=by
     rw[sF]at hs;rw[hs];simp[List.getD,hil]
    rw[e];simpa using hr
 apply Lm;simp only[true_iff];have:i=a.seen.length:=by omega
 subst this;refine⟨by omega,by omega,fun s hs=>hi.2 s (by rw[jQ];exact hs)⟩
theorem ahp(l:List Sn)(i:Nat)(h:i<l.length):l.take (i+1)=l.take i++ [l.getD i Sn.zero]:=by rw[nM h];simp[List.getD,h]
theorem aov(l:List Sn)(hl:l.length<=1000000):PC prog aaE [(.sl Ma,.ls (l.map Gj))] [(.sl I64,.ls (l.map fun s=> .int s.w))]:=by
 apply anu rfl;simp only[Zq,aJ];refine VC.jw (fun i:Nat=> [.ls ((l.take i).map fun s=> .int s.w),.int i]) (fun i=>i<=l.length) (fun i=>l.length-i) 0 rfl (cu _) fun i hi=>?_;simp only[aJ,aG,bJ,dF];refine⟨fun hc=>?_,fun hc=>?_⟩
 .have hil:i<l.length:=by omega
  rw[Uk _ _ hil];refine⟨by omega,by omega,by simp;omega,by omega,i+1,?_,by omega,by omega⟩;rw[ahp _ _ hil];simp
 have:i=l.length:=by omega
 subst this;rw[jQ]
theorem GH{a:Ar}(h:a.right):(C.ls (a.seen.map fun s=>C.int s.w))=Ns a.mh/\qU a.mh:=by
 refine⟨?_,fun x hx=>?_⟩
 .unfold Ar.mh;show C.ls _=C.ls (List.map _ (List.map _ _));rw[vW];congr 1
  apply Ca;intro s hs;have:=h.2.2 s hs;unfold Sn.right at this;simp;omega
 obtain ⟨s,hs,rfl⟩:=gP.1 hx;have:=h.2.2 s hs;unfold Sn.right at this;omega
theorem aw7(l:List Nat)(i:Nat)(h:i<l.length):two (l.take (i+1))=two (l.take i)++gH (l.getD i 0) 2:=by
 unfold two;rw[nM h,gW,List.flatten_append];simp[List.getD,h]
theorem auh(l:List Sn)(i:Nat)(h:i<l.length):deltas (l.take (i+1))=deltas (l.take i)++(l.getD i Sn.zero).bytes:=by
 unfold deltas;rw[ahp _ _ h];simp
theorem aiG(l:List Nat):(two l).length<=8*l.length:=by
 unfold two;induction l with
 |nil=>simp
 |cons x l ih=>
  have:(gH x 2).length<=2:=by
   unfold gH;split
   .rw[y9];decide
   .simp
  simp at ih |-;omega
theorem OV(d n:Int)(h:n<=8):(yQ d n).length<=8:=by
 unfold yQ;split
 .rw[y9];omega
 simp
theorem xV(d:Nat)(n:Int)(h:n<=8):(gH d n).length<=8:=by
 unfold gH;split
 .rw[y9];omega
 simp
theorem aye(s:Sn):s.bytes.length<=8:=by
 unfold Sn.bytes;split
 .simp
 split
 .exact OV _ _ (by decide)
 simp
theorem afO(l:List Sn):(deltas l).length<=8*l.length:=by
 unfold deltas;induction l with
 |nil=>simp
 |cons x l ih=>
  have:=aye x;simp at ih |-;omega
theorem OO(n:Nat)(h:n<256): [C.int (n:Int)]=ofBytes [UInt8.ofNat n]:=by
 simp only[ofBytes,jG,pU,zu,kE,lC,C.int.injEq];omega
def hd2(a:Ar):Nat->List UInt8|0=> []|1=>gH a.base 2|_=>gH a.base 2++gH a.seen.length 2
theorem aow(a:Ar)(h:a.right)(ho:a.ok):PC prog QX [(uY,AP a)] [(aV,B a.bytes),(I64,.int 0)]:=by
 apply Y0 rfl;simp only[QK,aJ,aG];have hr:=Zt a;obtain⟨h1,h2,h3⟩:=id h;obtain⟨o1,o2⟩:=ho;have pb2:=xV a.base 2 (by decide);have pl2:=xV a.seen.length 2 (by decide);have pt3:=OV a.time 3 (by decide);refine⟨_,hr,fun hc=>absurd h (by simpa using hc),fun _=>?_⟩;refine VC.jw (fun i:Nat=> [B (hd2 a i),.int i]) (fun i=>i<=2) (fun i=>2-i) 0 rfl (by decide) fun i hi=>?_;simp only[aJ,aG,bJ,dF,bD];refine⟨fun hc=>?_,fun hc=>?_⟩
 .have h01:i=0\/i=1:=by omega
  rcases h01 with rfl|rfl
  .have e:IntKind.u64.wrap (IntKind.i64.wrap (a.base:Int))=(a.base:Int):=by rw[lY (by omega),nP];omega
   simp only[List.getD_cons_zero,iP,jE,dV,e];refine⟨by omega,by omega,_,_,vC a.base 2 (by omega),?_⟩;simp only[gU,bD];exact⟨by simp[hd2];omega,by omega,1,by simp[hd2],by omega,by omega⟩
  .have e:IntKind.u64.wrap (a.seen.length:Int)=(a.seen.length:Int):=by rw[nP];omega
   simp only[List.getD_cons_zero,List.getD_cons_succ,iP,jE,dV,e];refine⟨by omega,by omega,_,_,vC a.seen.length 2 (by omega),?_⟩;simp only[gU,bD];exact⟨by simp[hd2];omega,by omega,2,by simp[hd2,ofBytes],by omega,by omega⟩
 have:i=2:=by omega
 subst this;refine⟨_,_,QC a.time 3 (by omega),?_⟩;simp only[gU,bD];refine⟨by simp[hd2];omega,by simp[hd2];omega,_,aov a.seen (by omega),_,_,(by rw[(GH h).1];exact auw a.mh (GH h).2 (by unfold Ar.mh;simp;omega)),?_⟩;have hk:=aik a.mh (GH h).2;have hw:a.mh.length=a.seen.length:=by unfold Ar.mh;simp
 have hlt:=ajI _ a.mh rfl (GH h).2;refine VC.jw (fun i:Nat=> [B (Dj a++two ((lD a.mh).take i)),.int i]) (fun i=>i<=(lD a.mh).length) (fun i=>(lD a.mh).length-i) 0 ?_ (cu _) fun i hi=>?_
 .simp only[kM];simp only[hd2,Dj,two,vY,pU,List.flatten_nil,lV];rw[OO _ o2];simp[ofBytes]
 simp only[aJ,aG,bJ,dF,bD];have ha:(Dj a).length<=25:=by unfold Dj;simp;omega
 refine⟨fun hc=>?_,fun hc=>?_⟩
 .have hil:i<(lD a.mh).length:=by omega
  have hx:=hlt _ (Hg hil);rw[GZ _ _ hil,dV,aiF _ (by omega)];refine⟨by omega,by omega,_,_,vC ((lD a.mh).getD i 0) 2 (by omega),?_⟩;simp only[gU,bD];have ht:=aiG ((lD a.mh).take i);have hp:=xV ((lD a.mh).getD i 0) 2 (by decide);rw[jV]at ht;refine⟨by simp only[cO];omega,by omega,i+1,?_,by omega,by omega⟩;rw[aw7 _ _ hil];simp[ofBytes]
 have:i=(lD a.mh).length:=by omega
 subst this;rw[jQ];have ht:=aiG (lD a.mh);refine VC.jw (fun i:Nat=> [B (Dj a++(two (lD a.mh)++deltas (a.seen.take i))),.int i]) (fun i=>i<=a.seen.length) (fun i=>a.seen.length-i) 0 (by simp only[kM];simp[deltas]) (cu _) fun i hi=>?_;simp only[aJ,aG,bJ,dF,bD];refine⟨fun hc=>?_,fun hc=>?_⟩
 .have hil:i<a.seen.length:=by omega
  rw[Uk _ _ hil];have hs:=h3 _ (aiK hil);have hd:=afO (a.seen.take i);rw[jV]at hd;have hps:=OV (a.seen.getD i Sn.zero).d 2 (by decide);have hsn:=auh a.seen i hil;unfold Sn.bytes at hsn;generalize a.seen.getD i Sn.zero=s at hs hps hsn;obtain⟨w,d⟩:=s;unfold Sn.right at hs;simp only at hs hsn hps;simp only[iP,jE,dV];refine⟨by omega,by omega,_,_,QC d 2 (by omega),fun hw1=>?_,fun hw1=>⟨fun hw2=>?_,fun hw2=>?_⟩⟩
  .have e: [C.int (IntKind.u8.wrap d)]=ofBytes [UInt8.ofNat d.toNat]:=by
    obtain⟨n,rfl⟩:∃n:Nat,d=n:=⟨d.toNat,by omega⟩;rw[qK];have:=OO n (by omega);simp only[dF];rw[<-this,show((n:Int)%256)=n by omega]
   rw[aC hw1]at hsn;rw[e];refine⟨by simp[ofBytes];omega,by omega,i+1,?_,by omega,by omega⟩;rw[hsn];simp[ofBytes]
  .rw[zq hw1,aC hw2]at hsn;simp only[gU,bD];refine⟨by simp only[cO];omega,by omega,i+1,?_,by omega,by omega⟩;rw[hsn];simp[ofBytes]
  .rw[zq hw1,zq hw2]at hsn;refine⟨by omega,i+1,?_,by omega,by omega⟩;rw[hsn];simp
 have:i=a.seen.length:=by omega
 subst this;rw[jQ];have hd:=afO a.seen;exact⟨_,MV a.raw (by unfold Ar.raw;simp only[cO];omega),rfl⟩
def nums(b:List UInt8):List Nat:=(List.range (b.length/2)).map fun i=>num b (2*i) 2
theorem agv(b:List UInt8)(i:Nat):num b i 2<65536:=qL b i 2
theorem am0(b:List UInt8)(hb:b.length<=1000000):PC prog Y8 [(aV,B b)] [(.sl U16,Ns (nums b))]:=by
 apply amE rfl;simp only[YA,aJ];refine VC.jw (fun i:Nat=> [Ns ((List.range i).map fun i=>num b (2*i) 2),.int (2*(i:Int))]) (fun i=>2*i<=b.length) (fun i=>b.length-2*i) 0 rfl (cu _) fun i hi=>?_;simp only[aJ,aG,bD,bJ,I8];refine⟨by omega,fun hc=>?_,fun hc=>?_⟩
 .have g:=Uu b (2*i) 2 (by omega) (by omega);have ei:(2:Int)*(i:Int)=((2*i:Nat):Int):=by omega
  have hlt:=agv b (2*i);rw[ei];refine⟨_,_,sP b ((2*i:Nat):Int) 2 (by omega),?_⟩;rw[show mX b ((2*i:Nat):Int) 2=num b (2*i) 2 from g,dV,G9,show((num b (2*i) 2:Nat):Int)%65536=((num b (2*i) 2:Nat):Int) by omega];refine⟨by simp;omega,by omega,i+1,?_,by omega,by omega⟩;rw[F4,gW];simp;omega
 have:i=b.length/2:=by omega
 subst this;rfl
def zZ(w:Int):Nat:=if w=1 then 1 else if w=2 then 2 else 0
theorem aan(w:Int):PC prog abT [(I64,.int w)] [(I64,.int (zZ w:Nat))]:=by
 apply aog rfl;simp only[aaf,aJ];unfold zZ;refine⟨fun h=>by rw[aC h];rfl,fun h=>⟨fun h2=>by rw[zq h,aC h2];rfl,fun h2=>by rw[zq h,zq h2];rfl⟩⟩
theorem aB8{d:Int}(h: -32768<=d/\d<32768):xE d 2=0:=by
 rw[TF];refine⟨by decide,by decide,?_⟩;show-(32768:Int)<=d/\d<32768;omega
theorem ayK{s:Sn}(h:s.right):s.bytes.length=zZ s.w:=by
 unfold Sn.right at h;unfold Sn.bytes zZ;split
 .rfl
 split
 .rw[(aiS (aB8 (by omega))).2];rfl
 rfl
theorem aco(n:Nat)(h:n<=900000):PC prog adR [(I64,.int n)] [(I64,.int ((n+3)/4*4:Nat))]:=by
 apply aqP rfl;simp only[ab7,aJ,aG];have e:arith .quo .i64 ((n:Int)+3) 4=(((n+3)/4:Nat):Int):=by
  rw[show(n:Int)+3=((n+3:Nat):Int) by omega];exact(wV (n+3) (by omega)).2
 rw[e];exact⟨fun hc=>by omega,fun _=>⟨by omega,by omega,by congr 3⟩⟩
theorem VH{v:Nat}(h:v<65536):uQ v 2=0:=by
 rw[J6];exact⟨by decide,by decide,h⟩
theorem aB7{d:Int}(h: -8388608<=d/\d<8388608):xE d 3=0:=by
 rw[TF];refine⟨by decide,by decide,?_⟩;show-(8388608:Int)<=d/\d<8388608;omega
theorem ayx(l:List Nat)(h:∀x∈l,x<65536):(two l).length=2*l.length:=by
 unfold two;induction l with
 |nil=>rfl
 |cons x l ih=>
  have e:=(Un (VH (h x (by simp)))).2;have:=ih fun y hy=>h y (by simp[hy]);simp at this |-;rw[e,this];omega
theorem Oj(w:Int):zZ w<=2:=by
 unfold zZ;split
 .decide
 split<;>decide
theorem avs(l:List Sn)(h:∀s∈l,s.right):(deltas l).length<=2*l.length:=by
 unfold deltas;induction l with
 |nil=>simp
 |cons x l ih=>
  have e:=ayK (h x (by simp));have e2:=Oj x.w;have:=ih fun y hy=>h y (by simp[hy]);simp at this |-;omega
theorem avB{a:Ar}(h:a.right)(ho:a.ok):(Dj a).length=8:=by
 unfold Dj;simp only[cO,(Un (VH ho.1)).2,(Un (VH (show a.seen.length<65536 by have:=h.2.1;omega))).2,(aiS (aB7 h.1)).2];rfl
theorem aAP{a:Ar}(h:a.right)(ho:a.ok):a.bytes.length%4=0/\8<=a.bytes.length/\a.bytes.length<=16020/\a.bytes.length=(8+2*(lD a.mh).length+(deltas a.seen).length+3)/4*4:=by
 have hk:=aik a.mh (GH h).2;have hw:a.mh.length=a.seen.length:=by unfold Ar.mh;simp
 have hlt:=ajI _ a.mh rfl (GH h).2;have h1:=ayx _ hlt;have h2:=avs _ h.2.2;have h3:=avB h ho;have h4:=h.2.1;have e:a.raw.length=8+2*(lD a.mh).length+(deltas a.seen).length:=by
  unfold Ar.raw;simp only[cO];omega
 have e2:a.bytes.length=a.raw.length+(4-a.raw.length%4)%4:=by unfold Ar.bytes yh;simp
 omega
end Go.Vc
