/-
  Contracts of functions of the program, each out of its condition or by a walk, and plain lemmas.
-/
import Derived.Test.YtaehhpempnelhaaGreatDoorQTx9
import Derived.Test.YtaehhpempnelhaaGreatDoorQPt
set_option maxRecDepth 100000
namespace Go.Vc
open Go Go.Proofs Go.Plain Tryz
structure Rt where
 k:Int
 p:Int
 re:Re
 ch:List C
 sN:By
 ap:Ap
 fe:Fe
 ty:Int
 ct:Int
 bd:List UInt8
abbrev Ej(x:Rt):C:=.ls [.int x.k,.int x.p,Em x.re,.ls x.ch,Eo x.sN,Ep x.ap,qI x.fe,.int x.ty,.int x.ct,B x.bd]
def Rt.ok(x:Rt):Prop:=x.re.ok/\Tm (.sl uX) (.ls x.ch)/\x.sN.ok/\x.ap.ok/\x.fe.ok/\x.bd.length<=70000
theorem ajT{c:C}(h:Tm mJ c):∃x:Rt,c=Ej x/\x.ok:=by
 obtain⟨_,_,rfl,h1,t⟩:=h;obtain⟨_,_,rfl,h2,t⟩:=fQ t;obtain⟨_,_,rfl,h3,t⟩:=fQ t;obtain⟨_,_,rfl,h4,t⟩:=fQ t;obtain⟨_,_,rfl,h5,t⟩:=fQ t;obtain⟨_,_,rfl,h6,t⟩:=fQ t;obtain⟨_,_,rfl,h7,t⟩:=fQ t;obtain⟨_,_,rfl,h8,t⟩:=fQ t;obtain⟨_,_,rfl,h9,t⟩:=fQ t;obtain⟨_,_,rfl,h10,t⟩:=fQ t;obtain rfl:=sZ t;obtain⟨k,rfl,_⟩:=h1;obtain⟨p,rfl,_⟩:=h2;obtain⟨re,rfl,g3⟩:=ajU h3;obtain⟨ch,rfl,_⟩:=id h4;obtain⟨sN,rfl,g5⟩:=ajY h5;obtain⟨ap,rfl,g6⟩:=aj0 h6;obtain⟨fe,rfl,g7⟩:=ajW h7;obtain⟨ty,rfl,_⟩:=h8;obtain⟨ct,rfl,_⟩:=h9;obtain⟨bd,rfl,g10⟩:=Vn h10;exact⟨⟨k,p,re,ch,sN,ap,fe,ty,ct,bd⟩,rfl,g3,h4,g5,g6,g7,g10⟩
theorem aoP(x:Re):∃b:Bool,PC prog YF [(yE,Em x)] [(.bool,.bool b)]:=by
 obtain⟨rs,⟨b,rfl⟩,hp⟩:=tot (Post:=fun rs=>∃b:Bool,rs=[(.bool,.bool b)]) (cs:=[Em x]) amm rfl rfl (by
  simp only[Ym,aJ];exact⟨_,rfl⟩)
 exact⟨b,hp⟩
theorem as7(x:By):∃b:Bool,PC prog aaq [(BK,Eo x)] [(.bool,.bool b)]:=by
 obtain⟨rs,⟨b,rfl⟩,hp⟩:=tot (Post:=fun rs=>∃b:Bool,rs=[(.bool,.bool b)]) (cs:=[Eo x]) ane rfl rfl (by
  simp only[Zc,aJ];exact⟨_,rfl⟩)
 exact⟨b,hp⟩
theorem as8(x:Ap):∃b:Bool,PC prog aar [(yH,Ep x)] [(.bool,.bool b)]:=by
 obtain⟨rs,⟨b,rfl⟩,hp⟩:=tot (Post:=fun rs=>∃b:Bool,rs=[(.bool,.bool b)]) (cs:=[Ep x]) anf rfl rfl (by
  simp only[Zd,aJ];exact⟨_,rfl⟩)
 exact⟨b,hp⟩
theorem ar2(x:Fe):∃b:Bool,PC prog Zy [(lu,qI x)] [(.bool,.bool b)]:=by
 obtain⟨rs,⟨b,rfl⟩,hp⟩:=tot (Post:=fun rs=>∃b:Bool,rs=[(.bool,.bool b)]) (cs:=[qI x]) amL rfl rfl (by
  simp only[YK,aJ];exact⟨_,rfl⟩)
 exact⟨b,hp⟩
theorem aoS(x:Rt):∃b:Bool,PC prog acI [(mJ,Ej x)] [(.bool,.bool b)]:=by
 obtain⟨b1,h1⟩:=aoP x.re;obtain⟨b2,h2⟩:=as7 x.sN;obtain⟨b3,h3⟩:=as8 x.ap;obtain⟨b4,h4⟩:=ar2 x.fe;obtain⟨rs,⟨b,rfl⟩,hp⟩:=tot (Post:=fun rs=>∃b:Bool,rs=[(.bool,.bool b)]) (cs:=[Ej x]) apa rfl rfl (by
  simp only[aaR,aJ];refine⟨fun _=>⟨_,rfl⟩,fun _=>⟨_,fun _=>h1,_,fun _=>h2,_,fun _=>h3,_,fun _=>h4,?_⟩⟩;simp only[Oa];exact⟨_,rfl⟩)
 exact⟨b,hp⟩
theorem ax7(n:Int):0<=(qP n kI).1/\(qP n kI).1<=255:=by
 unfold qP;split
 next x h=>exact(show ∀x∈kI,0<=x.2.1/\x.2.1<=255 by decide) x (List.mem_of_find?_eq_some h)
 decide
theorem avP(x:Rt)(h:x.ok):∃(f c:Int) (b:List UInt8) (e:Int),PC prog acH [(mJ,Ej x)] [(I64,.int f),(I64,.int c),(aV,B b),(I64,.int e)]/\b.length<=200000000000/\(e=0->0<=f/\f<=255):=by
 obtain⟨h1,h2,h3,h4,h5,h6⟩:=h;obtain⟨b1,e1,p1,q1⟩:=am4 x.re h1;obtain⟨b2,e2,p2,q2⟩:=aoQ x.ch h2;obtain⟨b3,e3,p3,q3⟩:=ar4 x.sN h3;obtain⟨b4,e4,p4,q4⟩:=ar5 x.ap h4;obtain⟨b5,e5,p5,q5⟩:=aoY x.fe h5;have hk:=aaj x.ty x.ct;have hc:=acp x.fe.k;have hcl:=ax7 x.fe.k;obtain⟨rs,⟨f,c,b,e,rfl,hb,hf⟩,hp⟩:=tot (Post:=fun rs=>∃(f c:Int) (b:List UInt8) (e:Int),rs=[(I64,.int f),(I64,.int c),(aV,B b),(I64,.int e)]/\b.length<=200000000000/\(e=0->0<=f/\f<=255)) (cs:=[Ej x]) ao9 rfl rfl (by
  simp only[aaQ,aJ,aG];refine⟨fun _=>⟨_,_,p1,fun _=>⟨_,_,_,_,rfl,by omega,by omega⟩,fun _=>⟨_,_,_,_,rfl,by omega,by omega⟩⟩,fun _=>⟨fun _=>⟨_,_,p2,_,_,_,_,rfl,by omega,by omega⟩,fun _=>⟨fun _=>⟨_,_,p3,_,_,_,_,rfl,by omega,by omega⟩,fun _=>⟨fun _=>⟨_,_,p4,_,_,_,_,rfl,by omega,by omega⟩,fun _=>⟨fun _=>⟨_,_,_,hc,fun _=>⟨_,_,[],_,rfl,by decide,by omega⟩,fun _=>⟨_,_,p5,_,_,_,_,rfl,by omega,fun _=>hcl⟩⟩,fun _=>⟨fun _=>⟨_,fun _=>hk,fun hg=>⟨_,_,_,_,rfl,by omega,fun _=>by omega⟩,fun _=>⟨_,_,[],_,rfl,by decide,by omega⟩⟩,fun _=>⟨_,_,[],_,rfl,by decide,by omega⟩⟩⟩⟩⟩⟩⟩)
 exact⟨f,c,b,e,hp,hb,hf⟩
theorem aoT(x:Rt)(h:x.ok):∃(b:List UInt8) (e:Int),PC prog acJ [(mJ,Ej x)] [(aV,B b),(I64,.int e)]/\b.length<=200000000000:=by
 obtain⟨cl,hcl⟩:=aoS x;obtain⟨f,c,b,e,hpt,hb,hf⟩:=avP x h;obtain⟨rs,⟨b,e,rfl,hb⟩,hp⟩:=tot (Post:=fun rs=>∃(b:List UInt8) (e:Int),rs=[(aV,B b),(I64,.int e)]/\b.length<=200000000000) (cs:=[Ej x]) apb rfl rfl (by
  simp only[aaS,aJ];refine⟨_,fun _=>hcl,fun _=>⟨[],_,rfl,by decide⟩,fun hg=>?_⟩;obtain⟨p,hxp⟩:∃p:Nat,x.p=p:=⟨x.p.toNat,by omega⟩;rw[hxp]at hg;rw[(wV p (by omega)).1]at hg;refine VC.go_call hpt (by simp only[gB,kM]) rfl ?_;simp only[jG,pU,kS,iw,aJ,aG,bD,P5 b.length (by omega),hxp];refine⟨fun _=>⟨[],_,rfl,by decide⟩,fun hq=>⟨by omega,by omega,fun _=>⟨[],_,rfl,by decide⟩,fun hz=>?_⟩⟩;obtain⟨f',rfl⟩:∃n:Nat,f=n:=⟨f.toNat,by omega⟩;obtain⟨c',rfl⟩:∃n:Nat,c=n:=⟨c.toNat,by omega⟩;have ok:kZ.ok ⟨f',c',b,p⟩:=⟨by simp only;omega,by simp only;omega,by simp only;omega,by simp only;omega,by simp only;omega,by unfold kZ.size;simp only;omega⟩;have hl:=kZ.len ok;have hs:=ok.2.2.2.2.2;exact⟨_,_,apK ⟨f',c',b,p⟩ ok,_,_,rfl,by omega⟩)
 exact⟨b,e,hp,hb⟩
theorem awx(f c:Int):0<=kindOf f c/\kindOf f c<=6:=by
 unfold kindOf;split
 .rename_i h;have:f=200\/f=201\/f=202\/f=203\/f=204:=by omega
  rcases this with rfl|rfl|rfl|rfl|rfl<;>decide
 split<;>decide
theorem axP(f c:Int):0<=tO f c kI/\tO f c kI<=255:=by
 unfold tO;split
 next x h=>exact(show ∀x∈kI,0<=x.1/\x.1<=255 by decide) x (List.mem_of_find?_eq_some h)
 decide
theorem Hu:Tm BK Ws:=⟨_,_,rfl,iN _,_,_,rfl,⟨_,rfl⟩,_,_,rfl,OT (by decide),rfl⟩
theorem Fu{k p:Int}{re ch sN ap fe:C}{ty ct:Int}{bd:C}(hk: -9223372036854775808<=k/\k<=9223372036854775807)(hp: -9223372036854775808<=p/\p<=9223372036854775807)(h1:Tm yE re)(h2:Tm (.sl uX) ch)(h3:Tm BK sN)(h4:Tm yH ap)(h5:Tm lu fe)
  (ht: -9223372036854775808<=ty/\ty<=9223372036854775807) (hc: -9223372036854775808<=ct/\ct<=9223372036854775807) (h6:Tm aV bd):Tm mJ (.ls [.int k,.int p,re,ch,sN,ap,fe,.int ty,.int ct,bd]):=
 ⟨_,_,rfl,nZ hk,_,_,rfl,nZ hp,_,_,rfl,h1,_,_,rfl,h2,_,_,rfl,h3,_,_,rfl,h4,_,_,rfl,h5,_,_,rfl,nZ ht,_,_,rfl,nZ hc,_,_,rfl,h6,rfl⟩
theorem aqv(b:List UInt8)(hb:b.length<=70000):∃(c:C) (e:Int),PC prog adL [(aV,B b)] [(mJ,c),(I64,.int e)]/\Tm mJ c:=by
 obtain⟨co,body,n,eo,hop,hco,hbody,hn⟩:=aw8 b hb;obtain⟨_,_,rfl,k1,t⟩:=hco;obtain⟨_,_,rfl,k2,t⟩:=fQ t;obtain⟨_,_,rfl,k3,t⟩:=fQ t;obtain⟨_,_,rfl,k4,t⟩:=fQ t;obtain rfl:=sZ t;obtain⟨pd,rfl⟩:=k1;obtain⟨cn,rfl,hcn⟩:=k2;obtain⟨ty,rfl,hty⟩:=k3;obtain⟨sz,rfl,_⟩:=k4;have hk:=aaj ty cn;have hkl:=awx ty cn;have hfk:=asz ty cn;have hfl:=axP ty cn;obtain⟨c1,e1,p1,t1⟩:=anQ (decide (ty=200)) cn body hbody;obtain⟨re,rfl,_⟩:=ajU t1;obtain⟨c2,e2,p2,t2⟩:=aqu cn body hbody;obtain⟨c3,e3,p3,t3⟩:=as9 cn hcn body hbody;obtain⟨sN,rfl,_⟩:=ajY t3;obtain⟨c4,e4,p4,t4⟩:=ata cn hcn body hbody;obtain⟨ap,rfl,_⟩:=aj0 t4;obtain⟨c5,e5,p5,t5⟩:=aqz (tO ty cn kI) (by omega) body hbody;obtain⟨fe,rfl,_⟩:=ajW t5;have hcl:=MI body (by omega);have z0: -9223372036854775808<=(0:Int)/\(0:Int)<=9223372036854775807:=by decide
 have hn': -9223372036854775808<=n/\n<=9223372036854775807:=by omega
 have zk: -9223372036854775808<=kindOf ty cn/\kindOf ty cn<=9223372036854775807:=by omega
 have Z:∀e:Int,∃(c:C) (e':Int),[(mJ,RtC 0 0 (FeC 0 Ar.zero Rm.zero)),(I64,C.int e)]=[(mJ,c),(I64,C.int e')]/\Tm mJ c:=fun e=>⟨_,_,rfl,Fu z0 z0 Br (iN _) Hu EY EX z0 z0 (iN _)⟩;obtain⟨rs,⟨c,e,rfl,hc⟩,hp⟩:=tot (Post:=fun rs=>∃(c:C) (e:Int),rs=[(mJ,c),(I64,.int e)]/\Tm mJ c) (cs:=[B b]) aqI rfl rfl (by
  simp only[ab0,aJ,bD];refine⟨fun _=>Z _,fun _=>?_⟩;refine VC.go_call hop rfl rfl ?_;simp only[jG,pU,kS,iw,aJ,aG];refine⟨fun _=>Z _,fun _=>⟨_,hk,?_⟩⟩;refine⟨fun _=>⟨_,_,p1,fun _=>Z _,fun _=>⟨_,_,rfl,Fu zk hn' t1 (iN _) Hu EY EX z0 z0 (iN _)⟩⟩,fun _=>?_⟩;refine⟨fun _=>⟨_,_,p2,fun _=>Z _,fun _=>⟨_,_,rfl,Fu zk hn' Br t2 Hu EY EX z0 z0 (iN _)⟩⟩,fun _=>?_⟩;refine⟨fun _=>⟨_,_,p3,fun _=>Z _,fun _=>⟨_,_,rfl,Fu zk hn' Br (iN _) t3 EY EX z0 z0 (iN _)⟩⟩,fun _=>?_⟩;refine⟨fun _=>⟨_,_,p4,fun _=>Z _,fun _=>⟨_,_,rfl,Fu zk hn' Br (iN _) Hu t4 EX z0 z0 (iN _)⟩⟩,fun _=>?_⟩;refine⟨fun _=>⟨_,hfk,_,_,p5,fun _=>Z _,fun _=>⟨_,_,rfl,Fu zk hn' Br (iN _) Hu EY t5 z0 z0 (iN _)⟩⟩,fun _=>?_⟩;exact⟨_,hcl,fun _=>Z _,fun _=>⟨_,_,rfl,Fu zk hn' Br (iN _) Hu EY EX hty hcn (akD hbody)⟩⟩)
 exact⟨c,e,hp,hc⟩
abbrev vU:Sh:=.jc I64 (.jc I64 (.jc I64 .je))
abbrev Gl(x:fK):C:=.ls [.int x.f,.int (x.p:Int),.int (x.s:Int)]
abbrev vv(l:List fK):C:=.ls (l.map Gl)
theorem ay3(l:List fK)(h:l.length≠0):(l.map Gl).getD ((l.length:Int)-1).toNat default=Gl (l.getLast (by intro e;rw[e]at h;exact h rfl))/\pJ l=(l.getLast (by intro e;rw[e]at h;exact h rfl)).p+(l.getLast (by intro e;rw[e]at h;exact h rfl)).s:=by
 have hne:l≠[]:=by intro e;rw[e]at h;exact h rfl
 constructor
 .rw[show((l.length:Int)-1).toNat=l.length-1 by omega,List.getLast_eq_getElem];simp[List.getD,show l.length-1<l.length by omega]
 unfold pJ;rw[List.getLast?_eq_some_getLast hne]
theorem sO(l:List fK)(f:Int)(n:Nat)(hl:l.length<=1000)(he:pJ l<=1000000)(hn:n<=1000000):PC prog adH [(.sl vU,vv l),(I64,.int f),(.sl I64,.ls [.int (n:Int)])] [(.sl vU,vv (iJ l f n))]:=by
 apply aqV rfl;simp only[Rk,aJ,aG,bJ];refine⟨fun h=>?_,fun h=>?_⟩
 .obtain ⟨g1,g2⟩:=ay3 l (by omega);rw[g1];refine⟨by omega,by omega,by omega,by simp only[iP,jE,dV];omega,?_⟩;refine VC.jw (fun i:Nat=> [vv (if i=0 then l else iJ l f n),.int ((if i=0 then pJ l else pJ l+n:Nat):Int),.int (i:Int)]) (fun i=>i<=1) (fun i=>1-i) 0 ?_ (cu _) fun i hi=>?_
  .simp only[kM,bJ,g1,eO,g2];rw[<-Ck];rfl
  .simp only[aJ,aG,bJ,bR,eB];refine⟨fun hc=>?_,fun hc=>?_⟩
   .have h0:i=0:=by omega
    subst h0;have e0:List.getD [C.int (n:Int)] (((0:Nat):Int)).toNat default=.int (n:Int):=rfl;simp only[eO,e0,dV];refine⟨by omega,by omega,fun h2=>⟨by omega,by omega,by omega,1,?_,by omega,by omega⟩,fun h2=>⟨by omega,1,?_,by omega,by omega⟩⟩
    .unfold iJ;rw[zq (by omega),zq (by omega),zq (by omega)];simp
    have:n=0:=by omega
    subst this;rfl
   .have h1:i=1:=by omega
    subst h1;rfl
 have hl0:l=[]:=oC (by omega);subst hl0;refine VC.jw (fun i:Nat=> [vv (if i=0 then []else iJ [] f n),.int ((if i=0 then pJ []else pJ []+n:Nat):Int),.int (i:Int)]) (fun i=>i<=1) (fun i=>1-i) 0 ?_ (cu _) fun i hi=>?_
 .rfl
 simp only[aJ,aG,bJ,bR,eB];refine⟨fun hc=>?_,fun hc=>?_⟩
 .have h0:i=0:=by omega
  subst h0;have e0:List.getD [C.int (n:Int)] (((0:Nat):Int)).toNat default=.int (n:Int):=rfl;simp only[eO,e0,dV];refine⟨by omega,by omega,fun h2=>⟨by omega,by omega,by omega,1,?_,by omega,by omega⟩,fun h2=>⟨by omega,1,?_,by omega,by omega⟩⟩
  .unfold iJ;rw[zq (by omega),zq (by omega),zq (by omega)];simp
  .have:n=0:=by omega
   subst this;rfl
 have h1:i=1:=by omega
 subst h1;rfl
theorem abz(l:List fK)(f:Int)(hl:l.length<=100000):PC prog acS [(.sl vU,vv l),(I64,.int f),(I64,.int 0)] [(vU,Gl ((iO l f).getD fK.zero)),(I64,.int (if(iO l f).isSome then 0 else 8))]:=by
 apply apl rfl;simp only[aa1,aJ];refine⟨fun h=>by omega,fun _=>?_⟩;refine VC.jw (fun i:Nat=> [.int 0,.int 0,.int (i:Int),.int 0,.int 0,.int 0]) (fun i=>i<=l.length/\iO l f=iO (l.drop i) f) (fun i=>l.length-i) 0 rfl ⟨cu _,rfl⟩ fun i hi=>?_;obtain⟨i1,i2⟩:=hi;simp only[aJ,aG,bJ];refine⟨fun hc=>?_,fun hc=>?_⟩
 .have hk:i<l.length:=by omega
  have hg:(l.map Gl).getD (i:Int).toNat default=Gl l[i]:=by simp[List.getD,hk]
  have hd:l.drop i=l[i]::l.drop (i+1):=D6 hk;rw[hg];rw[hd]at i2;unfold iO at i2;rw[List.find?_cons]at i2;refine⟨by omega,by omega,fun h=>⟨by omega,i+1,by simp,⟨by omega,?_⟩,by omega⟩,fun h=>⟨?_,fun h=>absurd trivial h⟩⟩
  .have h:l[i].f≠f:=h;rw[gQ h]at i2;exact i2
  .have h:l[i].f=f:=h;rw[iH h]at i2;have i2:iO l f=some l[i]:=i2;rw[i2];rfl
 have:i=l.length:=by omega
 subst this;rw[List.drop_length]at i2;rw[i2];rfl
theorem E9{l:List fK}{a c:Nat}(h:l.length<=a/\pJ l<=c)(f:Int)(n:Nat):(iJ l f n).length<=a+1/\pJ (iJ l f n)<=c+n:=by
 have:=C8 l f n;rw[SN];omega
theorem atC(b:List UInt8)(hb:b.length<=1000000):PC prog aeJ [(aV,B b)] [(.sl vU,vv (if fE b=0 then placesOf (dN b)else [])),(I64,.int (fE b))]:=by
 apply asl rfl;simp only[adl,aJ,aG];refine⟨_,_,JD b hb,fun he=>?_,fun he=>?_⟩
 .have he:fE b≠0:=he;rw[zq he];rfl
 have he:fE b=0:=he;rw[aC he];have hk:uR b=dN b:=aC he;obtain⟨hr,ho,_⟩:=Pk.same b he;rw[hk];generalize dN b=k at hr ho;obtain⟨⟨⟨_,_,r3⟩,f2,f3,f4,f5⟩,f6⟩:=hr;unfold Pk.sum at f6;have z0:([]:List fK).length=0:=rfl;have zz:pJ []=0:=rfl;refine⟨_,sO [] 1 1 (by decide) (by decide) (by decide),_,sO _ 2 1 (by decide) (by decide) (by decide),_,sO _ 3 2 (by decide) (by decide) (by decide),_,sO _ 4 4 (by decide) (by decide) (by decide),_,sO _ 5 4 (by decide) (by decide) (by decide),?_⟩;refine VC.jw (fun i:Nat=> [vv (lq i kR),.int (i:Int)]) (fun i=>i<=k.hd.eU.length) (fun i=>k.hd.eU.length-i) 0 rfl (cu _) fun i hi=>?_;obtain⟨c1,c2,_⟩:=Nf i kR;have e5:pJ kR=12:=rfl;have n5:kR.length=5:=rfl;rw[e5]at c1;rw[n5]at c2;have hns:∀l:List Nat,(Ns l).toList.length=l.length:=fun l=>by simp[Ns]
 simp only[aJ,aG,bJ,bD];refine⟨fun hc=>?_,fun hc=>?_⟩
 .exact ⟨_,sO _ 6 4 (by omega) (by omega) (by decide),by omega,i+1,rfl,by omega,by omega⟩
 have hi2:i=k.hd.eU.length:=by omega
 subst hi2;have a0:(lq k.hd.eU.length kR).length<=100/\pJ (lq k.hd.eU.length kR)<=100:=by omega
 refine⟨fun hx=>?_,fun hx=>?_⟩
 .rw[aC hx]at f6;have hX:uT k (lq k.hd.eU.length kR)=iJ (iJ (iJ (lq k.hd.eU.length kR) 7 2) 8 2) 9 k.ext.length:=aC hx;have a1:=E9 a0 7 2;have a2:=E9 a1 8 2;have a3:=E9 a2 9 k.ext.length;have a4:=E9 a3 10 k.pay.length;have hP:placesOf k=Ae k (iJ (uT k (lq k.hd.eU.length kR)) 10 k.pay.length):=rfl;rw[hX]at hP;refine⟨_,sO _ 7 2 (by omega) (by omega) (by decide),_,sO _ 8 2 (by omega) (by omega) (by decide),_,sO _ 9 k.ext.length (by omega) (by omega) (by omega),_,sO _ 10 k.pay.length (by omega) (by omega) (by omega),fun hp=>?_,fun hp=>?_⟩
  .rw[aC hp]at f5;have ep:(k.pad:Int)-1=((k.pad-1:Nat):Int):=by omega
   have a5:=E9 a4 11 (k.pad-1);rw[ep];refine⟨by omega,_,sO _ 11 (k.pad-1) (by omega) (by omega) (by omega),_,sO _ 12 1 (by omega) (by omega) (by decide),?_⟩;rw[hP,he];unfold Ae;rw[aC hp]
  .rw[hP,he];unfold Ae;rw[zq (by rw[hp];decide)]
 have hX:uT k (lq k.hd.eU.length kR)=lq k.hd.eU.length kR:=zq (by rw[hx];decide);have a4:=E9 a0 10 k.pay.length;have hP:placesOf k=Ae k (iJ (uT k (lq k.hd.eU.length kR)) 10 k.pay.length):=rfl;rw[hX]at hP;refine⟨_,sO _ 10 k.pay.length (by omega) (by omega) (by omega),fun hp=>?_,fun hp=>?_⟩
 .rw[aC hp]at f5;have ep:(k.pad:Int)-1=((k.pad-1:Nat):Int):=by omega
  have a5:=E9 a4 11 (k.pad-1);rw[ep];refine⟨by omega,_,sO _ 11 (k.pad-1) (by omega) (by omega) (by omega),_,sO _ 12 1 (by omega) (by omega) (by decide),?_⟩;rw[hP,he];unfold Ae;rw[aC hp]
 rw[hP,he];unfold Ae;rw[zq (by rw[hp];decide)]
def iU(p:Pl)(k:Pk):Int:=if ¬k.right then 1 else if(behind p k).isSome then 0 else 9
def yY(p:Pl)(k:Pk):Pk:=if iU p k=0 then(behind p k).getD Pk.zero else Pk.zero
theorem Fj{p:Pl}{k:Pk}{e:Int}(h:iU p k=e)(he:e≠0):oJ (yY p k)=.ls [.ls [.bool false,.bool false,.bool false,.int 0,.int 0,.int 0,.int 0,.ls []],.int 0,.ls [],.ls [],.int 0]:=by
 unfold yY;rw[h,zq he];rfl
theorem KD{p:Pl}{k x:Pk}(hr:k.right)(h:behind p k=some x):iU p k=0/\yY p k=x:=by
 have:iU p k=0:=by unfold iU;rw[zq (fun hh=>hh hr),h];rfl
 refine⟨this,?_⟩;unfold yY;rw[aC this,h];rfl
theorem Ho{p:Pl}{k:Pk}(hr:k.right)(h:behind p k=none):iU p k=9:=by unfold iU;rw[zq (fun hh=>hh hr),h];rfl
theorem aug{l:List El}(h:lH l):(Bp l).length<=100000:=by
 have h1:=MS h;have h2:=SV (zB l) l (fun e he=>(J4 h e he).2.2);unfold Bp yh;simp only[cO,qV];omega
theorem avK{k:Pk}{w:List El}(h:oh k=some w):lH w:=by
 unfold oh at h;split at h
 .split at h
  .cases h;exact(AX k.aQ k.ext).2.2
  .cases h
 cases h;exact fun j hj=>absurd hj (by simp)
theorem acj{p:Pl}{k:Pk}{l:List El}(h:mV p k=some l):∃w,oh k=some w/\ru p w/\l=wJ p w:=by
 cases hw:oh k with
 |none=>unfold mV at h;rw[hw]at h;cases h
 |some w=>
  rw[R9 hw]at h;split at h
  next hc=>cases h;exact⟨w,rfl,hc.1,rfl⟩
  cases h
theorem adJ{p:Pl}{aD:Bool}:∀(l:List Sp) (x:List UInt8),(∀s∈l,Plain.ahead aD<=s.pos/\s.pos+s.size<=x.length/\((s.id:Int)∈bY p.jf->(oL p s.id []).length=s.size))->(l.foldl (zN p aD) x).length=x.length
 | [],_,_=>rfl
 |s::l,x,h=>by
  obtain⟨h1,h2,h3⟩:=h s (by simp);have e:=aeF (p:=p) (aD:=aD) h1 h2 h3;rw[Ak,adJ l _ (fun t ht=>by rw[e];exact h t (by simp[ht])),e]
theorem aby(p:Pl)(k:Pk)(hf:lJ p)(hn:fO p)(ho:k.ok)(hb:k.ext.length<=1000000)(hpy:k.pay.length<=1000000)(hd:k.pad<=1000000):PC prog acR [(ig,iC p),(qA,oJ k)] [(qA,oJ (yY p k)),(I64,.int (iU p k))]:=by
 apply apk rfl;simp only[aa0,aJ,aG];refine⟨_,Gn k hb hpy hd,fun h=>?_,fun h=>⟨_,Q8 p hf,fun h2=>?_,fun h2=>?_⟩⟩
 .have h:¬k.right:=yM h;have e:iU p k=1:=by unfold iU;rw[aC h]
  rw[Fj e (by decide),e]
 .have h:k.right:=ng h;have h2:¬fM p:=yM h2;have e:iU p k=9:=Ho h (by unfold behind;rw[zq h2]);rw[Fj e (by decide),e]
 have hr:k.right:=ng h;have hp:fM p:=ng h2;have hbe:behind p k=match(if jS p then mV p k else some [])with|none=>none|some l=>if(fU p k l).right then some (fU p k l)else none:=by unfold behind;rw[aC hp];rfl
 refine⟨_,apP p k hn hr,_,QH p,fun ha=>⟨_,_,anB p k hp hf hr ho,fun hno=>?_,fun hyes=>⟨_,JJ p,fun han=>?_,fun han=>?_⟩⟩,fun ha=>?_⟩
 .have ha:jS p:=ng ha;have hno:mV p k=none:=by
   have hno:(mV p k).isSome=false:=hno;cases h:mV p k with
   |none=>rfl
   |some l=>rw[h]at hno;cases hno
  have e:iU p k=9:=Ho hr (by rw[hbe,aC ha,hno]);rw[Fj e (by decide),e]
 .have ha:jS p:=ng ha;have han:jJ p:=ng han;obtain⟨l,hl⟩:∃l,mV p k=some l:=o9.1 hyes;obtain⟨w,hw,hme,rfl⟩:=acj hl;have hlr:=au8 hp (avK hw) hme.2.2;rw[aC ha,hl]at hbe;simp only at hbe;rw[hl,F8];generalize wJ p w=l at hlr hl hbe;have hlen:=MS hlr;have hel:(ny l).toList.length=l.length:=by simp[ny]
  rw[hel];have hX:fU p k l= {pE p k with hd:= {PG p k.hd with ext:=decide (l≠[])},aQ:=if l=[]then 0 else xQ l,ext:=if l=[]then []else Bp l}:=by
   unfold fU;rw[aC ha,aC han]
  refine⟨fun hc=>?_,fun hc=>?_⟩
  .have hne:l≠[]:=fun e=>by rw[e]at hc;exact absurd hc (by decide)
   rw[iH hne,zq hne,zq hne]at hX;rw[iH hc];have hbl:=aug hlr;obtain⟨q1,q2⟩:Qh l=Bp l/\Qg l=0:=⟨aC hlr,aC hlr⟩;have hwr:=aq6 l (by omega);rw[q1,q2]at hwr;have hrt:=Gn (fU p k l) (by rw[hX];show(Bp l).length<=1000000;omega) (by rw[hX];exact hpy) (by rw[hX];show(if p.np then 0 else k.pad)<=1000000;split<;>omega);refine⟨_,_,_,hwr,_,by rw[hX]at hrt;exact hrt,fun h=>?_,fun h=>?_⟩
   .have h:¬(fU p k l).right:=by rw[hX];exact yM h
    have e:iU p k=9:=Ho hr (by rw[hbe,zq h]);rw[Fj e (by decide),e]
   .have h:(fU p k l).right:=by rw[hX];exact ng h
    obtain⟨g1,g2⟩:=KD hr (by rw[hbe,aC h]);rw[g1,g2,hX];rfl
  have he:l=[]:=oC (by omega);subst he;have hrt:=Gn (fU p k []) (by rw[hX];show([]:List UInt8).length<=1000000;simp) (by rw[hX];exact hpy) (by rw[hX];show(if p.np then 0 else k.pad)<=1000000;split<;>omega);refine⟨_,by rw[hX]at hrt;exact hrt,fun h=>?_,fun h=>?_⟩
  .have h:¬(fU p k []).right:=by rw[hX];exact yM h
   have e:iU p k=9:=Ho hr (by rw[hbe,zq h]);rw[Fj e (by decide),e]
  have h:(fU p k []).right:=by rw[hX];exact ng h
  obtain⟨g1,g2⟩:=KD hr (by rw[hbe,aC h]);rw[g1,g2,hX];rfl
 .have ha:jS p:=ng ha;have han:¬jJ p:=yM han;obtain⟨l,hl⟩:∃l,mV p k=some l:=o9.1 hyes;obtain⟨w,hw,hme,hlw⟩:=acj hl;rw[aC ha,hl]at hbe;simp only at hbe;have hX:fU p k l= {pE p k with ext:=x9 p k}:=by
   unfold fU;rw[aC ha,zq han]
  have hdr:p.jg=[]:=Jj.1 fun h=>han (.inl h);have hx:k.hd.ext=true:=by
   cases hx:k.hd.ext with
   |true=>rfl
   |false=>
    exfalso;have:oh k=some []:=by unfold oh;rw[zq (by rw[hx];decide)]
    rw[this]at hw;cases hw;obtain⟨⟨m1,m2,m3⟩,_,_⟩:=hme;rcases ha with h|h|h
    .obtain ⟨m,hm⟩:=List.exists_mem_of_ne_nil _ h;exact absurd (m1 m.fr (gP.2 ⟨m,hm,rfl⟩)) (by simp[bY])
    .obtain ⟨m,hm⟩:=List.exists_mem_of_ne_nil _ h;exact absurd (m2 m.id (gP.2 ⟨m,hm,rfl⟩)) (by simp[bY])
    .exact han h
  have hsp:(spots k.aQ k.ext).2=0:=by
   unfold oh at hw;rw[aC hx]at hw;split at hw
   .assumption
   .cases hw
  have hwe:w=uF k.aQ k.ext:=by
   unfold oh at hw;rw[aC hx,aC hsp]at hw;cases hw;rfl
  have hls:∀s∈(spots k.aQ k.ext).1,(s.id:Int)∈bY p.jf->(oL p s.id []).length=s.size:=by
   intro s hs ho2;have hm:jP k.ext s∈w:=by rw[hwe];exact gP.2 ⟨s,hs,rfl⟩
   have:=hme.2.1 _ hm (by rw[hdr];simp);have hz:=(AX k.aQ k.ext).1 s hs;have hid:(jP k.ext s).id=(s.id:Int):=rfl;have hdl:(jP k.ext s).data.length=s.size:=by unfold jP;simp;omega
   rw[hid,hdl]at this;rw[awJ [] (jP k.ext s).data ho2];exact this
  have hip:=aon p k hp hf ho hb hsp hls;have hpl:(x9 p k).length<=1000000:=by
   unfold x9 kQ;rw[adJ _ _ fun s hs=>⟨TA hsp s hs,(AX k.aQ k.ext).1 s hs,hls s hs⟩];exact hb
  have hrt:=Gn (fU p k l) (by rw[hX];exact hpl) (by rw[hX];exact hpy) (by rw[hX];show(if p.np then 0 else k.pad)<=1000000;split<;>omega);refine⟨_,hip,_,by rw[hX]at hrt;exact hrt,fun h=>?_,fun h=>?_⟩
  .have h:¬(fU p k l).right:=by rw[hX];exact yM h
   have e:iU p k=9:=Ho hr (by rw[hbe,zq h]);rw[Fj e (by decide),e]
  .have h:(fU p k l).right:=by rw[hX];exact ng h
   obtain⟨g1,g2⟩:=KD hr (by rw[hbe,aC h]);rw[g1,g2,hX];rfl
 have ha:¬jS p:=yM ha;rw[zq ha]at hbe;simp only at hbe;have hX:fU p k []=pE p k:=by unfold fU;rw[zq ha]
 rw[hX]at hbe;have hrt:=Gn (pE p k) hb hpy (by show(if p.np then 0 else k.pad)<=1000000;split<;>omega);refine⟨_,hrt,fun h=>?_,fun h=>?_⟩
 .have h:¬(pE p k).right:=yM h;have e:iU p k=9:=Ho hr (by rw[hbe,zq h]);rw[Fj e (by decide),e]
 have h:(pE p k).right:=ng h;obtain⟨g1,g2⟩:=KD hr (by rw[hbe,aC h]);rw[g1,g2];rfl
theorem asw(p:Pl)(k:Pk)(hf:lJ p)(hn:fO p)(ho:k.ok)(hb:k.ext.length<=1000000)(hpy:k.pay.length<=1000000)(hd:k.pad<=1000000):PC prog adP [(ig,iC p),(qA,oJ k)] [(.bool,.bool (decide (iU p k=0)))]:=by
 apply aqN rfl;simp only[ab5,aJ,aG];exact⟨_,_,aby p k hf hn ho hb hpy hd,rfl⟩
end Go.Vc
namespace Go.Vc
open Go Go.Proofs Go.Plain Go.RowKit Go.Shelf Tryz
abbrev eY(b:Nat):Value:=.pointer (some ⟨b,0,none⟩)
theorem Sv(w:World)(v n:Int):Calls prog 196 #[.int .u64 v,.int .i64 n] w fun e W'=>e=.returned (.func (.func 235) #[] #[eY w.heap.size,eY (w.heap.size+1)])/\W'=(w.alloc (.cells #[.int .u64 v] 68)).alloc (.cells #[.int .i64 n] 3):=by
 refine(jN (n:=3)).1 ?_;refine sI func196 rfl trivial ?_ rfl;simp only[ntmps196,ni,bR,eB,Nat.reduceAdd,Nat.reduceSub,qD,qC,qF,qB,iw,kS];gi_wp2
 go_ret
 exact⟨rfl,rfl⟩
theorem aBe(w:World)(v n:Int):Calls prog 197 #[.int .i64 v,.int .u16 n] w fun e W'=>e=.returned (.func (.func 236) #[] #[eY (w.heap.size+1),eY w.heap.size])/\W'=(w.alloc (.cells #[.int .i64 v] 3)).alloc (.cells #[.int .u16 n] 23):=by
 refine(jN (n:=3)).1 ?_;refine sI func197 rfl trivial ?_ rfl;simp only[ntmps197,ni,bR,eB,Nat.reduceAdd,Nat.reduceSub,qD,qC,qF,qB,iw,kS];gi_wp2
 go_ret
 exact⟨rfl,rfl⟩
theorem afa(w:World)(cs:Array Value):Calls prog 195 #[.agg cs] w fun e W'=>e=.returned (.func (.func 234) #[] #[eY w.heap.size])/\W'=w.alloc (.cells cs 29):=by
 refine(jN (n:=3)).1 ?_;refine sI func195 rfl trivial ?_ rfl;simp only[ntmps195,ni,bR,eB,Nat.reduceAdd,Nat.reduceSub,qD,qC,qF,qB,iw,kS];gi_wp2
 go_ret
 exact⟨rfl,rfl⟩
theorem axo(v n:Nat)(hv:v<256^n)(hn:n<=8):v<18446744073709551616:=nK hv (zw (I9 (by decide) hn) (by decide))
def kG(W:World)(M:Nat->Prop)(p:Pl)(aQ:Nat):Dr->Value->Prop
 | .num v n,f=>∃a b,f=.func (.func 235) #[] #[eY a,eY b]/\M a/\M b/\Boxed W a 68 (.int .u64 (v:Int))/\Boxed W b 3 (.int .i64 (n:Int))/\v<256^n/\1<=n/\n<=8
 | .sec,f=>∃a cs,f=.func (.func 234) #[] #[eY a]/\M a/\W.heap[a]?=some (.cells cs 29 (0,0))/\cs[0]?=some (.bool p.sm)/\cs[1]?=some (.bool p.m)/\cs[2]?=some (.bool p.st)/\cs[3]?=some (.int .i64 p.ty)
 | .ug to,f=>∃a b,f=.func (.func 236) #[] #[eY a,eY b]/\M a/\M b/\Boxed W a 23 (.int .u16 (aQ:Int))/\Boxed W b 3 (.int .i64 to)
 | .data d,f=>∃a id dv,f=.func (.func 198) #[] #[eY a]/\M a/\W.heap[a]?=some (.cells #[.int .i64 id,dv] 103 (0,0))/\bV W M aV dv (B d)
theorem kG.mono{W W':World}{M M':Nat->Prop}{p:Pl}{aQ:Nat}{dr:Dr}{f:Value}(hs:W.heap.size<=W'.heap.size)(hk:∀b,M b->b<W.heap.size->W'.heap[b]?=W.heap[b]?/\M' b)(h:kG W M p aQ dr f):kG W' M' p aQ dr f:=by
 cases dr with
 |num v n=>
  obtain⟨a,b,rfl,m1,m2,b1,b2,h3⟩:=h;exact⟨a,b,rfl,(hk a m1 b1.lt).2,(hk b m2 b2.lt).2,(hk a m1 b1.lt).1.trans b1,(hk b m2 b2.lt).1.trans b2,h3⟩
 |sec=>
  obtain⟨a,cs,rfl,m1,h1,h2⟩:=h;have hlt:=(iX.1 h1).1;exact⟨a,cs,rfl,(hk a m1 hlt).2,(hk a m1 hlt).1.trans h1,h2⟩
 |ug to=>
  obtain⟨a,b,rfl,m1,m2,b1,b2⟩:=h;exact⟨a,b,rfl,(hk a m1 b1.lt).2,(hk b m2 b2.lt).2,(hk a m1 b1.lt).1.trans b1,(hk b m2 b2.lt).1.trans b2⟩
 |data d=>
  obtain⟨a,id,dv,rfl,m1,h1,h2⟩:=h;have hlt:=(iX.1 h1).1;exact⟨a,id,dv,rfl,(hk a m1 hlt).2,(hk a m1 hlt).1.trans h1,h2.mono hs hk⟩
theorem auU(W:World)(aX:KW prog W)(a b v n:Nat)(wv:Value)(h1:Boxed W a 68 (.int .u64 (v:Int)))(h2:Boxed W b 3 (.int .i64 (n:Int)))(hv:v<256^n)(hn:1<=n/\n<=8):
  Calls prog 235 (#[wv]++ #[eY a,eY b]) W fun e W'=>∃r,e=.returned r/\bV W' (fun b=>W.heap.size<=b) aV r (B (fq n v))/\Below W.heap.size W W':=by
 have c1:=h1.cell;have c2:=h2.cell;have h64:v<18446744073709551616:=axo v n hv hn.2;have hp:=(PC.oF (by decide) (vC v (n:Int) h64)).2 W (fun _=>False) [.int .u64 (v:Int),.int .i64 (n:Int)] aX ⟨_,_,rfl,⟨_,rfl,rfl⟩,_,_,rfl,⟨_,rfl,rfl⟩,rfl⟩;have e0:uQ v (n:Int)=0:=J6.2 ⟨by omega,by omega,by simpa using hv⟩;have eb:gH v (n:Int)=fq n v:=by unfold gH;rw[aC e0];simp
 rw[e0,eb]at hp;refine(jN (n:=3)).1 ?_;refine sI func235 rfl trivial ?_ rfl;simp only[ntmps235,ni,bR,eB,Nat.reduceAdd,Nat.reduceSub,qD,qC,qF,qB,iw,kS];gi_wp2_with (refine⟨trivial,?_⟩;gi_at_call 221;refine(jN.2 hp).mono ?_;rintro e w' ⟨r,rfl,⟨vs,⟨v1,r1,rfl,hv1,v2,r2,rfl,⟨_,hv2,rfl⟩,rfl⟩,rfl⟩,hb⟩;simp only[Rd]at hv2;subst hv2)
 go_ret
 exact⟨_,rfl,hv1.mono (aS _) (fun b hb _=>⟨rfl,by simpa using hb⟩),hb⟩
theorem aiq(W:World)(x:Nat):bV (W.alloc (.cells #[.int .u8 ((UInt8.ofNat x).toNat:Int)] 5)) (fun b=>W.heap.size<=b) aV (.slice (some ⟨W.heap.size,0,none⟩) 1 1) (B [UInt8.ofNat x]):=by
 refine⟨[.slice (some ⟨W.heap.size,0,none⟩) 1 1],⟨some ⟨W.heap.size,0,none⟩,1,by simp[B,ofBytes],by simp[B,ofBytes],by decide,fun _=>⟨W.heap.size,0,rfl,aS _,by simp,?_⟩⟩,by simp[Sh.mk,Sh.isAgg]⟩;intro i c hc;have h:=mZ W (.cells #[.int .u8 ((UInt8.ofNat x).toNat:Int)] 5);match i,hc with
 |0,hc=>
  have hc:C.int ((UInt8.ofNat x).toNat:Int)=c:=by simpa[B,ofBytes]using hc
  subst hc;refine⟨[.int .u8 ((UInt8.ofNat x).toNat:Int)],rfl,fun j u hj=>?_,rfl⟩;match j,hj with
  |0,hj=>
   obtain rfl:Value.int .u8 ((UInt8.ofNat x).toNat:Int)=u:=by simpa using hj
   show(match(W.alloc _).heap[W.heap.size]? with|some (.cells c _ _)=>_|_=>none)=_;rw[h];rfl
theorem axf(W:World)(a:Nat)(id:Int)(dv wv:Value)(h1:W.heap[a]?=some (.cells #[.int .i64 id,dv] 103 (0,0))):Calls prog 198 (#[wv]++ #[eY a]) W fun e W'=>e=.returned dv/\W'=W:=by
 have c1:W.cell? ⟨a,1,none⟩=some dv:=by simp[World.cell?,h1]
 refine(jN (n:=3)).1 ?_;refine sI func198 rfl trivial ?_ rfl;simp only[ntmps198,ni,bR,eB,Nat.reduceAdd,Nat.reduceSub,qD,qC,qF,qB,iw,kS];gi_wp2
 go_ret
 exact⟨rfl,rfl⟩
theorem avZ(p : Pl)(ht : 0 <= p.ty /\ p.ty <= 127)(b : Nat)(hb : b < 256) :
    (let x := if p.st = true then arith .or .u8 (arith .and .u8 (b : Int) 128) (IntKind.u8.wrap p.ty)else(b : Int)
     let y := if p.sm = true then arith .and .u8 x 127 else x
     if p.m = true then arith .or .u8 y 128 else y) = ((UInt8.ofNat (PX p b)).toNat : Int) := by
  obtain⟨t, ht2⟩ : ∃ t : Nat, p.ty = t := ⟨p.ty.toNat, by omega⟩;have t1 : ∀ x : Fin 256, arith .and .u8 (x.1 : Int) 128 = ((x.1 / 128 * 128 : Nat) : Int) /\ arith .and .u8 (x.1 : Int) 127 = ((x.1 % 128 : Nat) : Int) /\ arith .or .u8 (x.1 : Int) 128 = ((128 + x.1 % 128 : Nat) : Int) := by decide +kernel
  have a1 : ∀ x : Nat, x < 256 -> arith .and .u8 (x : Int) 128 = ((x / 128 * 128 : Nat) : Int) := fun x h => (t1 ⟨x, h⟩).1;have a2 : ∀ x : Nat, x < 256 -> arith .and .u8 (x : Int) 127 = ((x % 128 : Nat) : Int) := fun x h => (t1 ⟨x, h⟩).2.1;have a3 : ∀ x : Nat, x < 256 -> arith .or .u8 (x : Int) 128 = ((128 + x % 128 : Nat) : Int) := fun x h => (t1 ⟨x, h⟩).2.2;have e1 : IntKind.u8.wrap p.ty = (t : Int) := by rw [ht2, qK]; omega
  have a4 : arith .or .u8 (arith .and .u8 (b : Int) 128) (IntKind.u8.wrap p.ty) = ((b / 128 * 128 + t : Nat) : Int) := by
    rw [a1 b hb, e1, show b / 128 * 128 = b / 128 * 2 ^ 7 from rfl, CS rfl (by show _ < 2 ^ 8; omega) (by show _ < 2 ^ 8; omega), Bv _ _ _ (by omega)]
  have e2 : p.ty.toNat = t := by omega
  simp only [PX];rw [a4, e2];have hx : (if p.st = true then((b / 128 * 128 + t : Nat) : Int)else(b : Int)) = ((if p.st = true then b / 128 * 128 + t else b : Nat) : Int) := by split <;> rfl
  rw [hx];have hxl : (if p.st = true then b / 128 * 128 + t else b) < 256 := by split <;> omega
  generalize (if p.st = true then b / 128 * 128 + t else b) = x at hxl;rw [a2 x hxl];have hy : (if p.sm = true then((x % 128 : Nat) : Int)else(x : Int)) = ((if p.sm = true then x % 128 else x : Nat) : Int) := by split <;> rfl
  rw [hy];have hyl : (if p.sm = true then x % 128 else x) < 256 := by split <;> omega
  generalize (if p.sm = true then x % 128 else x) = y at hyl;rw [a3 y hyl];rw [zu];split <;> omega
theorem auT(W:World)(a:Nat)(cs:Array Value)(p:Pl)(ht:0<=p.ty/\p.ty<=127)(h1:W.heap[a]?=some (.cells cs 29 (0,0)))(q0:cs[0]?=some (.bool p.sm))(q1:cs[1]?=some (.bool p.m))(q2:cs[2]?=some (.bool p.st))(q3:cs[3]?=some (.int .i64 p.ty))
  (g off n cap b:Nat) (hn:1<=n) (hb:b<256) (hc:W.cell? ⟨g,off,none⟩=some (.int .u8 (b:Int))):
  Calls prog 234 (#[.slice (some ⟨g,off,none⟩) n cap]++ #[eY a]) W fun e W'=>e=.returned (.slice (some ⟨W.heap.size,0,none⟩) 1 1)/\W'=W.alloc (.cells #[.int .u8 ((UInt8.ofNat (PX p b)).toNat:Int)] 5):=by
 have c0:W.cell? ⟨a,0,none⟩=some (.bool p.sm):=by simp[World.cell?,h1,q0]
 have c1:W.cell? ⟨a,1,none⟩=some (.bool p.m):=by simp[World.cell?,h1,q1]
 have c2:W.cell? ⟨a,2,none⟩=some (.bool p.st):=by simp[World.cell?,h1,q2]
 have c3:W.cell? ⟨a,3,none⟩=some (.int .i64 p.ty):=by simp[World.cell?,h1,q3]
 have i0:(0:Int)<n:=by omega
 refine(jN (n:=3)).1 ?_;refine sI func234 rfl trivial ?_ rfl;simp only[ntmps234,ni,bR,eB,Nat.reduceAdd,Nat.reduceSub,qD,qC,qF,qB,iw,kS];cases hst:p.st<;>cases hsm:p.sm<;>cases hm:p.m<;>simp only[hst,hsm,hm]at c0 c1 c2;all_goals
  gi_wp2
  go_ret
  have ha:=avZ p ht b hb;simp only[hst,hsm,hm,eO,xk,pY]at ha;rw[<-ha];refine⟨rfl,?_⟩;first|rfl|(rw[qK];rfl)
theorem ag7(W:World)(u:UInt8)(n:Int)(hn:n=(u.toNat:Int)):bV (W.alloc (.cells #[.int .u8 n] 5)) (fun b=>W.heap.size<=b) aV (.slice (some ⟨W.heap.size,0,none⟩) 1 1) (B [u]):=by
 have h:=aiq W u.toNat;rw[show UInt8.ofNat u.toNat=u from by simp]at h;rw[hn];exact h
theorem az0(W:World)(a b:Nat)(to:Int)(aQ:Nat)(h1:Boxed W a 23 (.int .u16 (aQ:Int)))(h2:Boxed W b 3 (.int .i64 to))(ht:1<=to/\to<=255)
  (g off n cap x:Nat) (hn:1<=n) (hb:x<256) (hc:W.cell? ⟨g,off,none⟩=some (.int .u8 (x:Int))):
  Calls prog 236 (#[.slice (some ⟨g,off,none⟩) n cap]++ #[eY a,eY b]) W fun e W'=>∃r,e=.returned r/\bV W' (fun b=>W.heap.size<=b) aV r (B [tF (decide (aQ=48862)) to x])/\Below W.heap.size W W':=by
 have c1:=h1.cell;have c2:=h2.cell;have i0:(0:Int)<n:=by omega
 refine(jN (n:=3)).1 ?_;refine sI func236 rfl trivial ?_ rfl;simp only[ntmps236,ni,bR,eB,Nat.reduceAdd,Nat.reduceSub,qD,qC,qF,qB,iw,kS];have d1:W.drew.cell? ⟨a,0,none⟩=some (.int .u16 (aQ:Int)):=c1;have d2:W.drew.cell? ⟨b,0,none⟩=some (.int .i64 to):=c2;have d3:W.drew.cell? ⟨g,off,none⟩=some (.int .u8 (x:Int)):=hc;by_cases hp:aQ=48862
 .subst hp;have hi:Go.bits .or .u8 (to%256*16%256) ((x:Int)%16)=((tF true to x).toNat:Int):=by
   rw[<-Uz to ht x hb,U5 x hb,qK,wG,qK];rfl
  gi_wp2
  gi_region
  gi_wp2
  go_ret
  exact⟨_,rfl,(ag7 W (tF true to x) _ rfl).mono (aS _) (fun b hb _=>⟨rfl,hb⟩),((eD _ W).alloc (aS _) _).drew⟩
 have hp2:¬(aQ:Int)=48862:=by omega
 have hi:=TQ to ht x;rw[qK]at hi;gi_wp2
 go_ret
 rw[gQ hp];exact⟨_,rfl,ag7 W (tF false to x) _ rfl,(eD _ W).alloc (aS _) _⟩
def o8(W:World)(M:Nat->Prop)(p:Pl)(aQ:Nat):List jA->List Value->Prop
 | [],xs=>xs=[]
 |s::l,xs=>∃f r,xs=.int .i64 s.field:: .int .i64 (s.pos:Int):: .int .i64 (s.size:Int)::f::r/\kG W M p aQ s.dr f/\o8 W M p aQ l r
theorem o8.mono{W W':World}{M M':Nat->Prop}{p:Pl}{aQ:Nat}(hs:W.heap.size<=W'.heap.size)(hk:∀b,M b->b<W.heap.size->W'.heap[b]?=W.heap[b]?/\M' b):∀{l:List jA}{xs:List Value},o8 W M p aQ l xs->o8 W' M' p aQ l xs
 | [],_,h=>h
 |_::_,_,⟨f,r,h1,h2,h3⟩=>⟨f,r,h1,h2.mono hs hk,o8.mono hs hk h3⟩
theorem o8.append{W:World}{M:Nat->Prop}{p:Pl}{aQ:Nat}:∀{l m:List jA}{xs ys:List Value},o8 W M p aQ l xs->o8 W M p aQ m ys->o8 W M p aQ (l++m) (xs++ys)
 | [],_,xs,_,h,h2=>by rw[show xs=[]from h];exact h2
 |_::_,_,_,_,⟨f,r,h1,h2,h3⟩,h4=>⟨f,r++_,by rw[h1];rfl,h2,o8.append h3 h4⟩
theorem kG.one{W:World}{M:Nat->Prop}{p:Pl}{aQ:Nat}{dr:Dr}{f:Value}(h:kG W M p aQ dr f):f.oneCell'=true:=by
 cases dr with
 |num v n=>obtain⟨a,b,rfl,_⟩:=h;rfl
 |sec=>obtain⟨a,b,rfl,_⟩:=h;rfl
 |ug to=>obtain⟨a,b,rfl,_⟩:=h;rfl
 |data d=>obtain⟨a,b,dv,rfl,_⟩:=h;rfl
theorem o8.one{W:World}{M:Nat->Prop}{p:Pl}{aQ:Nat}:∀{l:List jA}{xs:List Value},o8 W M p aQ l xs->∀u∈xs,u.oneCell'=true
 | [],xs,h=>by rw[show xs=[]from h];intro u hu;cases hu
 |_::l,_,⟨f,r,h1,h2,h3⟩=>by
  rw[h1];intro u hu;rcases iR.1 hu with rfl|hu
  .rfl
  rcases iR.1 hu with rfl|hu
  .rfl
  rcases iR.1 hu with rfl|hu
  .rfl
  rcases iR.1 hu with rfl|hu
  .exact h2.one
  exact h3.one u hu
def vw(o:Option Nat)(v:Value)(b:Nat):Prop:=o≠some b/\v.ownBlock≠some b
theorem aiQ{w:World}{N:Nat->Prop}{v:Value}{x:fK}(h:bV w N vU v (Gl x)):v=.agg #[.int .i64 x.f,.int .i64 (x.p:Int),.int .i64 (x.s:Int)]:=by
 obtain⟨vs,⟨_,va,vb,rfl,h1,_,vc,vd,rfl,h2,_,ve,vf,rfl,h3,h4⟩,rfl⟩:=h;simp only[Rd]at h1 h2 h3 h4;subst h1 h2 h3 h4;rfl
def CJ(W0 W:World)(lb ob:Nat)(lv:Value)(p:Pl)(aQ:Nat)(v:Value)(l:List jA):Prop:=
 ∃xs,Boxed W ob 227 v/\W.ownsRow W0.heap.size 231 4 v l.length xs/\o8 W (vw (some ob) v) p aQ l xs/\Boxed W lb 52 lv/\Below W0.heap.size W0 W/\W0.heap.size<=lb/\W0.heap.size<=ob/\lb≠ob
theorem CJ.below{W0 W W':World}{lb ob:Nat}{lv:Value}{p:Pl}{aQ:Nat}{v:Value}{l:List jA}(h:CJ W0 W lb ob lv p aQ v l)(hb:Below W.heap.size W W'):CJ W0 W' lb ob lv p aQ v l:=by
 obtain⟨xs,h1,h2,h3,h4,h5,h6,h7,h8⟩:=h;have hg:W.grownBy W' none:=⟨hb.os,hb.tape,hb.output,hb.size,fun k hk _=>hb.block k hk⟩;refine⟨xs,h1.kept hg (by simp),h2.kept hg (by cases hv:v.ownBlock<;>simp),h3.mono hb.size (fun b hm hlt=>⟨hb.block b hlt,hm⟩),h4.kept hg (by simp),h5.trans (hb.mono h5.size),h6,h7,h8⟩
theorem CJ.fresh{W0 W:World}{lb ob:Nat}{lv:Value}{p:Pl}{aQ:Nat}{v:Value}{l:List jA}(h:CJ W0 W lb ob lv p aQ v l){b:Nat}(hb:W.heap.size<=b):vw (some ob) v b:=by
 obtain⟨xs,h1,h2,h3,h4,h5,h6,h7,h8⟩:=h;have:=h1.lt;exact⟨fun e=>by cases e;omega,fun e=>by have:=h2.lt _ e;omega⟩
theorem Ul:(prog.info? 231).map (fun i=>(i.zero,i.size,i.bytes))=some (some (.agg #[.int .i64 0,.int .i64 0,.int .i64 0,.nilFunc]),4,32):=by kernel_rfl
theorem ayG(W:World)(aX:KW prog W)(N:Nat->Prop)(lv:Value)(pl:List fK)(hlv:bV W N (.sl vU) lv (vv pl))(hpl:pl.length<=100000)(field:Int)(x:fK)(hx:iO pl field=some x):
  Calls prog 152 #[lv,.int .i64 field,.int .i64 0] W fun e w'=>e=.returned (.tuple #[.agg #[.int .i64 x.f,.int .i64 (x.p:Int),.int .i64 (x.s:Int)],.int .i64 0])/\Below W.heap.size W w':=by
 have hp:=(PC.oF (by decide) (abz pl field hpl)).2 W N [lv,.int .i64 field,.int .i64 0] aX ⟨_,_,rfl,hlv,_,_,rfl,⟨_,rfl,rfl⟩,_,_,rfl,⟨_,rfl,rfl⟩,rfl⟩;rw[hx]at hp;refine hp.mono ?_;rintro e w' ⟨r,rfl,⟨vs,⟨v1,r1,rfl,hv1,v2,r2,rfl,⟨_,hv2,rfl⟩,rfl⟩,rfl⟩,hb⟩;simp only[Rd]at hv2;subst hv2;obtain rfl:=aiQ hv1;exact⟨rfl,hb⟩
theorem QY(w:World)(x y z u:Value)(t:TypeId):∀j c,[x,y,z,u][j]?=some c->(w.alloc (.cells #[x,y,z,u] t)).cell? ((⟨w.heap.size,0,none⟩:Addr).add j)=some c:=by
 intro j c hj;have h:=mZ w (.cells #[x,y,z,u] t);have hc:∀i,(w.alloc (.cells #[x,y,z,u] t)).cell? ((⟨w.heap.size,0,none⟩:Addr).add i)= #[x,y,z,u][i]?:=by
  intro i;have ea:(⟨w.heap.size,0,none⟩:Addr).add i=⟨w.heap.size,i,none⟩:=by unfold Addr.add;split<;>simp_all
  rw[ea];show(match(w.alloc (.cells #[x,y,z,u] t)).heap[w.heap.size]? with|some (.cells c _ _)=>_|_=>none)=_;rw[h];simp
 rw[hc,<-hj];simp
theorem JH{W W':World}(hb:Below W.heap.size W W'):W.grownBy W' none:=⟨hb.os,hb.tape,hb.output,hb.size,fun k hk _=>hb.block k hk⟩
theorem Ki(v:Value):v.ownBlock=none\/v.ownBlock≠none:=by cases v.ownBlock<;>simp
theorem kG.form{W:World}{M:Nat->Prop}{p:Pl}{aQ:Nat}{dr:Dr}{f:Value}(h:kG W M p aQ dr f):∃F caps,f=.func (.func F) #[] caps:=by
 cases dr with
 |num v n=>obtain⟨a,b,rfl,_⟩:=h;exact⟨_,_,rfl⟩
 |sec=>obtain⟨a,b,rfl,_⟩:=h;exact⟨_,_,rfl⟩
 |ug to=>obtain⟨a,b,rfl,_⟩:=h;exact⟨_,_,rfl⟩
 |data d=>obtain⟨a,b,dv,rfl,_⟩:=h;exact⟨_,_,rfl⟩
theorem az1(W0 W:World)(aX:KW prog W)(N:Nat->Prop)(lb ob:Nat)(lv v f:Value)(p:Pl)(aQ:Nat)(l:List jA)(pl:List fK)(hlv:bV W N (.sl vU) lv (vv pl))(hpl:pl.length<=100000)(field:Int)(x:fK)(hx:iO pl field=some x)
  (hlen:l.length<=1000) (set:Bool) (dr:Dr) (hst:CJ W0 W lb ob lv p aQ v l) (hdr:kG W (vw (some ob) v) p aQ dr f):
  Calls prog 194 (#[.bool set,.int .i64 field,f]++ #[eY lb,eY ob]) W fun e W'=>e=.returned (.tuple #[])/\W.heap.size<=W'.heap.size/\(∀b,b<W.heap.size->ob≠b->v.ownBlock≠some b->W'.heap[b]?=W.heap[b]?)/\∃v',CJ W0 W' lb ob lv p aQ v' (l++if set=true then [⟨x.f,x.p,x.s,dr⟩]else []):=by
 have hp:=ayG W aX N lv pl hlv hpl field x hx;obtain⟨xs,h1,h2,h3,h4,h5,h6,h7,h8⟩:=hst;have c1:=h1.cell;have c4:=h4.cell;obtain⟨i0,hi,hz0,hz1,hz2⟩:=yN Ul;obtain⟨F,caps,rfl⟩:=hdr.form;refine(jN (n:=3)).1 ?_;refine sI func194 rfl trivial ?_ rfl;simp only[ntmps194,ni,bR,eB,Nat.reduceAdd,Nat.reduceSub,qD,qC,qF,qB,iw,kS];cases set with
 |false=>
  gi_wp2
  refine fD (results_none rfl _ _ _) rfl ?_;exact⟨rfl,aS _,fun _ _ _ _=>rfl,v,xs,by simpa using h1,by simpa using h2,by simpa using h3,h4,h5,h6,h7,h8⟩
 |true=>
  have hone:∀u∈[Value.int .i64 x.f,.int .i64 (x.p:Int),.int .i64 (x.s:Int),.func (.func F) #[] caps],u.oneCell'=true:=by
   intro u hu;simp only[iR,sH,pz]at hu;rcases hu with rfl|rfl|rfl|rfl
   .rfl
   .rfl
   .rfl
   .exact hdr.one
  have aCb:some ob≠v.ownBlock:=h1.not_row (by decide) h2;gi_wp2_with (first
   |(refine⟨trivial,?_⟩;gi_at_call 152;refine(jN.2 hp).mono ?_;rintro e w' ⟨rfl,hb⟩;have hg:=JH hb;have g1:=h1.kept hg (by simp);have g2:=h2.kept hg (Ki v);have d1:∀o,(w'.alloc o).cell? ⟨ob,0,none⟩=some v:=fun o=>(g1.alloc o).cell;have hsz:=hb.size;have hcn:=fun o=>QY (w'.alloc o) (.int .i64 x.f) (.int .i64 (x.p:Int)) (.int .i64 (x.s:Int)) (.func (.func F) #[] caps) 231;simp only[zo]at hcn)
   |(gi_at_builtin;refine wpListIn_append_own_at _ rfl _ _ 227 rfl W0.heap.size 231 i0 _ 4 32 underlying227 hi hz0 hz1 hz2 rfl (by decide) _ _ _ rfl ((g2.alloc _).alloc _) ⟨w'.heap.size+1,0,none⟩ 1 1 [.int .i64 x.f,.int .i64 (x.p:Int),.int .i64 (x.s:Int),.func (.func F) #[] caps] rfl rfl (hcn _) hone (by simp only[maxLen];omega) (by omega) (by have:=h5.size;simp;omega) ?_;intro v' w1 hown hgrow _ hat;obtain⟨g',cap',rfl⟩:=ownsRow_succ hown;have b1:=((g1.alloc _).alloc _).kept hgrow aCb;have e1:=b1.cell;have e2:=b1.frozen))
  go_end0
  have hg3:=grownBy_setCell' w1 ob (.slice (some ⟨g',0,none⟩) (l.length+1) cap');have hnr:=b1.not_row (by decide) hown;have hs1:=hgrow.size;have hs3:=hg3.size;simp only[zo]at hs1;have hfr:∀b,b<W.heap.size->ob≠b->v.ownBlock≠some b->(w1.setCell ⟨ob,0,none⟩ (.slice (some ⟨g',0,none⟩) (l.length+1) cap')).heap[b]?=W.heap[b]?:=by
   intro b hlt ho hv;rw[hg3.block b (by omega) (by simpa using fun e=>ho e.symm),hgrow.block b (by simp;omega) (fun e=>hv e.symm),lX _ _ _ (by simp;omega),lX _ _ _ (by omega),hb.block b hlt]
  have hM:∀b,b<W.heap.size->vw (some ob) v b->vw (some ob) (.slice (some ⟨g',0,none⟩) (l.length+1) cap') b:=by
   intro b hlt ⟨m1,m2⟩;refine⟨m1,fun e=>?_⟩;rcases hat with h|h
   .exact m2 (h▸e)
   .rw[h]at e;simp only[zo,dP]at e;omega
  have hk:∀b,vw (some ob) v b->b<W.heap.size->(w1.setCell ⟨ob,0,none⟩ (.slice (some ⟨g',0,none⟩) (l.length+1) cap')).heap[b]?=W.heap[b]?/\vw (some ob) (.slice (some ⟨g',0,none⟩) (l.length+1) cap') b:=
   fun b hm hlt=>⟨hfr b hlt (fun e=>hm.1 (by rw[e])) hm.2,hM b hlt hm⟩
  have hS:W.heap.size<=(w1.setCell ⟨ob,0,none⟩ (.slice (some ⟨g',0,none⟩) (l.length+1) cap')).heap.size:=by omega
  refine⟨rfl,hS,hfr,_,xs++ [.int .i64 x.f,.int .i64 (x.p:Int),.int .i64 (x.s:Int),.func (.func F) #[] caps],b1.set _,?_,?_,?_,?_,h6,h7,h8⟩
  .simpa using hown.kept hg3 (.inr (fun e=>hnr e.symm))
  .exact (h3.mono hS hk).append ⟨_,[],rfl,hdr.mono hS hk,rfl⟩
  .exact (hfr lb h4.lt (fun e=>h8 e.symm) (fun e=>(h4.not_row (by decide) h2) e.symm)).trans h4
  have hB:=h5.size;refine⟨?_,?_,?_,by omega,fun b hb'=>?_⟩
  .rw[hg3.os,hgrow.os];exact hb.os.trans h5.os
  .rw[hg3.tape,hgrow.tape];exact hb.tape.trans h5.tape
  .rw[hg3.output,hgrow.output];exact hb.output.trans h5.output
  rw[hfr b (by omega) (by omega) (fun e=>by have:=h2.lt _ e;omega)];exact h5.block b hb'
theorem kG.drew{W:World}{M:Nat->Prop}{p:Pl}{aQ:Nat}{dr:Dr}{f:Value}(h:kG W M p aQ dr f):kG W.drew M p aQ dr f:=h.mono (aS _) (fun _ hb _=>⟨rfl,hb⟩)
theorem Ie{w:World}{N:Nat->Prop}{v:Value}{p:Pl}(h:bV w N ig v (iC p)):∃mv ov dv av,v=.agg #[.bool p.sm,.bool p.m,.bool p.st,.int .i64 p.ty,.bool p.sq,.int .u16 p.seq,.bool p.dY,.int .u32 p.time,.bool p.ss,.int .u32 p.bZ,mv,ov,dv,av,.bool p.np]/\
  bV w N (.sl yG) mv (CG p.maps)/\bV w N (.sl ou) ov (ny p.jf)/\bV w N (.sl I64) dv (Ints p.jg)/\bV w N (.sl ou) av (ny p.jh):=by
 obtain⟨vs,⟨_,a1,b1,rfl,h1,_,a2,b2,rfl,h2,_,a3,b3,rfl,h3,_,a4,b4,rfl,h4,_,a5,b5,rfl,h5,_,a6,b6,rfl,h6,_,a7,b7,rfl,h7,_,a8,b8,rfl,h8,_,a9,b9,rfl,h9,_,a10,b10,rfl,h10,_,a11,b11,rfl,h11,_,a12,b12,rfl,h12,_,a13,b13,rfl,h13,_,a14,b14,rfl,h14,_,a15,b15,rfl,h15,h16⟩,rfl⟩:=h;have l11:=h11;have l12:=h12;have l13:=h13;have l14:=h14;obtain⟨x11,y11,rfl,_⟩:=h11;obtain⟨x12,y12,rfl,_⟩:=h12;obtain⟨x13,y13,rfl,_⟩:=h13;obtain⟨x14,y14,rfl,_⟩:=h14;simp only[Rd]at h1 h2 h3 h4 h5 h6 h7 h8 h9 h10 h15 h16;subst h1 h2 h3 h4 h5 h6 h7 h8 h9 h10 h15 h16;exact⟨_,_,_,_,rfl,⟨_,l11,rfl⟩,⟨_,l12,rfl⟩,⟨_,l13,rfl⟩,⟨_,l14,rfl⟩⟩
end Go.Vc
