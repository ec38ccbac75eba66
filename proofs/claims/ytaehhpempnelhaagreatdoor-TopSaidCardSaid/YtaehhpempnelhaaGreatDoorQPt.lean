/-
  The contracts of plan: what a plan makes of a packet, each out of its condition.
-/
import Derived.Test.YtaehhpempnelhaaGreatDoorQTx6
import Derived.Test.YtaehhpempnelhaaGreatDoorQBase4
set_option maxRecDepth 100000
namespace Go.Vc
open Go Go.Proofs Go.Plain Tryz
theorem MI(b:List UInt8)(hb:b.length<=1000000):PC prog abS [(aV,B b)] [(aV,B b)]:=by
 apply aof rfl;simp only[aae,aJ,aG,bD];refine⟨fun h=>?_,by omega⟩;rw[show B b=C.ls []from pX C.ls h]
theorem aah(b:List UInt8)(hb:b.length<=1000000):PC prog abD [(aV,B b)] [(aV,B b)]:=by
 apply aoi rfl;simp only[QO,aJ,aG,bD];refine⟨fun h=>?_,by omega⟩;rw[show B b=C.ls []from pX C.ls h]
theorem aol(l:List Nat)(hl:l.length<=1000000):PC prog Xk [(.sl U32,Ns l)] [(.sl U32,Ns l)]:=by
 apply alP rfl;simp only[Xj,aJ,aG];have hn:(HV l).length=l.length:=by simp[HV]
 refine⟨fun h=>?_,by omega⟩;rw[show Ns l=C.ls []from pX C.ls h]
theorem aq1(p:Pl):PC prog acP [(ig,iC p)] [(.bool,.bool (decide (nY p)))]:=by
 apply aph rfl;simp only[aaY,aJ,aG];refine⟨_,JJ p,?_⟩;congr 3
 have e:(nY p↔¬(p.jg≠[]\/p.jh≠[])/\p.np=false):=Iff.rfl;rw[Cj,dQ,e];by_cases h:p.jg≠[]\/p.jh≠[]
 .simp[h]
 simp[h]
theorem apP(p:Pl)(k:Pk)(hn:fO p)(hr:k.right):PC prog abI [(ig,iC p),(qA,oJ k)] [(qA,oJ (pE p k))]:=by
 obtain⟨⟨⟨_,_,r3⟩,f2,f3,f4,f5⟩,f6⟩:=hr;unfold Pk.sum at f6;apply anZ rfl;simp only[ZR,aJ,aG];refine⟨_,aol k.hd.eU (by omega),_,MI k.ext (by omega),_,MI k.pay (by omega),?_⟩;obtain⟨n1,n2,n3,n4,n5,n6⟩:=hn;have c:∀(s:Bool) (x:Int) (y:Nat),0<=x->(if s=true then x else(y:Int))=((if s=true then x.toNat else y:Nat):Int):=fun s x y h=>by cases s<;>simp<;>omega
 have d:(if p.np=true then(0:Int)else(k.pad:Int))=((if p.np=true then 0 else k.pad:Nat):Int):=by cases p.np<;>rfl
 rw[c _ _ _ n1,c _ _ _ n3,c _ _ _ n5,d];rfl
def FB(l:List Mp):List C:=l.foldl (fun m x=>pQ m x.fr (.int x.to)) []
def Fy(l:List El):List C:=l.foldl (fun m x=>pQ m x.id (B x.data)) []
theorem Nv{α:Type}(key:α->Int)(val:α->C)(x:Int):∀(l:List α),(l.map key).Nodup->∀m:List C,(∀a∈l,jD m (key a)=none)->jD (l.foldl (fun m a=>pQ m (key a) (val a)) m) x=((l.find? (fun a=>key a==x)).map (fun a=>C.ls [.int x,val a])).or (jD m x)
 | [],_,m,_=>by simp
 |a::l,hn,m,hm=>by
  simp only[jG,List.nodup_cons]at hn;rw[Ak,Nv key val x l hn.2 _ (fun c hc=>by
   rw[Nc,zq (fun e=>hn.1 (gP.2 ⟨c,hc,e.symm⟩)),hm c (List.mem_cons_of_mem _ hc)]),Nc,List.find?_cons]
  by_cases h:key a=x
  .have hnone:l.find? (fun a=>key a==x)=none:=by
    rw[Jf];intro c hc he;exact hn.1 (gP.2 ⟨c,hc,by rw[h];simpa using he⟩)
   have hb:(key a==x)=true:=by simpa using h
   rw[hnone,hb,aC h,h];rfl
  have hb:(key a==x)=false:=by simpa using h
  rw[hb,zq h]
theorem ahD(l:List Mp)(hn:(l.map (·.fr)).Nodup)(x:Int):jD (FB l) x=(l.find? (fun a=>a.fr==x)).map (fun a=>C.ls [.int x,.int a.to]):=by
 have:=Nv (·.fr) (fun a:Mp=>C.int a.to) x l hn [] (fun _ _=>rfl);unfold FB;rw[this];show Option.or _ none=_;rw[Option.or_none]
theorem ahw(l:List El)(hn:(l.map (·.id)).Nodup)(x:Int):jD (Fy l) x=(l.find? (fun a=>a.id==x)).map (fun a=>C.ls [.int x,B a.data]):=by
 have:=Nv (·.id) (fun a:El=>B a.data) x l hn [] (fun _ _=>rfl);unfold Fy;rw[this];show Option.or _ none=_;rw[Option.or_none]
theorem Ru(p:Pl)(h:lJ p):PC prog adN [(ig,iC p)] [(.mp .i64 I64,.ls (FB p.maps))]:=by
 apply aqK rfl;simp only[ab2,aJ];have hl:=h.1;refine VC.jw (fun i:Nat=> [.int (i:Int),.ls (FB (p.maps.take i))]) (fun i=>i<=p.maps.length) (fun i=>p.maps.length-i) 0 rfl (cu _) fun i hi=>?_;simp only[aJ,aG,bJ];refine⟨fun hc=>⟨by omega,by omega,by omega,i+1,?_,by omega,by omega⟩,fun hc=>?_⟩
 .have hk:i<p.maps.length:=by omega
  have hg:(p.maps.map um).getD (i:Int).toNat default=um p.maps[i]:=by simp[List.getD,hk]
  rw[hg,nM hk];unfold FB;rw[Ga];rfl
 have:i=p.maps.length:=by omega
 subst this;rw[jQ]
theorem Q6(p:Pl)(h:lJ p):PC prog acM [(ig,iC p)] [(.mp .i64 aV,.ls (Fy p.jf))]:=by
 apply ape rfl;simp only[aaV,aJ];have hl:=h.2.1;refine VC.jw (fun i:Nat=> [.int (i:Int),.ls (Fy (p.jf.take i))]) (fun i=>i<=p.jf.length) (fun i=>p.jf.length-i) 0 rfl (cu _) fun i hi=>?_;simp only[aJ,aG,bJ];refine⟨fun hc=>⟨by omega,by omega,by omega,i+1,?_,by omega,by omega⟩,fun hc=>?_⟩
 .have hk:i<p.jf.length:=by omega
  have hg:(p.jf.map nW).getD (i:Int).toNat default=nW p.jf[i]:=by simp[List.getD,hk]
  rw[hg,nM hk];unfold Fy;rw[Ga];rfl
 have:i=p.jf.length:=by omega
 subst this;rw[jQ]
theorem asv(e:El):PC prog QD [(ou,nW e)] [(I64,.int e.id)]:=by
 apply amo rfl;simp only[Yo,aJ]
theorem aal(l:List El)(hl:l.length<=1000000):PC prog Xu [(.sl ou,ny l),(.fH QD,.ls [])] [(.bool,.bool (decide (lG (bY l))))]:=by
 apply alS rfl;simp only[Xn,aJ];have hil:(bY l).length=l.length:=by simp[bY]
 refine VC.jw (fun s:Mc=> [.bool false,.int (s.k:Int),.ls s.m]) (fun s=>s.k<=l.length/\(∀j,j<s.k->sj (bY l) j)/\∀x:Int,jT s.m x=decide (x∈(bY l).take s.k)) (fun s=>l.length-s.k) ⟨0,[]⟩ rfl
  ⟨cu _,fun j hj=>absurd hj (Nat.not_lt_zero j),fun x=>by simp[CO]⟩ fun s hs=>?_
 obtain⟨i1,i2,i3⟩:=hs;simp only[aJ,aG,bJ];refine⟨fun hc=>?_,fun hc=>?_⟩
 .have hk:s.k<l.length:=by omega
  have hk2:s.k<(bY l).length:=by omega
  have hat:sj (bY l) s.k↔1<=((bY l).getD s.k 0)/\((bY l).getD s.k 0)<=255/\((bY l).getD s.k 0)∉(bY l).take s.k:=Iff.rfl;have htk:(bY l).take (s.k+1)=(bY l).take s.k++ [((bY l).getD s.k 0)]:=by rw[nM hk2];simp[List.getD,hk2]
  have hid:(l.getD s.k El.zero).id=(bY l).getD s.k 0:=by simp[bY,List.getD,hk]
  rw[Dg l s.k hk];refine⟨by omega,by omega,_,asv _,?_⟩;rw[hid];simp only[dV];generalize ((bY l).getD s.k 0)=e at hat htk;have hm:=i3 e;refine⟨fun h=>?_,fun h=>?_⟩
  .have h:(e<1\/255<e)\/jT s.m e=true:=by
    rcases h with h|h
    .exact .inl h
    .rw[aC trivial]at h;exact .inr h
   rw[hm,dQ]at h;have hn:¬lG (bY l):=fun hr=>by
    have h1:=hat.1 (hr s.k hk2);rcases h with h|h
    .omega
    .exact h1.2.2 h
   rw[gQ hn]
  .have h:¬(e<1\/255<e)/\jT s.m e=false:=⟨h.1,by have h2:=h.2;rw[aC trivial]at h2;exact h2⟩;rw[hm,pV]at h;refine⟨by omega,⟨s.k+1,_⟩,by simp;rfl,⟨by simp only;omega,fun j hj=>?_,fun x=>?_⟩,by simp only;omega⟩
   .by_cases hjk:j=s.k
    .rw[hjk];exact hat.2 ⟨by omega,by omega,h.2⟩
    simp only at hj;exact i2 j (by omega)
   .simp only;rw[Ez,i3,htk];by_cases hx:e=x
    .rw[aC hx];simp[hx]
    .have:¬x=e:=fun h=>hx h.symm;rw[zq hx];simp[this]
 have he:s.k=l.length:=by omega
 rw[iH (show lG (bY l)from fun j hj=>i2 j (by omega))]
def qw(p:Pl)(l:List El):List El:=(l.filter fun e=>decide (e.id∉p.jg)).map (Lg p)
theorem awe(p:Pl)(l:List El)(e:El):qw p (l++ [e])=qw p l++(if e.id∈p.jg then []else [Lg p e]):=by
 unfold qw;rw[List.filter_append,gW];by_cases h:e.id∈p.jg<;>simp[h]
theorem ax8(p:Pl)(l:List El)(e:El):cnt p (l++ [e])=cnt p l+DU p e:=by simp[cnt]
theorem aww(p:Pl)(l:List El)(e:El):zM p (l++ [e])↔zM p l/\(e.id∉p.jg->(oL p e.id e.data).length=e.data.length):=by
 unfold zM;simp only[zx,sF];constructor
 .intro h;exact⟨fun x hx=>h x (.inl hx),h e (.inr rfl)⟩
 rintro ⟨h1,h2⟩ x (hx|hx)
 .exact h1 x hx
 subst hx;exact h2
theorem Uo{p:Pl}(hn:(p.jf.map (·.id)).Nodup){x:Int}(d:List UInt8)(hx:x∈bY p.jf):jD (Fy p.jf) x=some (.ls [.int x,B (oL p x d)]):=by
 rw[ahw _ hn];unfold oL;cases hf:p.jf.find? (fun a=>a.id==x)with
 |none=>
  rw[Jf]at hf;obtain⟨e,he,hx⟩:=gP.1 hx;exact absurd (by simpa using hx) (hf e he)
 |some e=>rfl
theorem Uq{p:Pl}(hn:(p.jf.map (·.id)).Nodup){x:Int}(hx:x∉bY p.jf):jD (Fy p.jf) x=none:=by
 rw[ahw _ hn,Option.map_eq_none_iff,Jf];intro e he h;exact hx (gP.2 ⟨e,he,by simpa using h⟩)
theorem Uw{p:Pl}(hn:(p.maps.map (·.fr)).Nodup){x:Int}(hx:x∈p.maps.map (·.fr)):jD (FB p.maps) x=some (.ls [.int x,.int (newId p x)]):=by
 rw[ahD _ hn];unfold newId;cases hf:p.maps.find? (fun a=>a.fr==x)with
 |none=>
  rw[Jf]at hf;obtain⟨e,he,hx⟩:=gP.1 hx;exact absurd (by simpa using hx) (hf e he)
 |some e=>rfl
theorem Ux{p:Pl}(hn:(p.maps.map (·.fr)).Nodup){x:Int}(hx:x∉p.maps.map (·.fr)):jD (FB p.maps) x=none:=by
 rw[ahD _ hn,Option.map_eq_none_iff,Jf];intro e he h;exact hx (gP.2 ⟨e,he,by simpa using h⟩)
theorem azx(l:List Int)(hn:l.Nodup)(x:Int):jD (vK l) x=if x∈l then some (.ls [.int x,.bool true])else none:=by
 have:=Nv id (fun _=>C.bool true) x l (by simpa using hn) [] (fun _ _=>rfl);unfold vK;simp only[id]at this;rw[this];show Option.or _ none=_;rw[Option.or_none];by_cases h:x∈l
 .rw[aC h];have:(l.find? (fun a=>a==x)).isSome:=by rw[List.find?_isSome];exact⟨x,h,by simp⟩
  obtain⟨y,hy⟩:=o9.1 this;rw[hy];rfl
 rw[zq h,Jf.2]
 .rfl
 intro y hy he;exact h (by rw[show x=y by simpa using(by simpa using he:y=x).symm];exact hy)
theorem MS{l:List El}(h:lH l):l.length<=256:=by
 have h1:=(MO h).2;have h2:=J4 h;have:=TI 256 _ h1 (by
  intro x hx;obtain⟨e,he,rfl⟩:=gP.1 hx;have:=h2 e he;omega)
 simpa using this
theorem ajF(p:Pl):∀l:List El,cnt p l<=2*l.length
 | []=>aS _
 |e::l=>by
  have ih:=ajF p l;have e1:cnt p (e::l)=DU p e+cnt p l:=by simp[cnt]
  have e2:DU p e<=2:=by unfold DU;split<;>(try split)<;>(try split)<;>omega
  rw[e1,bR];omega
theorem ahy(p:Pl)(l:List El):(qw p l).length<=l.length:=by unfold qw;rw[bJ];exact List.length_filter_le _ _
theorem R9{p:Pl}{k:Pk}{l:List El}(hw:oh k=some l):mV p k=if ru p l/\(jJ p\/k.aQ≠48862\/∀m∈p.maps,m.to<=14)then some (wJ p l)else none:=by unfold mV;rw[hw]
theorem Eu{p:Pl}{k:Pk}{l:List El}(hw:oh k=some l)(h:¬(ru p l/\(jJ p\/k.aQ≠48862\/∀m∈p.maps,m.to<=14))):mV p k=none:=by rw[R9 hw,zq h]
theorem adD{p:Pl}{k:Pk}{l:List El}(hw:oh k=some l)(h:ru p l/\(jJ p\/k.aQ≠48862\/∀m∈p.maps,m.to<=14)):mV p k=some (wJ p l):=by rw[R9 hw,aC h]
theorem anB(p:Pl)(k:Pk)(hp:fM p)(hf:lJ p)(hr:k.right)(ho:k.ok):PC prog ZB [(ig,iC p),(qA,oJ k)] [(.sl ou,ny ((mV p k).getD [])),(.bool,.bool (mV p k).isSome)]:=by
 have hpr:=hp.2.1;have n1:=((y8 _).1 hp.2.1).2;have n2:=((y8 _).1 hp.2.2.2.1).2;have n3:(p.jf.map (·.id)).Nodup:=((y8 _).1 (Gy hp.2.2.2.2.1)).2;have hel:k.ext.length<=1000000:=by
  obtain⟨⟨⟨_,_,r3⟩,f2,f3,f4,f5⟩,f6⟩:=hr;omega
 obtain⟨w1,w2,w3,w4⟩:=hf;apply amO rfl;simp only[YN,aJ,aG];refine⟨fun hx=>⟨_,_,acr k.aQ ho.2 k.ext hel,fun he=>?_,fun he=>⟨_,Q7 p ⟨w1,w2,w3,w4⟩,_,Ru p ⟨w1,w2,w3,w4⟩,_,Q6 p ⟨w1,w2,w3,w4⟩,?_⟩⟩,fun hx=>⟨_,Q7 p ⟨w1,w2,w3,w4⟩,_,Ru p ⟨w1,w2,w3,w4⟩,_,Q6 p ⟨w1,w2,w3,w4⟩,?_⟩⟩
 .have he:(spots k.aQ k.ext).2≠0:=he;have:mV p k=none:=by unfold mV oh;rw[aC hx,zq he]
  rw[this];rfl
 .have he:(spots k.aQ k.ext).2=0:=he;have hw:oh k=some (uF k.aQ k.ext):=by unfold oh;rw[aC hx,aC he]
  have hcn:=asW k.aQ k.ext;have hgood:=(AX k.aQ k.ext).2.2;generalize uF k.aQ k.ext=l at hw hcn hgood;refine VC.jw (fun i:Nat=> [.ls [],.bool false,ny (qw p (l.take i)),.int (cnt p (l.take i):Nat),.int (i:Int)]) (fun i=>i<=l.length/\zM p (l.take i)) (fun i=>l.length-i) 0 rfl ⟨cu _,fun e he=>absurd he (by simp)⟩ fun i hi=>?_;obtain⟨i1,i2⟩:=hi;simp only[aJ,aG,bJ];refine⟨fun hc=>?_,fun hc=>?_⟩
  .have hk:i<l.length:=by omega
   have ht:=Kz l i hk;have hmem:=H7 hk;rw[Dg l i hk];generalize l.getD i El.zero=e at ht hmem;have hcl:=ajF p (l.take i);have hol:=ahy p (l.take i);rw[jV]at hcl hol;have hs:=awe p (l.take i) e;have hct:=ax8 p (l.take i) e;have hls:=aww p (l.take i) e;have hdr:=azx p.jg n2 e.id;rw[<-ht]at hs hct hls;unfold DU at hct;simp only[iP,jE,dV,gU,eO,bD];by_cases hd:e.id∈p.jg
   .rw[aC hd]at hs hct hdr;simp only[hdr,iP,jE,lI];refine⟨by omega,by omega,fun _=>⟨by omega,by omega,i+1,?_,⟨by omega,hls.2 ⟨i2,fun h=>absurd hd h⟩⟩,by omega⟩,fun h=>absurd h (by decide)⟩;rw[hs,hct];simp
   rw[zq hd]at hs hct hdr;simp only[hdr,lI];refine⟨by omega,by omega,fun h=>absurd h (by decide),fun _=>?_⟩;have hnew:Lg p e=⟨newId p e.id,oL p e.id e.data⟩:=rfl;by_cases ho:e.id∈bY p.jf
   .rw[aC ho]at hct;simp only[Uo n3 e.data ho,iP,jE,gU,bD,Option.isSome_some,Au,reduceCtorEq,Av,lC];refine⟨fun hne=>?_,fun heq=>?_⟩
    .have hno:¬(ru p l/\(jJ p\/k.aQ≠48862\/∀m∈p.maps,m.to<=14)):=fun hh=>by
      have:=hh.1.2.1 e hmem hd;omega
     rw[Eu hw hno];rfl
    .have hl2:zM p (l.take (i+1)):=hls.2 ⟨i2,fun _=>by omega⟩;by_cases hm:e.id∈p.maps.map (·.fr)
     .rw[aC hm]at hct;simp only[Uw n1 hm,iP,jE,Option.isSome_some,Au,eO,bR,eB];refine⟨by omega,by omega,by omega,by omega,i+1,?_,⟨by omega,hl2⟩,by omega⟩;rw[hs,hct,hnew];simp[Int.add_assoc]
     .rw[zq hm]at hct;have hid:=afH hm;simp only[Ux n1 hm,Option.isSome_none,reduceCtorEq,Av,true_and,pY,bR,eB];refine⟨by omega,by omega,by omega,i+1,?_,⟨by omega,hl2⟩,by omega⟩;rw[hs,hct,hnew,hid];simp
   rw[zq ho]at hct;have hdt:=afQ e.data ho;have hl2:zM p (l.take (i+1)):=hls.2 ⟨i2,fun _=>by rw[hdt]⟩;simp only[Uq n3 ho,Option.isSome_none,reduceCtorEq,Av,true_and,Au];by_cases hm:e.id∈p.maps.map (·.fr)
   .rw[aC hm]at hct;simp only[Uw n1 hm,iP,jE,Option.isSome_some,Au,eO,bR,eB];refine⟨by omega,by omega,by omega,i+1,?_,⟨by omega,hl2⟩,by omega⟩;rw[hs,hct,hnew,hdt];simp
   rw[zq hm]at hct;have hid:=afH hm;simp only[Ux n1 hm,Option.isSome_none,reduceCtorEq,Av,true_and,pY,bR,eB];refine⟨by omega,by omega,i+1,?_,⟨by omega,hl2⟩,by omega⟩;rw[hs,hct,hnew,hid,hdt];simp
  .have hi3:i=l.length:=by omega
   subst hi3;rw[jQ]at i2 |-;have htot:=afS hp hgood;have hac:=MS hp.2.2.2.2.2.1;have Wj:bY (wJ p l)=bY (qw p l++p.jh):=rfl;have hlo:=ahy p l;have hmm:(qw p l).map nW++p.jh.map nW=(qw p l++p.jh).map nW:=by rw[gW]
   have hdi:=aal (qw p l++p.jh) (by rw[cO];omega);refine⟨by omega,by omega,fun hne=>?_,fun heq=>⟨by omega,_,(by rw[hmm];exact hdi),fun hb=>?_,fun hb=>?_⟩⟩
   .have hno:¬(ru p l/\(jJ p\/k.aQ≠48862\/∀m∈p.maps,m.to<=14)):=fun hh=>by
     have:=htot.2 hh.1.1;omega
    rw[Eu hw hno];rfl
   .have hb:¬lG (bY (qw p l++p.jh)):=yM hb;have hno:¬(ru p l/\(jJ p\/k.aQ≠48862\/∀m∈p.maps,m.to<=14)):=fun hh=>hb hh.1.2.2;rw[Eu hw hno];rfl
   .have hb:lG (bY (qw p l++p.jh)):=ng hb;have hme:ru p l:=⟨htot.1 (by omega),i2,hb⟩;refine VC.jw (fun j:Nat=> [.ls [],.bool false,.int (j:Int)]) (fun j=>j<=p.maps.length/\(jJ p\/k.aQ≠48862\/∀m∈p.maps.take j,m.to<=14)) (fun j=>p.maps.length-j) 0 rfl ⟨cu _,.inr (.inr (by simp))⟩ fun j hj=>?_;obtain⟨j1,j2⟩:=hj;simp only[aJ,aG,bJ];refine⟨fun hc=>?_,fun hc=>?_⟩
    .have hk:j<p.maps.length:=by omega
     have ht:=nM hk;have hg:(p.maps.map um).getD (j:Int).toNat default=um p.maps[j]:=by simp[List.getD,hk]
     have hm:=Ce hk;rw[hg];generalize p.maps[j]=m at ht hm;refine⟨by omega,by omega,_,JJ p,?_⟩;simp only[kM];have han:(p.jg≠[]\/p.jh≠[])↔jJ p:=Iff.rfl;rw[han];refine⟨fun h=>?_,fun h=>⟨by omega,j+1,rfl,⟨by omega,?_⟩,by omega⟩⟩
     .have hno:¬(ru p l/\(jJ p\/k.aQ≠48862\/∀m∈p.maps,m.to<=14)):=fun hh=>by
       rcases hh.2 with h2|h2|h2
       .exact h.1.1 h2
       .omega
       .have:=h2 m hm;omega
      rw[Eu hw hno];rfl
     by_cases h1:jJ p
     .exact .inl h1
     by_cases h2:k.aQ=48862
     .refine .inr (.inr fun x hx=>?_);rw[ht]at hx;rcases zx.1 hx with hx|hx
      .rcases j2 with j2|j2|j2
       .exact absurd j2 h1
       .exact absurd h2 j2
       exact j2 x hx
      .rw[sF]at hx;subst hx;rcases h with h|h
       .exact absurd ⟨h1,by omega⟩ h
       .exact h
     exact .inr (.inl h2)
    .have hj2:j=p.maps.length:=by omega
     subst hj2;rw[jQ]at j2;rw[adD hw ⟨hme,j2⟩,hmm];rfl
 have hw:oh k=some []:=by unfold oh;rw[zq (by rw[hx];decide)]
 refine VC.jw (fun i:Nat=> [.ls [],.bool false,.ls [],.int 0,.int (i:Int)]) (fun i=>i=0) (fun i=>0) 0 rfl rfl fun i hi=>?_;subst hi;simp only[aJ,aG,bJ];refine⟨fun hc=>by omega,fun _=>?_⟩;have i2:zM p []:=fun e he=>absurd he (by simp);have hgood:lH []:=fun j hj=>absurd hj (by simp);have htot:=afS hp hgood;have hac:=MS hp.2.2.2.2.2.1;have Wj:bY (wJ p [])=bY (qw p []++p.jh):=rfl;have c0:cnt p []=0:=rfl;have l0:(qw p []).length=0:=rfl;have n0:([]:List C).length=0:=rfl;have hmm:(qw p []).map nW++p.jh.map nW=(qw p []++p.jh).map nW:=by rw[gW]
 have hdi:=aal (qw p []++p.jh) (by rw[cO];omega);refine⟨by omega,by omega,fun hne=>?_,fun heq=>⟨by omega,_,(by exact hdi),fun hb=>?_,fun hb=>?_⟩⟩
 .have hno:¬(ru p []/\(jJ p\/k.aQ≠48862\/∀m∈p.maps,m.to<=14)):=fun hh=>by
   have:=htot.2 hh.1.1;omega
  rw[Eu hw hno];rfl
 .have hb:¬lG (bY (qw p []++p.jh)):=yM hb;have hno:¬(ru p []/\(jJ p\/k.aQ≠48862\/∀m∈p.maps,m.to<=14)):=fun hh=>hb hh.1.2.2;rw[Eu hw hno];rfl
 have hb:lG (bY (qw p []++p.jh)):=ng hb;have hme:ru p []:=⟨htot.1 (by omega),i2,hb⟩;refine VC.jw (fun j:Nat=> [.ls [],.bool false,.int (j:Int)]) (fun j=>j<=p.maps.length/\(jJ p\/k.aQ≠48862\/∀m∈p.maps.take j,m.to<=14)) (fun j=>p.maps.length-j) 0 rfl ⟨cu _,.inr (.inr (by simp))⟩ fun j hj=>?_;obtain⟨j1,j2⟩:=hj;simp only[aJ,aG,bJ];refine⟨fun hc=>?_,fun hc=>?_⟩
 .have hk:j<p.maps.length:=by omega
  have ht:=nM hk;have hg:(p.maps.map um).getD (j:Int).toNat default=um p.maps[j]:=by simp[List.getD,hk]
  have hm:=Ce hk;rw[hg];generalize p.maps[j]=m at ht hm;refine⟨by omega,by omega,_,JJ p,?_⟩;simp only[kM];have han:(p.jg≠[]\/p.jh≠[])↔jJ p:=Iff.rfl;rw[han];refine⟨fun h=>?_,fun h=>⟨by omega,j+1,rfl,⟨by omega,?_⟩,by omega⟩⟩
  .have hno:¬(ru p []/\(jJ p\/k.aQ≠48862\/∀m∈p.maps,m.to<=14)):=fun hh=>by
    rcases hh.2 with h2|h2|h2
    .exact h.1.1 h2
    .omega
    .have:=h2 m hm;omega
   rw[Eu hw hno];rfl
  .by_cases h1:jJ p
   .exact .inl h1
   .by_cases h2:k.aQ=48862
    .refine .inr (.inr fun x hx=>?_);rw[ht]at hx;rcases zx.1 hx with hx|hx
     .rcases j2 with j2|j2|j2
      .exact absurd j2 h1
      .exact absurd h2 j2
      .exact j2 x hx
     rw[sF]at hx;subst hx;rcases h with h|h
     .exact absurd ⟨h1,by omega⟩ h
     exact h
    .exact .inr (.inl h2)
 have hj2:j=p.maps.length:=by omega
 subst hj2;rw[jQ]at j2;rw[adD hw ⟨hme,j2⟩];rfl
theorem agH(aD:Bool):∀(l:List (Nat×El)) (p:Nat),∀s∈rC aD p l,p+Plain.ahead aD<=s.pos
 | [],_,s,h=>absurd h (by simp[rC])
 |(n,e)::l,p,s,h=>by
  rw[rC]at h;rcases iR.1 h with rfl|h
  .simp only;omega
  have:=agH aD l _ s h;omega
theorem TA{q:Nat}{b:List UInt8}(h:(spots q b).2=0):∀s∈(spots q b).1,Plain.ahead (decide (q=48862))<=s.pos:=by
 obtain⟨aD,l,r,h1,_,h3,_⟩:=ach h;rw[h3];have e:decide (q=48862)=aD:=by
  unfold Fb at h1;cases aD with
  |true=>simpa using h1
  |false=>simp at h1;simp;omega
 rw[e];intro s hs;have:=agH aD l 0 s hs;omega
theorem aeF{p:Pl}{aD:Bool}{x:List UInt8}{s:Sp}(h1:Plain.ahead aD<=s.pos)(h2:s.pos+s.size<=x.length)(hl:(s.id:Int)∈bY p.jf->(oL p s.id []).length=s.size):(zN p aD x s).length=x.length:=by
 have ha:1<=Plain.ahead aD:=by unfold Plain.ahead;split<;>omega
 show(if(s.id:Int)∈bY p.jf then putAt (if(s.id:Int)∈p.maps.map (·.fr)then putAt x (s.pos-Plain.ahead aD) [tF aD (newId p s.id) (at_ x (s.pos-Plain.ahead aD))]else x) s.pos (oL p s.id [])else(if(s.id:Int)∈p.maps.map (·.fr)then putAt x (s.pos-Plain.ahead aD) [tF aD (newId p s.id) (at_ x (s.pos-Plain.ahead aD))]else x)).length=_;have hy:(if(s.id:Int)∈p.maps.map (·.fr)then putAt x (s.pos-Plain.ahead aD) [tF aD (newId p s.id) (at_ x (s.pos-Plain.ahead aD))]else x).length=x.length:=by
  split
  .exact JI _ _ _ (by simp;omega)
  .rfl
 split
 next ho=>rw[JI _ _ _ (by rw[hy,hl ho];exact h2),hy]
 exact hy
theorem Uz(id:Int)(h:1<=id/\id<=255)(o:Nat)(ho:o<256):arith .or .u8 (arith .shl .u8 (IntKind.u8.wrap id) 4) (arith .and .u8 (o:Int) 15)=((tF true id o).toNat:Int):=by
 obtain⟨n,rfl⟩:∃n:Nat,id=n:=⟨id.toNat,by omega⟩;have e1:IntKind.u8.wrap (n:Int)=(n:Int):=by rw[qK];omega
 have e2:arith .shl .u8 (n:Int) 4=((n%16*2^4:Nat):Int):=by
  rw[wG,qK];simp[IntKind.bits];omega
 rw[e1,e2,U5 o ho,CS rfl (by show _<2^8;omega) (by show _<2^8;omega),Bv _ _ _ (by omega)];unfold tF;rw[aC rfl,dF,zu];congr 1
 omega
theorem TQ(id:Int)(h:1<=id/\id<=255)(o:Nat):IntKind.u8.wrap id=((tF false id o).toNat:Int):=by
 obtain⟨n,rfl⟩:∃n:Nat,id=n:=⟨id.toNat,by omega⟩;rw[wH];unfold tF;rw[zq (by decide),dF]
theorem Uj(y d:List UInt8)(k n m:Nat)(h:k+d.length<=y.length)(hn:d.length<=n)(hm:m=0):jr (ofBytes y) k (List.drop m (List.take n (ofBytes d)))=ofBytes (putAt y k d):=by
 subst hm;rw[xu,mO (by simpa using hn),QU];unfold jr putAt;rw[mO (l:=d) (by omega)]
theorem aon(p:Pl)(k:Pk)(hp:fM p)(hf:lJ p)(ho:k.ok)(hel:k.ext.length<=1000000)(he:(spots k.aQ k.ext).2=0)(hl:∀s∈(spots k.aQ k.ext).1,(s.id:Int)∈bY p.jf->(oL p s.id []).length=s.size):PC prog aau [(ig,iC p),(qA,oJ k)] [(aV,B (x9 p k))]:=by
 have n1:=((y8 _).1 hp.2.1).2;have n3:(p.jf.map (·.id)).Nodup:=((y8 _).1 (Gy hp.2.2.2.2.1)).2;have hge:=TA he;obtain⟨hsz,_,_⟩:=AX k.aQ k.ext;have hct:=Gv k.aQ k.ext;apply ani rfl;simp only[Zg,aJ,aG];refine⟨_,aah k.ext hel,_,_,Ra k.aQ ho.2 k.ext hel,_,Ru p hf,_,Q6 p hf,?_⟩;unfold x9 kQ;generalize (spots k.aQ k.ext).1=l at hge hsz hct hl;have hmono:∀i,i<=l.length->((l.take i).foldl (zN p (decide (k.aQ=48862))) k.ext).length=k.ext.length:=by
  intro i;induction i with
  |zero=>intro _;rfl
  |succ i ih=>
   intro hi;have hk:i<l.length:=by omega
   have hm:=Ce hk;rw[nM hk,Ga,Ak,List.foldl_nil,aeF (hge _ hm) (by rw[ih (by omega)];exact hsz _ hm) (hl _ hm),ih (by omega)]
 refine VC.jw (fun i:Nat=> [.int (i:Int),B ((l.take i).foldl (zN p (decide (k.aQ=48862))) k.ext)]) (fun i=>i<=l.length) (fun i=>l.length-i) 0 rfl (cu _) fun i hi=>?_;have hlen:=hmono i hi;simp only[aJ,aG,bJ,bD];refine⟨fun hc=>?_,fun hc=>?_⟩
 .have hk:i<l.length:=by omega
  have hm:=Ce hk;have ht:=nM hk;have hg:(l.map CF).getD (i:Int).toNat default=CF l[i]:=by simp[List.getD,hk]
  rw[hg];generalize l[i]=s at ht hm;have hge:=hge s hm;have hsz:=hsz s hm;have hl:=hl s hm;have hnext:(l.take (i+1)).foldl (zN p (decide (k.aQ=48862))) k.ext=zN p (decide (k.aQ=48862)) ((l.take i).foldl (zN p (decide (k.aQ=48862))) k.ext) s:=by rw[ht,Ga];rfl
  generalize (l.take i).foldl (zN p (decide (k.aQ=48862))) k.ext=x at hlen hnext;have hst:zN p (decide (k.aQ=48862)) x s=(if(s.id:Int)∈bY p.jf then putAt (if(s.id:Int)∈p.maps.map (·.fr)then putAt x (s.pos-Plain.ahead (decide (k.aQ=48862))) [tF (decide (k.aQ=48862)) (newId p s.id) (at_ x (s.pos-Plain.ahead (decide (k.aQ=48862))))]else x) s.pos (oL p s.id [])else(if(s.id:Int)∈p.maps.map (·.fr)then putAt x (s.pos-Plain.ahead (decide (k.aQ=48862))) [tF (decide (k.aQ=48862)) (newId p s.id) (at_ x (s.pos-Plain.ahead (decide (k.aQ=48862))))]else x)):=rfl;rw[hst]at hnext;simp only[iP,jE,dV,eO];have IQ:(s.id:Int)∈p.maps.map (·.fr)->1<=newId p s.id/\newId p s.id<=255:=fun h=>by
   obtain⟨m,hm,_,e⟩:=aAx h;have:=tC hp.2.2.1 m.to (gP.2 ⟨m,hm,rfl⟩);rw[e];exact this
  by_cases hmp:(s.id:Int)∈p.maps.map (·.fr)
  .rw[aC hmp]at hnext;have IQ:=IQ hmp;simp only[Uw n1 hmp,iP,jE,Option.isSome_some,Au,dV,reduceCtorEq,Av,lC];by_cases hov:(s.id:Int)∈bY p.jf
   .rw[aC hov]at hnext;have hl:=hl hov;simp only[Uo n3 [] hov,iP,jE,gU,Option.isSome_some,Au,reduceCtorEq,Av,lC];refine⟨by omega,by omega,fun hq=>?_,fun hq=>?_⟩
    .have hq2:decide (k.aQ=48862)=true:=iH (by omega);rw[hq2]at hnext hge;have ha:Plain.ahead true=1:=rfl;rw[ha]at hnext hge;refine⟨by omega,by omega,by omega,by omega,by omega,by omega,by omega,by omega,by omega,by omega,i+1,?_,by omega,by omega⟩;have e1:((s.pos:Int)-1).toNat=s.pos-1:=by omega
     have e2:((k.ext.length:Int)-(s.pos:Int)).toNat=k.ext.length-s.pos:=by omega
     rw[hq2,hnext,e1,e2,mR,dV,uj,Uz _ IQ _ (gN x (s.pos-1)),JK,Nr _ _ _ (by omega),dF,Uj _ _ _ _ (Int.toNat 0) (by rw[JI _ _ _ (by simp;omega)];omega) (by omega) rfl];rfl
    .have hq2:decide (k.aQ=48862)=false:=gQ (by omega);rw[hq2]at hnext hge;have ha:Plain.ahead false=2:=rfl;rw[ha]at hnext hge;refine⟨by omega,by omega,by omega,by omega,by omega,by omega,by omega,i+1,?_,by omega,by omega⟩;have e1:((s.pos:Int)-2).toNat=s.pos-2:=by omega
     have e2:((k.ext.length:Int)-(s.pos:Int)).toNat=k.ext.length-s.pos:=by omega
     rw[hq2,hnext,e1,e2,TQ _ IQ (at_ x (s.pos-2)),JK,Nr _ _ _ (by omega),dF,Uj _ _ _ _ (Int.toNat 0) (by rw[JI _ _ _ (by simp;omega)];omega) (by omega) rfl];rfl
   rw[zq hov]at hnext;simp only[Uq n3 hov,Option.isSome_none,Au,reduceCtorEq,Av,true_and];refine⟨by omega,by omega,fun hq=>?_,fun hq=>?_⟩
   .have hq2:decide (k.aQ=48862)=true:=iH (by omega);rw[hq2]at hnext hge;have ha:Plain.ahead true=1:=rfl;rw[ha]at hnext hge;refine⟨by omega,by omega,by omega,by omega,by omega,by omega,by omega,i+1,?_,by omega,by omega⟩;have e1:((s.pos:Int)-1).toNat=s.pos-1:=by omega
    rw[hq2,hnext,e1,mR,dV,uj,Uz _ IQ _ (gN x (s.pos-1)),JK,Nr _ _ _ (by omega)];rfl
   have hq2:decide (k.aQ=48862)=false:=gQ (by omega);rw[hq2]at hnext hge;have ha:Plain.ahead false=2:=rfl;rw[ha]at hnext hge;refine⟨by omega,by omega,by omega,by omega,i+1,?_,by omega,by omega⟩;have e1:((s.pos:Int)-2).toNat=s.pos-2:=by omega
   rw[hq2,hnext,e1,TQ _ IQ (at_ x (s.pos-2)),JK,Nr _ _ _ (by omega)];rfl
  .rw[zq hmp]at hnext;simp only[Ux n1 hmp,Option.isSome_none,Au,reduceCtorEq,Av,true_and];by_cases hov:(s.id:Int)∈bY p.jf
   .rw[aC hov]at hnext;have hl:=hl hov;simp only[Uo n3 [] hov,iP,jE,gU,Option.isSome_some,Au,reduceCtorEq,Av,lC];refine⟨by omega,by omega,by omega,by omega,by omega,by omega,i+1,?_,by omega,by omega⟩;have e2:((k.ext.length:Int)-(s.pos:Int)).toNat=k.ext.length-s.pos:=by omega
    rw[hnext,e2,dF,Uj _ _ _ _ (Int.toNat 0) (by omega) (by omega) rfl];rfl
   .rw[zq hov]at hnext;simp only[Uq n3 hov,Option.isSome_none,Au,reduceCtorEq,Av,true_and];refine⟨by omega,by omega,by omega,i+1,?_,by omega,by omega⟩;rw[hnext];rfl
 have:i=l.length:=by omega
 subst this;rw[jQ]
end Go.Vc
