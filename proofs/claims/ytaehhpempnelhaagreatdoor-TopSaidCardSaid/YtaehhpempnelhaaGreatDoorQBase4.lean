/-
  My own general texts, one behind the other: a generator of conditions over the model, with its proof, and plain lemmas. No condition on the program.
-/
import Derived.Test.YtaehhpempnelhaaGreatDoorQBase3
import Derived.LaidLaws
import Derived.Lay
import Derived.Lib.LaidU8
import Derived.Stop.Joined
import Derived.JoinedOf
namespace Go.Plain
def putAt(b:List UInt8)(k:Nat)(x:List UInt8):List UInt8:=b.take k++(x++b.drop (k+x.length))
theorem JI(b:List UInt8)(k:Nat)(x:List UInt8)(h:k+x.length<=b.length):(putAt b k x).length=b.length:=by
 unfold putAt;simp;omega
theorem Nr(b:List UInt8)(k:Nat)(y:UInt8)(h:k<b.length):b.set k y=putAt b k [y]:=by
 unfold putAt;rw[List.set_eq_take_append_cons_drop,if_pos h];rfl
def tF(aD:Bool)(id:Int)(old:Nat):UInt8:=if aD then UInt8.ofNat (id.toNat%16*16+old%16)else UInt8.ofNat id.toNat
def jJ(p:Pl):Prop:=p.jg≠[]\/p.jh≠[]
instance(p:Pl):Decidable (jJ p):=by unfold jJ;infer_instance
def jS(p:Pl):Prop:=p.maps≠[]\/p.jf≠[]\/jJ p
instance(p:Pl):Decidable (jS p):=by unfold jS;infer_instance
def nY(p:Pl):Prop:=¬jJ p/\p.np=false
instance(p:Pl):Decidable (nY p):=by unfold nY;infer_instance
def PG(p:Pl)(h:Hd):Hd:=
 {h with
  mark:=if p.sm then p.m else h.mark
  typ:=if p.st then p.ty else h.typ
  seq:=if p.sq then p.seq.toNat else h.seq
  time:=if p.dY then p.time.toNat else h.time
  bZ:=if p.ss then p.bZ.toNat else h.bZ
  pad:=if p.np then false else h.pad}
def pE(p:Pl)(k:Pk):Pk:= {k with hd:=PG p k.hd,pad:=if p.np then 0 else k.pad}
def oh(k:Pk):Option (List El):=if k.hd.ext then(if(spots k.aQ k.ext).2=0 then some (uF k.aQ k.ext)else none)else some []
def mV(p:Pl)(k:Pk):Option (List El):=match oh k with
 |none=>none
 |some l=>if ru p l/\(jJ p\/k.aQ≠48862\/∀m∈p.maps,m.to<=14)then some (wJ p l)else none
def kQ(k:Pk):Bool:=decide (k.aQ=48862)
def zN(p:Pl)(aD:Bool)(x:List UInt8)(s:Sp):List UInt8:=
 let y:=if(s.id:Int)∈p.maps.map (·.fr)then putAt x (s.pos-ahead aD) [tF aD (newId p s.id) (at_ x (s.pos-ahead aD))]else x
 if(s.id:Int)∈bY p.jf then putAt y s.pos (oL p s.id [])else y
def x9(p:Pl)(k:Pk):List UInt8:=(spots k.aQ k.ext).1.foldl (zN p (kQ k)) k.ext
def fU(p:Pl)(k:Pk)(l:List El):Pk:=
 if jS p then
  if jJ p then {pE p k with hd:= {PG p k.hd with ext:=decide (l≠[])},aQ:=if l=[]then 0 else xQ l,ext:=if l=[]then []else Bp l}
  else {pE p k with ext:=x9 p k}
 else pE p k
def behind(p:Pl)(k:Pk):Option Pk:=
 if fM p then
  match(if jS p then mV p k else some [])with
  |none=>none
  |some l=>if(fU p k l).right then some (fU p k l)else none
 else none
theorem afH{p:Pl}{x:Int}(h:x∉p.maps.map (·.fr)):newId p x=x:=by
 unfold newId;rw[List.find?_eq_none.2];intro m hm he;exact h (List.mem_map.2 ⟨m,hm,by simpa using he⟩)
theorem afQ{p:Pl}{x:Int}(d:List UInt8)(h:x∉bY p.jf):oL p x d=d:=by
 unfold oL;rw[List.find?_eq_none.2];intro m hm he;exact h (List.mem_map.2 ⟨m,hm,by simpa using he⟩)
theorem awJ{p:Pl}{x:Int}(d d':List UInt8)(h:x∈bY p.jf):oL p x d=oL p x d':=by
 unfold oL;cases hf:p.jf.find? (·.id==x)with
 |some e=>rfl
 |none=>
  rw[List.find?_eq_none]at hf;obtain⟨e,he,hx⟩:=List.mem_map.1 h;exact absurd (by simpa using hx) (hf e he)
theorem aAx{p:Pl}{x:Int}(h:x∈p.maps.map (·.fr)):∃m∈p.maps,m.fr=x/\newId p x=m.to:=by
 unfold newId;cases hf:p.maps.find? (·.fr==x)with
 |some m=>exact⟨m,List.mem_of_find?_eq_some hf,by simpa using List.find?_some hf,rfl⟩
 |none=>
  rw[List.find?_eq_none]at hf;obtain⟨e,he,hx⟩:=List.mem_map.1 h;exact absurd (by simpa using hx) (hf e he)
theorem agY{p:Pl}{x:Int}(d:List UInt8)(h:x∈bY p.jf):∃e∈p.jf,e.id=x/\oL p x d=e.data:=by
 unfold oL;cases hf:p.jf.find? (·.id==x)with
 |some m=>exact⟨m,List.mem_of_find?_eq_some hf,by simpa using List.find?_some hf,rfl⟩
 |none=>
  rw[List.find?_eq_none]at hf;obtain⟨e,he,hx⟩:=List.mem_map.1 h;exact absurd (by simpa using hx) (hf e he)
end Go.Plain
namespace Go.Plain
structure fK where
 f:Int
 p:Nat
 s:Nat
def fK.zero:fK:=⟨0,0,0⟩
def pJ(l:List fK):Nat:=match l.getLast? with|some x=>x.p+x.s|none=>0
def iJ(l:List fK)(f:Int)(n:Nat):List fK:=if n=0 then l else l++ [⟨f,pJ l,n⟩]
def lq:Nat->List fK->List fK
 |0,l=>l
 |n+1,l=>iJ (lq n l) 6 4
def kR:List fK:=iJ (iJ (iJ (iJ (iJ [] 1 1) 2 1) 3 2) 4 4) 5 4
def uT(k:Pk)(l:List fK):List fK:=if k.hd.ext then iJ (iJ (iJ l 7 2) 8 2) 9 k.ext.length else l
def Ae(k:Pk)(l:List fK):List fK:=if k.hd.pad then iJ (iJ l 11 (k.pad-1)) 12 1 else l
def placesOf(k:Pk):List fK:=Ae k (iJ (uT k (lq k.hd.eU.length kR)) 10 k.pay.length)
def iO(l:List fK)(f:Int):Option fK:=l.find? (fun x=>decide (x.f=f))
theorem SN(l:List fK)(f:Int)(n:Nat):pJ (iJ l f n)=pJ l+n:=by
 unfold iJ;split
 next h=>rw[h];rfl
 unfold pJ;simp
theorem sV(l:List fK)(f g:Int)(n:Nat):iO (iJ l f n) g=(iO l g).or (if f=g/\n≠0 then some ⟨f,pJ l,n⟩else none):=by
 unfold iJ iO;by_cases h:n=0
 .simp[h]
 rw[if_neg h,List.find?_append];congr 1
 by_cases hf:f=g<;>simp[hf,h]
theorem C8(l:List fK)(f:Int)(n:Nat):l.length<=(iJ l f n).length/\(iJ l f n).length<=l.length+1:=by
 unfold iJ;split<;>simp
theorem Nf(n:Nat)(l:List fK):pJ (lq n l)=pJ l+4*n/\(lq n l).length<=l.length+n/\∀g:Int,g≠6->iO (lq n l) g=iO l g:=by
 induction n with
 |zero=>exact⟨rfl,Nat.le_refl _,fun _ _=>rfl⟩
 |succ n ih=>
  obtain⟨h1,h2,h3⟩:=ih;have:=C8 (lq n l) 6 4;refine⟨?_,?_,fun g hg=>?_⟩
  .rw[lq,SN,h1];omega
  .rw[lq];omega
  rw[lq,sV,h3 g hg,if_neg (fun h=>hg h.1.symm),Option.or_none]
theorem atY(k:Pk):iO (placesOf k) 2=some ⟨2,1,1⟩/\iO (placesOf k) 3=some ⟨3,2,2⟩/\iO (placesOf k) 4=some ⟨4,4,4⟩/\iO (placesOf k) 5=some ⟨5,8,4⟩:=by
 have key:∀g:Int,∀x,iO kR g=some x->g≠6->iO (placesOf k) g=some x:=by
  intro g x hx hg;have h1:iO (lq k.hd.eU.length kR) g=some x:=by rw[(Nf _ _).2.2 g hg,hx]
  have h2:iO (uT k (lq k.hd.eU.length kR)) g=some x:=by
   unfold uT;split
   .rw[sV,sV,sV,h1];rfl
   .exact h1
  unfold placesOf Ae;split
  .rw[sV,sV,sV,h2];rfl
  .rw[sV,h2];rfl
 exact⟨key 2 _ rfl (by decide),key 3 _ rfl (by decide),key 4 _ rfl (by decide),key 5 _ rfl (by decide)⟩
theorem agP(k:Pk):iO (placesOf k) 9=if k.hd.ext=true/\k.ext.length≠0 then some ⟨9,12+4*k.hd.eU.length+4,k.ext.length⟩else none:=by
 obtain⟨h1,_,h3⟩:=Nf k.hd.eU.length kR;have h3:=h3 9 (by decide);have e5:pJ kR=12:=rfl;have n5:iO kR 9=none:=rfl;have hx:iO (uT k (lq k.hd.eU.length kR)) 9=if k.hd.ext=true/\k.ext.length≠0 then some ⟨9,12+4*k.hd.eU.length+4,k.ext.length⟩else none:=by
  unfold uT;by_cases he:k.hd.ext=true
  .rw[if_pos he,sV,sV,sV,h3,n5];simp[he,SN,h1,e5]
  .rw[if_neg he,h3,n5,if_neg (fun h=>he h.1)]
 unfold placesOf Ae;split
 .rw[sV,sV,sV,hx];simp
 rw[sV,hx];simp
theorem Rp(k:Pk):(placesOf k).length<=20+k.hd.eU.length:=by
 obtain⟨_,h2,_⟩:=Nf k.hd.eU.length kR;have e5:kR.length=5:=rfl;rw[e5]at h2;have hx:(uT k (lq k.hd.eU.length kR)).length<=8+k.hd.eU.length:=by
  unfold uT;split
  .have a:=C8 (lq k.hd.eU.length kR) 7 2;have b:=C8 (iJ (lq k.hd.eU.length kR) 7 2) 8 2;have c:=C8 (iJ (iJ (lq k.hd.eU.length kR) 7 2) 8 2) 9 k.ext.length;omega
  .omega
 unfold placesOf Ae;have d:=C8 (uT k (lq k.hd.eU.length kR)) 10 k.pay.length;split
 .have a:=C8 (iJ (uT k (lq k.hd.eU.length kR)) 10 k.pay.length) 11 (k.pad-1);have b:=C8 (iJ (iJ (uT k (lq k.hd.eU.length kR)) 10 k.pay.length) 11 (k.pad-1)) 12 1;omega
 omega
end Go.Plain
namespace Go.Plain
inductive Dr where
 |num (v n:Nat)
 |sec
 |ug (to:Int)
 |data (d:List UInt8)
structure jA where
 field:Int
 pos:Nat
 size:Nat
 dr:Dr
def PX(p:Pl)(b:Nat):Nat:=
 let x:=if p.st then b/128*128+p.ty.toNat else b
 let y:=if p.sm then x%128 else x
 if p.m then 128+y%128 else y
def Dr.draw(p:Pl)(aD:Bool)(was:List UInt8):Dr->List UInt8
 | .num v n=>fq n v
 | .sec=> [UInt8.ofNat (PX p (at_ was 0))]
 | .ug to=> [tF aD to (at_ was 0)]
 | .data d=>d
def tV(p:Pl):List jA:=
 (if p.sm=true\/p.st=true then [⟨2,1,1,.sec⟩]else [])++((if p.sq then [⟨3,2,2,.num p.seq.toNat 2⟩]else [])++((if p.dY then [⟨4,4,4,.num p.time.toNat 4⟩]else [])++(if p.ss then [⟨5,8,4,.num p.bZ.toNat 4⟩]else [])))
def pO(p:Pl)(aD:Bool)(fr:Nat)(s:Sp):List jA:=
 (p.maps.filter fun m=>decide (m.fr=(s.id:Int))).map (fun m=>⟨9,fr+s.pos-ahead aD,1,.ug m.to⟩)++(p.jf.filter fun e=>decide (e.id=(s.id:Int)/\e.data≠[])).map (fun e=>⟨9,fr+s.pos,s.size,.data e.data⟩)
def wR(k:Pk):Nat:=12+4*k.hd.eU.length+4
def DI(p:Pl)(k:Pk):List jA:=if k.hd.ext=true then(spots k.aQ k.ext).1.flatMap (pO p (kQ k) (wR k))else []
def strokes(p:Pl)(k:Pk):List jA:=tV p++DI p k
def yj(p:Pl)(aD:Bool)(b:List UInt8)(s:jA):List UInt8:=putAt b s.pos (s.dr.draw p aD ((b.drop s.pos).take s.size))
def aj1(p:Pl)(k:Pk)(b:List UInt8):List UInt8:=(strokes p k).foldl (yj p (kQ k)) b
theorem filter_map_one{α:Type}{l:List α}{f:α->Int}(hn:(l.map f).Nodup){x:α}(hx:x∈l):l.filter (fun y=>decide (f y=f x))=[x]:=by
 induction l with
 |nil=>cases hx
 |cons a l ih=>
  simp only[List.map_cons,List.nodup_cons]at hn;rcases List.mem_cons.1 hx with rfl|h
  .rw[List.filter_cons_of_pos (by simp),List.filter_eq_nil_iff.2];intro y hy he;exact hn.1 (List.mem_map.2 ⟨y,hy,by simpa using he⟩)
  rw[List.filter_cons_of_neg,ih hn.2 h];intro he;exact hn.1 (by rw[show f a=f x by simpa using he];exact List.mem_map.2 ⟨x,h,rfl⟩)
end Go.Plain
namespace Go.Plain
theorem avj{aD:Bool}{q:Nat}(h:Fb aD q):decide (q=48862)=aD:=by
 unfold Fb at h;cases aD with
 |true=>simpa using h
 |false=>simp only[Bool.false_eq_true,if_false]at h;simp;omega
end Go.Plain
namespace Go.Plain
theorem aAO{b x:List UInt8}{k i:Nat}(h:k+x.length<=b.length)(hi:i<k\/k+x.length<=i):at_ (putAt b k x) i=at_ b i:=by
 unfold putAt;simp only[at_,List.getD_eq_getElem?_getD];rcases hi with hi|hi
 .rw[List.getElem?_append_left (by simp;omega),List.getElem?_take,if_pos hi]
 have ht:(b.take k).length=k:=by simp;omega
 rw[List.getElem?_append_right (by omega),ht,List.getElem?_append_right (by omega),List.getElem?_drop];congr 4
 omega
def KZ(p:Pl)(aD:Bool)(n:Nat)(s:jA):Prop:=(∀was,(s.dr.draw p aD was).length=s.size)/\s.pos+s.size<=n
theorem SY{p:Pl}{aD:Bool}:∀(l:List jA) (b:List UInt8),(∀s∈l,KZ p aD b.length s)->(l.foldl (yj p aD) b).length=b.length/\
  ∀i,(∀s∈l,i<s.pos\/s.pos+s.size<=i)->at_ (l.foldl (yj p aD) b) i=at_ b i
 | [],b,_=>⟨rfl,fun _ _=>rfl⟩
 |s::l,b,h=>by
  obtain⟨h1,h2⟩:=h s (by simp);have hl:(yj p aD b s).length=b.length:=JI _ _ _ (by rw[h1];exact h2);obtain⟨i1,i2⟩:=SY l (yj p aD b s) (fun x hx=>by rw[hl];exact h x (by simp[hx]));refine⟨by rw[List.foldl_cons,i1,hl],fun i hi=>?_⟩;rw[List.foldl_cons,i2 i (fun x hx=>hi x (by simp[hx]))];have:=hi s (by simp);exact aAO (by rw[h1];exact h2) (by rw[h1];exact this)
theorem afw(aD:Bool):∀(l:List (Nat×El)) (p:Nat),∀s∈rC aD p l,∃x∈l,s.id=x.2.id.toNat/\s.size=x.2.data.length/\p+ahead aD<=s.pos/\s.pos+s.size<=p+(lay aD l).length
 | [],_,s,h=>by cases h
 |(n,e)::l,p,s,h=>by
  have e1:(lay aD ((n,e)::l)).length=n+((enc aD e).length+(lay aD l).length):=by simp[lay]
  have e2:=Ni aD e;rw[rC]at h;rcases List.mem_cons.1 h with rfl|h
  .exact ⟨(n,e),by simp,rfl,rfl,by simp only;omega,by simp only;omega⟩
  obtain ⟨x,h1,h2,h3,h4,h5⟩:=afw aD l _ s h;exact⟨x,by simp[h1],h2,h3,by omega,by omega⟩
theorem awd{p:Pl}(hp:fM p){e:El}(he:e∈p.jf)(d:List UInt8):oL p e.id d=e.data:=by
 have nd2:(p.jf.map (·.id)).Nodup:=((y8 _).1 (Gy hp.2.2.2.2.1)).2;obtain⟨o,ho,h1,h2⟩:=agY (p:=p) (x:=e.id) d (List.mem_map.2 ⟨e,he,rfl⟩);have f1:=filter_map_one nd2 he;have f2:=filter_map_one nd2 ho;rw[h1]at f2;rw[f1]at f2;have:e=o:=by simpa using f2
 rw[h2,this]
theorem Gz{p:Pl}{k x:Pk}(hx:behind p k=some x):fM p/\∃l,(if jS p then mV p k=some l else l=[])/\x=fU p k l/\x.right:=by
 unfold behind at hx;split at hx
 .rename_i hp;refine⟨hp,?_⟩;by_cases ha:jS p
  .simp only[if_pos ha]at hx |-;cases hl:mV p k with
   |none=>rw[hl]at hx;cases hx
   |some l=>
    rw[hl]at hx;simp only at hx;split at hx
    next hr=>obtain rfl:=Option.some.inj hx;exact⟨l,rfl,rfl,hr⟩
    cases hx
  .simp only[if_neg ha]at hx |-;split at hx
   next hr=>obtain rfl:=Option.some.inj hx;exact⟨[],rfl,rfl,hr⟩
   .cases hx
 cases hx
theorem afq{p:Pl}(h:¬jS p):p.maps=[]/\p.jf=[]/\p.jg=[]/\p.jh=[]:=by
 unfold jS jJ at h;simp only[not_or,Decidable.not_not]at h;exact⟨h.1,h.2.1,h.2.2⟩
theorem aeN{p:Pl}{k:Pk}{l:List El}(h:mV p k=some l):∃w,oh k=some w/\ru p w/\(jJ p\/k.aQ≠48862\/∀m∈p.maps,m.to<=14)/\l=wJ p w:=by
 unfold mV at h;cases hw:oh k with
 |none=>rw[hw]at h;cases h
 |some w=>
  rw[hw]at h;simp only at h;split at h
  next hm=>exact⟨w,rfl,hm.1,hm.2,(Option.some.inj h).symm⟩
  cases h
theorem auN{p:Pl}{k x:Pk}(hk:nY p)(hx:behind p k=some x)(n:Nat)(hn:12+4*k.hd.eU.length+(if k.hd.ext then 4+k.ext.length else 0)<=n):∀s∈strokes p k,KZ p (kQ k) n s:=by
 obtain⟨hp,l,hl,_,_⟩:=Gz hx;intro s hs;unfold strokes at hs;rcases List.mem_append.1 hs with hs|hs
 .unfold tV at hs;simp only[List.mem_append]at hs;rcases hs with hs|hs|hs|hs;all_goals
   split at hs
   .obtain rfl:=List.mem_singleton.1 hs;refine⟨fun was=>by simp[Dr.draw],by simp only;omega⟩
   .cases hs
 unfold DI at hs;split at hs
 .rename_i he;rw[if_pos he]at hn;obtain⟨sp,hsp,hs⟩:=List.mem_flatMap.1 hs;by_cases hany:jS p
  .rw[if_pos hany]at hl;obtain⟨w,hw,⟨m1,m2,m3⟩,h14,_⟩:=aeN hl;unfold oh at hw;rw[if_pos he]at hw;split at hw
   .rename_i hz;obtain rfl:=Option.some.inj hw;obtain⟨aD,el,r,hq,hb,hsl,hf,hst⟩:=ach hz;obtain⟨d1,d2⟩:=avt (q:=k.aQ) hb hsl hf;have hnar:kQ k=aD:=avj hq;have hdr:p.jg=[]:=by
     cases hd:p.jg with
     |nil=>rfl
     |cons a b=>exact absurd (Or.inl (by rw[hd];simp)) hk.1
    rw[hsl]at hsp;obtain⟨y,hy,s1,s2,s3,s4⟩:=afw aD el 0 sp hsp;have hlen:(lay aD el).length<=k.ext.length:=by rw[hb];simp
    have hid:1<=y.2.id:=by
     have:=hf y hy;cases aD with
     |true=>have:=Sj this;omega
     |false=>have:=auf this;omega
    unfold pO at hs;rw[hnar]at hs |-;rcases List.mem_append.1 hs with hs|hs
    .obtain ⟨m,_,rfl⟩:=List.mem_map.1 hs;refine⟨fun was=>by simp[Dr.draw],?_⟩;simp only;unfold wR;have:1<=ahead aD:=by unfold ahead;split<;>omega
     omega
    .obtain ⟨e,he2,rfl⟩:=List.mem_map.1 hs;rw[List.mem_filter]at he2;obtain⟨he3,WM⟩:=he2;have WM:e.id=(sp.id:Int)/\e.data≠[]:=by simpa using WM
     have Wj:e.id=y.2.id:=by rw[WM.1,s1];omega
     have VO:e.data.length=sp.size:=by
      have:=m2 y.2 (by rw[d1];exact List.mem_map.2 ⟨y,hy,rfl⟩) (by rw[hdr];simp);rw[<-Wj,awd hp he3]at this;rw[this,s2]
     refine⟨fun was=>by simp[Dr.draw,VO],?_⟩;simp only;unfold wR;omega
   cases hw
  .obtain ⟨q1,q2,_⟩:=afq hany;unfold pO at hs;rw[q1,q2]at hs;simp at hs
 cases hs
end Go.Plain
namespace Go.Plain
theorem GX{p:Pl}{k:Pk}{l:List El}(hp:fM p)(hl:if jS p then mV p k=some l else l=[])(hr:(fU p k l).right):behind p k=some (fU p k l):=by
 unfold behind;rw[if_pos hp];by_cases ha:jS p
 .rw[if_pos ha]at hl |-;rw[hl];simp only;rw[if_pos hr]
 rw[if_neg ha]at hl |-;subst hl;simp only;rw[if_pos hr]
theorem abu{p q:Pl}{k k':Pk}(h1:p.maps=q.maps)(h2:p.jf=q.jf)(h3:p.jg=q.jg)(h4:p.jh=q.jh)(k1:k.hd.ext=k'.hd.ext)(k2:k.aQ=k'.aQ)(k3:k.ext=k'.ext):
  mV p k=mV q k'/\x9 p k=x9 q k'/\(jS p↔jS q)/\(jJ p↔jJ q):=by
 obtain⟨sm,m,st,ty,sq,seq,dY,time,ss,bZ,maps,jf,jg,jh,np⟩:=p;simp only at h1 h2 h3 h4;subst h1 h2 h3 h4;refine⟨?_,?_,Iff.rfl,Iff.rfl⟩
 .unfold mV oh;rw[k1,k2,k3];rfl
 unfold x9 kQ;rw[k2,k3];rfl
def vP(p:Pl):Pl:= {Pl.zero with sq:=p.sq,seq:=p.seq,dY:=p.dY,time:=p.time}
def oV(p:Pl)(els:List El):Pl:= {Pl.zero with ss:=p.ss,bZ:=p.bZ,jf:=els}
def oP(p:Pl)(els:List El):Pl:= {Pl.zero with sq:=p.sq,seq:=p.seq,dY:=p.dY,time:=p.time,ss:=p.ss,bZ:=p.bZ,jf:=els}
theorem aeH{a b:Pk}(h1:a.hd.typ=b.hd.typ)(h2:a.hd.eU=b.hd.eU)(h3:a.hd.ext=b.hd.ext)(h4:a.hd.pad=b.hd.pad)(h5:a.aQ=b.aQ)(h6:a.ext=b.ext)(h7:a.pay=b.pay)(h8:a.pad=b.pad):a.right->b.right:=by
 rintro⟨⟨⟨r1,r2,r3⟩,f2,f3,f4,f5⟩,f6⟩;unfold Pk.sum at f6;rw[h2,h7,h8,h3,h6]at f6;rw[h1]at r1 r2;rw[h2]at r3;rw[h6]at f2 f3 f4;rw[h3,h5]at f4;rw[h4,h8]at f5;exact⟨⟨⟨r1,r2,r3⟩,f2,f3,f4,f5⟩,f6⟩
theorem order{p:Pl}{els:List El}{k x y:Pk}(hx:behind (vP p) k=some x)(hy:behind (oV p els) k=some y):
  ∃z,behind (oV p els) x=some z/\behind (vP p) y=some z/\behind (oP p els) k=some z/\nY (vP p)/\nY (oV p els)/\nY (oP p els):=by
 obtain⟨p1,l1,e1,rfl,r1⟩:=Gz hx;obtain⟨p2,l2,e2,rfl,r2⟩:=Gz hy;have n1:¬jS (vP p):=by unfold jS jJ vP;simp[Pl.zero]
 rw[if_neg n1]at e1;subst e1;have a2:¬jJ (oV p els):=by unfold jJ oV;simp[Pl.zero]
 have a3:¬jJ (oP p els):=by unfold jJ oP;simp[Pl.zero]
 have o1:∀k,fU (vP p) k []=pE (vP p) k:=fun k=>by unfold fU;rw[if_neg n1]
 have k1:nY (vP p):=⟨fun h=>n1 (.inr (.inr h)),rfl⟩;have k2:nY (oV p els):=⟨a2,rfl⟩;have k3:nY (oP p els):=⟨a3,rfl⟩;have p3:fM (oP p els):=by
  obtain⟨⟨_,_,b1,b2,_,_,_⟩,_⟩:=p1;obtain⟨⟨_,_,_,_,c1,_,_⟩,c2,c3,c4,c5,c6,c7,c8⟩:=p2;exact⟨⟨.inr rfl,.inr rfl,b1,b2,c1,Int.le_refl _,(by decide:(0:Int)<=127)⟩,c2,c3,c4,c5,c6,c7,c8⟩
 rw[o1]at r1 hx |-;have cx:=abu (p:=oV p els) (q:=oV p els) (k:=pE (vP p) k) (k':=k) rfl rfl rfl rfl rfl rfl rfl;have cb:=abu (p:=oP p els) (q:=oV p els) (k:=k) (k':=k) rfl rfl rfl rfl rfl rfl rfl;by_cases ha:jS (oV p els)
 .rw[if_pos ha]at e2;have o2:∀k,fU (oV p els) k l2= {pE (oV p els) k with ext:=x9 (oV p els) k}:=fun k=>by unfold fU;rw[if_pos ha,if_neg a2]
  have o3:fU (oP p els) k l2= {pE (oP p els) k with ext:=x9 (oP p els) k}:=by unfold fU;rw[if_pos (cb.2.2.1.2 ha),if_neg a3]
  have ez:fU (oP p els) k l2=fU (oV p els) (pE (vP p) k) l2:=by rw[o3,o2,cb.2.1,cx.2.1];rfl
  have ey:pE (vP p) (fU (oV p els) k l2)=fU (oP p els) k l2:=by rw[o3,o2,cb.2.1];rfl
  have rz:(fU (oP p els) k l2).right:=by
   refine aeH (a:=fU (oV p els) k l2) ?_ ?_ ?_ ?_ ?_ ?_ ?_ ?_ r2<;>(rw[o3,o2];first|rfl|exact cb.2.1.symm)
  refine⟨fU (oP p els) k l2,?_,?_,GX p3 (by rw[if_pos (cb.2.2.1.2 ha),cb.1,e2]) rz,k1,k2,k3⟩
  .rw[ez];exact GX p2 (by rw[if_pos ha,cx.1,e2]) (by rw[<-ez];exact rz)
  .rw[<-ey,<-o1];exact GX p1 (by rw[if_neg n1]) (by rw[o1,ey];exact rz)
 rw[if_neg ha]at e2;subst e2;have hb:¬jS (oP p els):=fun h=>ha (cb.2.2.1.1 h);have o2:∀k,fU (oV p els) k []=pE (oV p els) k:=fun k=>by unfold fU;rw[if_neg ha]
 have o3:fU (oP p els) k []=pE (oP p els) k:=by unfold fU;rw[if_neg hb]
 have ez:fU (oP p els) k []=fU (oV p els) (pE (vP p) k) []:=by rw[o3,o2];rfl
 have ey:pE (vP p) (fU (oV p els) k [])=fU (oP p els) k []:=by rw[o3,o2];rfl
 have rz:(fU (oP p els) k []).right:=by
  refine aeH (a:=fU (oV p els) k []) ?_ ?_ ?_ ?_ ?_ ?_ ?_ ?_ r2<;>(rw[o3,o2];rfl)
 refine⟨fU (oP p els) k [],?_,?_,GX p3 (by rw[if_neg hb]) rz,k1,k2,k3⟩
 .rw[ez];exact GX p2 (by rw[if_neg ha]) (by rw[<-ez];exact rz)
 rw[<-ey,<-o1];exact GX p1 (by rw[if_neg n1]) (by rw[o1,ey];exact rz)
end Go.Plain
namespace Go.Plain
end Go.Plain
namespace Go.Plain
theorem M6(l:List El):lH l↔lG (bY l)/\∀e∈l,e.data.length<=255:=by
 constructor
 .intro h;refine⟨Gy h,fun e he=>?_⟩;obtain⟨j,hj,rfl⟩:=List.getElem_of_mem he;have:=(h j hj).2.2.1;simpa[List.getD,hj]using this
 rintro ⟨h1,h2⟩ j hj;have hj2:j<(bY l).length:=by simpa[bY]using hj
 obtain⟨a,b,c⟩:=h1 j hj2;have e:(bY l).getD j 0=(l.getD j El.zero).id:=by simp[bY,List.getD,hj]
 have t:(bY l).take j=bY (l.take j):=by simp[bY]
 rw[e]at a b c;rw[t]at c;refine⟨a,b,?_,c⟩;have hm:l.getD j El.zero∈l:=by simp[List.getD,hj]
 exact h2 _ hm
theorem au8{p:Pl}(hp:fM p){w:List El}(hw:lH w)(hi:lG (bY (wJ p w))):lH (wJ p w):=by
 rw[M6];refine⟨hi,fun e he=>?_⟩;have h1:=((M6 _).1 hp.2.2.2.2.1).2;have h2:=((M6 _).1 hp.2.2.2.2.2.1).2;have h3:=((M6 _).1 hw).2;unfold wJ at he;rcases List.mem_append.1 he with he|he
 .obtain ⟨x,hx,rfl⟩:=List.mem_map.1 he;rw[List.mem_filter]at hx;unfold Lg;simp only;by_cases ho:x.id∈bY p.jf
  .obtain ⟨o,ho2,_,e2⟩:=agY x.data ho;rw[e2];exact h1 o ho2
  .rw[afQ _ ho];exact h3 x hx.1
 exact h2 e he
theorem asX(l:List El):xQ l<65536:=by unfold xQ;split<;>(try split)<;>omega
theorem axR{p:Pl}(hn:fO p){h:Hd}(ho:h.ok):(PG p h).ok:=by
 obtain⟨n1,n2,n3,n4,n5,n6⟩:=hn;obtain⟨o1,o2,o3,o4⟩:=ho;refine⟨?_,?_,?_,o4⟩
 .show (if p.sq then p.seq.toNat else h.seq)<_;split<;>omega
 .show (if p.dY then p.time.toNat else h.time)<_;split<;>omega
 show (if p.ss then p.bZ.toNat else h.bZ)<_;split<;>omega
theorem axq{p:Pl}(hn:fO p){k:Pk}(ho:k.ok)(l:List El):(fU p k l).ok:=by
 have h1:=axR hn ho.1;unfold fU;split
 .split
  .refine ⟨?_,?_⟩
   .obtain ⟨a,b,c,d⟩:=h1;exact⟨a,b,c,d⟩
   show (if l=[]then 0 else xQ l)<65536;have:=asX l;split<;>omega
  .exact ⟨h1,ho.2⟩
 exact ⟨h1,ho.2⟩
theorem afW{p:Pl}(hn:fO p){k x:Pk}(ho:k.ok)(hx:behind p k=some x):x.right/\x.ok:=by
 obtain⟨_,l,_,rfl,hr⟩:=Gz hx;exact⟨hr,axq hn ho l⟩
end Go.Plain
set_option maxRecDepth 100000
namespace Go.Plain
def bW:List UInt8:=[144,96,0,1,0,0,0,2,0,0,0,3,190,222,0,1,48,7,0,0,9]
def oW:List UInt8:=[144,96,0,5,0,0,0,2,0,0,0,3,190,222,0,1,64,120,0,0,9]
def pW:Pl:= {Pl.zero with sq:=true,seq:=5,maps:=[⟨3,4⟩],jf:=[⟨3,[120]⟩]}
def kW:Pk:=⟨⟨false,true,false,96,1,2,3,[]⟩,48862,[48,7,0,0],[9],0⟩
def xW:Pk:=⟨⟨false,true,false,96,5,2,3,[]⟩,48862,[64,120,0,0],[9],0⟩
theorem PZ:fE bW=0/\dN bW=kW:=by decide+kernel
theorem V5:fE oW=0/\dN oW=xW:=by decide+kernel
theorem aCy:behind pW kW=some xW:=by decide+kernel
theorem keepW:nY pW/\kW.right:=by decide+kernel
theorem aBb:aj1 pW kW bW=oW:=by decide+kernel
theorem elW:uF 48862 [64,120,0,0]=[⟨4,[120]⟩]/\(spots 48862 [64,120,0,0]).2=0:=by decide+kernel
end Go.Plain
namespace Go.Vc
open Go.ChangeShapes Go.WideShapes Go.ChangeAt Go.RowKit
theorem azi{H:Type}{enc:TypeId×Value->H}{C:Checked}{os:Os}{f:FuncId}{fn:Func}{s:ChangeSpec}{conds:List PathCond}{laid:List (String×DataW Unit)}(hlt:f<1000000)(aX:∀W:World,laidMetH C.prog laid W->KW C.prog W)(own:ownKnob C.prog.godebug=none)(laidOut:laidOutB C.prog=true)
  (started:os.Started) (noInit:C.prog.inits.idxOf? f=none) (hfn:C.prog.funcs[f]?=some fn)
  (witness:∃(w:World) (tape:Tape) (i:Input),w.os=os/\(w.forCall tape i).Shaped C.prog/\i.vars=[]/\Input.okWide C.prog (w.forCall tape i) .any w.heap.size f i/\
   ((s.pre enc C.prog fn conds false (w.forCall tape i).memory i.args/\laidMetH C.prog laid (w.forCall tape i).memory)/\sizedMet enc C.prog fn (OpenSpec.ofChange s) false (w.forCall tape i).memory i.args)/\({}:Assume).holds C.prog (lone (Frame.enter C.prog f i.args .normal) [] (w.forCall tape i)))
  {dZ:List Sh}(hgood:KR C.prog 6 fn.params.toList dZ=true) (hread:(fn.params.toList.all fun t=>C.prog.readableRec t&&decide (t<C.prog.types.size))=true)
  {tb:TypeId}(hres:fn.resultTypes= #[tb]) (aBw:C.prog.underlying tb=some .bool) (hvars:s.vars=[])
  (hspec:∀(ds:List (DataW H)),ds.length=fn.params.size->s.fn H ds= {results:=[.lit (.bool true)],args:=ds})
  (hpc:∀cs,PL dZ cs->PC C.prog f (dZ.zip cs) [(.bool,.bool true)]):
  ReturnsInHanded {} C os f .any (fun w args=>(s.pre enc C.prog fn conds false w args/\laidMetH C.prog laid w)/\sizedMet enc C.prog fn (OpenSpec.ofChange s) false w args) (s.post enc C.prog fn false true false false):=by
 refine returnsInHanded_of_change_and (X:=fun w _=>laidMetH C.prog laid w) (fun _ _ _ hh h=>h.of_heap hh) own started noInit hfn witness ?_;intro W base args ds gs before hval hW hcnd _ hL _;have hW':=hW;obtain⟨p,q,hA,hV,rfl,hfz,hnd⟩:=hW;rw[hvars]at hV;obtain⟨rfl,rfl⟩:=trodVars_none hV;obtain⟨cs,r1,r2⟩:=aht hgood (fun j t v ht hv=>hval j t v (by simpa using ht) (by simpa using hv)) hA;have hlen:=ado hA;have hcall:=((hpc cs r2).oF hlt).2 W _ args.toList (aX W hL) r1;simp only[Array.toArray_toList]at hcall;refine hcall.mono fun e W' ⟨v,he,hv,gY⟩=>?_;subst he;obtain⟨vs,hvs,hv⟩:=hv;obtain⟨u,r,rfl,⟨us,hu,rfl⟩,hr⟩:=hvs;simp only[fI]at hr;subst hr;simp only[Rd]at hu;subst hu;simp[Sh.mk,Sh.isAgg]at hv;subst hv;have hsp:=hspec (ds++ []) (by simpa using hlen);refine⟨_,rfl,ds,[],_,[],p,[],hW',?_,?_,?_,gY.frame _,fun h=>by cases h⟩
 .rw[hsp,hres];exact trodAll_mk1 (shut_bool aBw _)
 .rw[hsp];simp only[lV];exact af0 laidOut gY hread hA
 rw[hsp,hvars];rfl
theorem awy{P:Program}{f:FuncId}{fn:Func}{s:ChangeSpec}{c:OpenClaim}(k1:c.wf (OpenSpec.ofChange s)=true)(k2:laidOutB P=true)(k3:mapsRowed P=true)(k4:fn.params.all (P.readableRec ·)=true)(k5:namedTie P c.named s.vars=true)
  (k6:((c.stops==[])&&(P.stops==[])&&(c.knobs==[])&&(P.stopKnobs==[]))=true) (k10:(c.inPlace==P.inPlace f)=true) (k11:(c.unfollowed==P.unfollowed f)=true) (k12:(c.recurses==P.recurses f)=true) (k13:(c.named==P.varsNamed f)=true)
  (k14:((c.maps==(fn.params.toList++s.plain.varTypes P).any (P.mapsRec ·))&&(c.ifaces==(fn.params.toList++s.plain.varTypes P).any (P.ifacesRec ·))&&(c.mapsOut==P.mapsAmong fn.resultTypes.toList))=true)
  (k17:((c.loops==(fn.params.toList++s.plain.varTypes P).any (P.loopsFrom ·))&&(c.wideKeys==(fn.params.toList++s.plain.varTypes P++fn.resultTypes.toList).any (P.wideKeysFrom ·)))=true)
  (k18:(s.vars.all (P.varReadable ·)&&fn.resultTypes.all (fun t=>P.readableRec t&&decide (t<P.types.size))&&(c.ifacesOut==fn.resultTypes.toList.any (P.ifacesRec ·))&&(c.loopsOut==fn.resultTypes.toList.any (P.loopsFrom ·)))=true)
  (k22:(c.plainKeys==P.plainKeys)=true) (k23:(c.shortTexts.isNone&&P.stopsHeard)=true) (k24:P.mayEnter=true) (k24b:(c.lifted==P.liftsFinal)=true) (k24c:(P.make==some c.make)=true)
  (k25:((c.kinds==(if c.domain.isEmpty then []else fn.params.toList.map fun t=>match P.underlying t with|some (.int k)=>some k|_=>none))&&(c.pinned==c.pinnedBy))=true)
  (k27:((c.veiled==(fn.params.toList++s.plain.varTypes P++fn.resultTypes.toList).any (P.veiledRec ·))&&c.veiledFits P fn.params.toList (fn.params.toList++s.plain.varTypes P++fn.resultTypes.toList))=true):joinedFacts P f fn s c=true:=by
 simp only[bB]at k6 k14 k17 k18 k23 k25 k27;simp only[joinedFacts,bB];obtain⟨⟨⟨k6,k7⟩,k8⟩,k9⟩:=k6;obtain⟨⟨k14,k15⟩,k16⟩:=k14;obtain⟨k17,k17b⟩:=k17;obtain⟨⟨⟨k18,k19⟩,k20⟩,k21⟩:=k18;obtain⟨k23,k23b⟩:=k23;obtain⟨k25,k26⟩:=k25;obtain⟨k27,k28⟩:=k27;exact⟨⟨⟨⟨⟨⟨⟨⟨⟨⟨⟨⟨⟨⟨⟨⟨⟨⟨⟨⟨⟨⟨⟨⟨⟨⟨⟨⟨⟨⟨⟨k1,k2⟩,k3⟩,k4⟩,k5⟩,k6⟩,k7⟩,k8⟩,k9⟩,k10⟩,k11⟩,k12⟩,k13⟩,k14⟩,k15⟩,k16⟩,k17⟩,k17b⟩,k18⟩,k19⟩,k20⟩,k21⟩,k22⟩,k23⟩,k23b⟩,k24⟩,k24b⟩,k24c⟩,k25⟩,k26⟩,k27⟩,k28⟩
end Go.Vc
