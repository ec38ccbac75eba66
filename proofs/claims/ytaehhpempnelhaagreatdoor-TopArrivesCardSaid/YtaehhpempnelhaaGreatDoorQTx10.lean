/-
  Contracts of functions of the program, each out of its condition or by a walk, and plain lemmas.
-/
import Derived.Test.YtaehhpempnelhaaGreatDoorQWd
import Derived.Laws.CopyOwn
set_option maxRecDepth 100000
namespace Go.Vc
open Go Go.Proofs Go.Plain Go.RowKit Go.Shelf
theorem gq(b:List UInt8)(i:Nat):at_ b i<256:=by
 have:=(b.getD i 0).toNat_lt;unfold at_;omega
theorem gQ.draws(W:World)(aL:KW Tryz.prog W)(M:Nat->Prop)(p:Pl)(aD:Nat)(dr:Dr)(f:Value)(h:gQ W M p aD dr f)(ht:0<=p.ty/\p.ty<=127)(hto:∀to,dr= .nI to->1<=to/\to<=255)(g off n cap:Nat)(was:List UInt8)(h1:1<=n)
  (hc:W.cell? ⟨g,off,none⟩=some (.int .u8 (at_ was 0:Nat))):
  ∃F caps,(F=235\/F=234\/F=236\/F=198)/\f= .func (.func F) #[] caps/\Calls Tryz.prog F (#[.slice (some ⟨g,off,none⟩) n cap]++caps) W fun e W'=>∃r,e= .returned r/\bq W' (fun b=>M b\/W.heap.size<=b) aQ r (B (dr.draw p (decide (aD=48862)) was))/\Below W.heap.size W W':=by
 have hl:=gq was 0;cases dr with
 |num v k=>
  obtain ⟨a,b,rfl,m1,m2,b1,b2,hv,n1,n8⟩:=h;refine ⟨_,_,.inl rfl,rfl,(alf W aL a b v k _ b1 b2 hv ⟨n1,n8⟩).mono ?_⟩;rintro e W' ⟨r,he,hr,hb⟩;exact ⟨r,he,hr.mono (aI _) (fun b hb _=>⟨rfl,.inr hb⟩),hb⟩
 |sec=>
  obtain ⟨a,cs,rfl,m1,c1,q0,q1,q2,q3⟩:=h;refine ⟨_,_,.inr (.inl rfl),rfl,(ale W a cs p ht c1 q0 q1 q2 q3 g off n cap _ h1 hl hc).mono ?_⟩;rintro e W' ⟨he,rfl⟩;exact ⟨_,he,(abW W _).mono (aI _) (fun b hb _=>⟨rfl,.inr hb⟩),(Below.refl _ W).alloc (aI _) _⟩
 |nI to=>
  obtain ⟨a,b,rfl,m1,m2,b1,b2⟩:=h;refine ⟨_,_,.inr (.inr (.inl rfl)),rfl,(apL W a b to aD b1 b2 (hto to rfl) g off n cap _ h1 hl hc).mono ?_⟩;rintro e W' ⟨r,he,hr,hb⟩;exact ⟨r,he,hr.mono (aI _) (fun b hb _=>⟨rfl,.inr hb⟩),hb⟩
 |data d=>
  obtain ⟨a,id,dv,rfl,m1,c1,hd⟩:=h;refine ⟨_,_,.inr (.inr (.inr rfl)),rfl,(anh W a id dv _ c1).mono ?_⟩;rintro e W' ⟨he,rfl⟩;exact ⟨dv,he,hd.mono (aI _) (fun b hb _=>⟨rfl,.inl hb⟩),Below.refl _ _⟩
theorem jG.at{W:World}{M:Nat->Prop}{p:Pl}{aD:Nat}:∀ {l:List fE} {xs:List Value},jG W M p aD l xs->∀ {i:Nat} {s:fE},l[i]?=some s->
  ∃f,xs[i*4]?=some (.int .i64 s.field)/\xs[i*4+1]?=some (.int .i64 (s.pos:Int))/\xs[i*4+2]?=some (.int .i64 (s.size:Int))/\xs[i*4+3]?=some f/\gQ W M p aD s.dr f
 | [],_,_,i,s,hi=>by simp at hi
 |s::l,xs,⟨f,r,h1,h2,h3⟩,i,t,hi=>by
  subst h1;match i,hi with
  |0,hi=>
   obtain rfl:s=t:=by simpa using hi
   exact ⟨f,rfl,rfl,rfl,rfl,h2⟩
  |i+1,hi=>
   obtain ⟨f2,a0,a1,a2,a3,a4⟩:=h3.at (i:=i) (s:=t) (by simpa using hi);have e:∀k,(i+1)*4+k=(i*4+k)+4:=fun k=>by omega
   have e0:(i+1)*4=i*4+4:=by omega
   refine ⟨f2,?_,?_,?_,?_,a4⟩
   .rw[e0];simpa using a0
   .rw[e];simpa using a1
   .rw[e];simpa using a2
   .rw[e];simpa using a3
theorem apY{w:World}{B e size:Nat}{v:Value}{n:Nat}{xs:List Value}(h:w.ownsRow B e size v n xs):∃a cap,v= .slice a n cap/\∀i c,xs[i]?=some c->∃g,a=some ⟨g,0,none⟩/\v.ownBlock=some g/\g<w.heap.size/\w.cell? ⟨g,i,none⟩=some c:=by
 have h0:=h;obtain ⟨hl,⟨rfl,rfl⟩|⟨g,cap,cur,rfl,_,hg,_⟩⟩:=h
 .exact ⟨none,0,rfl,fun i c hi=>by
   obtain rfl:xs=[]:=jH (by omega);simp at hi⟩
 .refine ⟨_,_,rfl,fun i c hi=>⟨g,rfl,rfl,(fu.1 hg).1,?_⟩⟩;have:=h0.cells (g:=g) rfl i c hi;have ea:(⟨g,0,none⟩:Addr).add i=⟨g,i,none⟩:=by unfold Addr.add;split<;>simp_all
  rwa[ea] at this
theorem OI{w:World}{N:Nat->Prop}{v:Value}{d:List UInt8}(h:bq w N aQ v (B d)):∃a cap,v= .slice a d.length cap/\(0<d.length->∃b off,a=some ⟨b,off,none⟩/\b<w.heap.size/\N b/\∀j x,d[j]?=some x->w.cell? ⟨b,off+j,none⟩=some (.int .u8 (x.toNat:Int))):=by
 obtain ⟨a,cap,rfl,hs⟩:=Jq h;refine ⟨a,cap,by simp[ofBytes],fun h0=>?_⟩;obtain ⟨b,off,us,rfl,hN,hlt,_,_⟩:=hs 0 _ (iK (by simpa [ofBytes] using h0));refine ⟨b,off,rfl,hlt,hN,fun j x hj=>?_⟩;obtain ⟨b',off',us,e,_,_,hc,hr⟩:=hs j (.int (x.toNat:Int)) (by simp[ofBytes,hj]);simp only[bQ,Addr.mk.injEq,and_true] at e;obtain ⟨rfl,rfl⟩:=e;simp only[Rd] at hr;subst hr;simpa [Sh.size] using hc 0 _ rfl
def vb(l:List UInt8):List Value:=l.map fun x=> .int .u8 (x.toNat:Int)
theorem apB(l:List UInt8):∀u∈vb l,u.oneCell'=true:=by
 intro u hu;obtain ⟨x,_,rfl⟩:=gK.1 hu;rfl
theorem ama(b d:List UInt8)(sp:List Value)(k:Nat)(h:k+d.length<=b.length):_root_.Go.splice (vb b++sp) k (vb d)=vb (putAt b k d)++sp:=by
 unfold _root_.Go.splice putAt vb;simp only[aT,eB,List.map_take,List.map_drop,dI];rw[List.take_append_of_le_length (by simp;omega),List.drop_append_of_le_length (by simp;omega)]
theorem ach{w:World}{N:Nat->Prop}:∀ {d:List UInt8} {xs:List Value},bF w N (.int .u8) xs (ofBytes d)->xs=vb d
 | [],xs,h=>h
 |x::d,xs,h=>by
  obtain ⟨u,r,rfl,h1,h2⟩:=h;simp only[Rd] at h1;rw[h1,ach h2];rfl
theorem row_of{w:World}{N:Nat->Prop}:∀(d:List UInt8),bF w N (.int .u8) (vb d) (ofBytes d)
 | []=>rfl
 |x::d=>⟨[_],vb d,rfl,rfl,row_of d⟩
theorem apv(W:World)(aL:KW Tryz.prog W)(bv:Value)(b:List UInt8)(hb:bq W (fun b=>b<W.heap.size) aQ bv (B b))(hbl:b.length<=1000000)(h0:b≠[]):
  Calls Tryz.prog 77 #[bv] W fun e w'=>∃g cap et sp,e= .returned (.slice (some ⟨g,0,none⟩) b.length cap)/\W.heap.size<=g/\w'.heap[g]?=some (.cells (vb b++sp).toArray et (0,0))/\b.length+sp.length=cap/\cap<=maxLen/\Below W.heap.size W w':=by
 obtain ⟨s,c1,p9,e,_,hF⟩:=(show PC Tryz.prog (2000000+77) _ _ from TF b hbl).toF (by decide);simp only[iJ,fq,Sh.sl.injEq] at e;obtain ⟨⟨rfl,rfl⟩,rfl⟩:=e;refine (hF W _ [bv] aL ⟨_,_,rfl,hb,rfl⟩).mono ?_;rintro e w' ⟨v1,vr,et,xs,rfl,hbe,hown,hrow,hv⟩;obtain rfl:vr=[]:=hv;have hx:=ach hrow;obtain ⟨hl,⟨_,hn⟩|⟨g,cap,cur,rfl,hg,hc,h1,h2,h3,h4⟩⟩:=hown
 .exact absurd (jH (by simpa [ofBytes] using hn)) h0
 .have hlen:(C.toList (B b)).length=b.length:=by simp[ofBytes]
  rw[hlen] at h4 h1;simp only[Sh.size,Nat.mul_one] at h3 h4;have hcur:vb b++cur.toList.drop b.length=cur.toList:=by
   rw[<-hx,<-h4];exact zu _ _
  refine ⟨g,cap,et,cur.toList.drop b.length,by rw[hlen];rfl,hg,by rw[hcur];exact hc,?_,h2,hbe⟩;simp only[jV,Array.length_toList];omega
theorem akc{p:Pl}{k:Pk}{n:Nat}(hok:∀s∈strokes p k,Fh p (iC k) n s):∀s∈strokes p k,1<=s.size:=by
 intro s hs;have h:=(hok s hs).1;unfold strokes at hs;rcases iZ.1 hs with hs|hs
 .unfold ou at hs;simp only[iZ] at hs;rcases hs with hs|hs|hs|hs;all_goals
   split at hs
   .obtain rfl:=List.mem_singleton.1 hs;simp
   .cases hs
 .unfold yw at hs;split at hs
  .obtain ⟨sp,_,hs⟩:=List.mem_flatMap.1 hs;unfold jF at hs;rcases iZ.1 hs with hs|hs
   .obtain ⟨m,_,rfl⟩:=gK.1 hs;simp
   .obtain ⟨e,he,rfl⟩:=gK.1 hs;have he:=(List.mem_filter.1 he).2;simp only[ne_eq,bR] at he;have h:=h [];simp only[Dr.draw] at h;have:0<e.data.length:=yO.2 he.2;simp only;omega
  .cases hs
theorem akd{p:Pl}{k:Pk}(hp:fT p):∀s∈strokes p k,∀to,s.dr= .nI to->1<=to/\to<=255:=by
 intro s hs to hd;unfold strokes at hs;rcases iZ.1 hs with hs|hs
 .unfold ou at hs;simp only[iZ] at hs;rcases hs with hs|hs|hs|hs;all_goals
   split at hs
   .obtain rfl:=List.mem_singleton.1 hs;cases hd
   .cases hs
 .unfold yw at hs;split at hs
  .obtain ⟨sp,_,hs⟩:=List.mem_flatMap.1 hs;unfold jF at hs;rcases iZ.1 hs with hs|hs
   .obtain ⟨m,hm,rfl⟩:=gK.1 hs;simp only[Dr.nI.injEq] at hd;subst hd;exact vH hp.2.2.1 m.to (gK.2 ⟨m,(List.mem_filter.1 hm).1,rfl⟩)
   .obtain ⟨e,he,rfl⟩:=gK.1 hs;cases hd
  .cases hs
theorem an0{p:Pl}{ak:Bool}{b:List UInt8}{l:List fE}(h:∀s∈l,Fh p ak b.length s)(i:Nat):((l.take i).foldl (sG p ak) b).length=b.length:=
 (MO (l.take i) b (fun s hs=>h s (yN hs))).1
end Go.Vc
