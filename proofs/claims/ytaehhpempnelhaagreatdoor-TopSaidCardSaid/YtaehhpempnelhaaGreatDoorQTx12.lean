/-
  Contracts of functions of the program, each out of its condition or by a walk, and plain lemmas.
-/
import Derived.Test.YtaehhpempnelhaaGreatDoorQWd
import Derived.Laws.CopyOwn
import Derived.IntWalk
set_option maxRecDepth 100000
namespace Go.Vc
open Go Go.Proofs Go.Plain Go.RowKit Go.Shelf Tryz
theorem gN(b:List UInt8)(i:Nat):at_ b i<256:=by
 have:=(b.getD i 0).toNat_lt;unfold at_;omega
theorem kG.draws(W:World)(aX:KW prog W)(M:Nat->Prop)(p:Pl)(aQ:Nat)(dr:Dr)(f:Value)(h:kG W M p aQ dr f)(ht:0<=p.ty/\p.ty<=127)(hto:∀to,dr=.ug to->1<=to/\to<=255)(g off n cap:Nat)(was:List UInt8)(h1:1<=n)
  (hc:W.cell? ⟨g,off,none⟩=some (.int .u8 (at_ was 0:Nat))):
  ∃F caps,(F=235\/F=234\/F=236\/F=198)/\f=.func (.func F) #[] caps/\Calls prog F (#[.slice (some ⟨g,off,none⟩) n cap]++caps) W fun e W'=>∃r,e=.returned r/\bV W' (fun b=>M b\/W.heap.size<=b) aV r (B (dr.draw p (decide (aQ=48862)) was))/\Below W.heap.size W W':=by
 have hl:=gN was 0;cases dr with
 |num v k=>
  obtain⟨a,b,rfl,m1,m2,b1,b2,hv,n1,n8⟩:=h;refine⟨_,_,.inl rfl,rfl,(auU W aX a b v k _ b1 b2 hv ⟨n1,n8⟩).mono ?_⟩;rintro e W' ⟨r,he,hr,hb⟩;exact⟨r,he,hr.mono (aS _) (fun b hb _=>⟨rfl,.inr hb⟩),hb⟩
 |sec=>
  obtain⟨a,cs,rfl,m1,c1,q0,q1,q2,q3⟩:=h;refine⟨_,_,.inr (.inl rfl),rfl,(auT W a cs p ht c1 q0 q1 q2 q3 g off n cap _ h1 hl hc).mono ?_⟩;rintro e W' ⟨he,rfl⟩;exact⟨_,he,(aiq W _).mono (aS _) (fun b hb _=>⟨rfl,.inr hb⟩),(eD _ W).alloc (aS _) _⟩
 |ug to=>
  obtain⟨a,b,rfl,m1,m2,b1,b2⟩:=h;refine⟨_,_,.inr (.inr (.inl rfl)),rfl,(az0 W a b to aQ b1 b2 (hto to rfl) g off n cap _ h1 hl hc).mono ?_⟩;rintro e W' ⟨r,he,hr,hb⟩;exact⟨r,he,hr.mono (aS _) (fun b hb _=>⟨rfl,.inr hb⟩),hb⟩
 |data d=>
  obtain⟨a,id,dv,rfl,m1,c1,hd⟩:=h;refine⟨_,_,.inr (.inr (.inr rfl)),rfl,(axf W a id dv _ c1).mono ?_⟩;rintro e W' ⟨he,rfl⟩;exact⟨dv,he,hd.mono (aS _) (fun b hb _=>⟨rfl,.inl hb⟩),eD _ _⟩
theorem o8.at{W:World}{M:Nat->Prop}{p:Pl}{aQ:Nat}:∀{l:List jA}{xs:List Value},o8 W M p aQ l xs->∀{i:Nat}{s:jA},l[i]?=some s->
  ∃f,xs[i*4]?=some (.int .i64 s.field)/\xs[i*4+1]?=some (.int .i64 (s.pos:Int))/\xs[i*4+2]?=some (.int .i64 (s.size:Int))/\xs[i*4+3]?=some f/\kG W M p aQ s.dr f
 | [],_,_,i,s,hi=>by simp at hi
 |s::l,xs,⟨f,r,h1,h2,h3⟩,i,t,hi=>by
  subst h1;match i,hi with
  |0,hi=>
   obtain rfl:s=t:=by simpa using hi
   exact⟨f,rfl,rfl,rfl,rfl,h2⟩
  |i+1,hi=>
   obtain⟨f2,a0,a1,a2,a3,a4⟩:=h3.at (i:=i) (s:=t) (by simpa using hi);have e:∀k,(i+1)*4+k=(i*4+k)+4:=fun k=>by omega
   have e0:(i+1)*4=i*4+4:=by omega
   refine⟨f2,?_,?_,?_,?_,a4⟩
   .rw[e0];simpa using a0
   .rw[e];simpa using a1
   .rw[e];simpa using a2
   rw[e];simpa using a3
theorem aAl{w:World}{B e size:Nat}{v:Value}{n:Nat}{xs:List Value}(h:w.ownsRow B e size v n xs):∃a cap,v=.slice a n cap/\∀i c,xs[i]?=some c->∃g,a=some ⟨g,0,none⟩/\v.ownBlock=some g/\g<w.heap.size/\w.cell? ⟨g,i,none⟩=some c:=by
 have h0:=h;obtain⟨hl,⟨rfl,rfl⟩|⟨g,cap,cur,rfl,_,hg,_⟩⟩:=h
 .exact ⟨none,0,rfl,fun i c hi=>by
   obtain rfl:xs=[]:=oC (by omega);simp at hi⟩
 refine ⟨_,_,rfl,fun i c hi=>⟨g,rfl,rfl,(iX.1 hg).1,?_⟩⟩;have:=h0.cells (g:=g) rfl i c hi;have ea:(⟨g,0,none⟩:Addr).add i=⟨g,i,none⟩:=by unfold Addr.add;split<;>simp_all
 rwa[ea]at this
theorem Ve{w:World}{N:Nat->Prop}{v:Value}{d:List UInt8}(h:bV w N aV v (B d)):∃a cap,v=.slice a d.length cap/\(0<d.length->∃b off,a=some ⟨b,off,none⟩/\b<w.heap.size/\N b/\∀j x,d[j]?=some x->w.cell? ⟨b,off+j,none⟩=some (.int .u8 (x.toNat:Int))):=by
 obtain⟨a,cap,rfl,hs⟩:=Pg h;refine⟨a,cap,by simp[ofBytes],fun h0=>?_⟩;obtain⟨b,off,us,rfl,hN,hlt,_,_⟩:=hs 0 _ (nL (by simpa[ofBytes]using h0));refine⟨b,off,rfl,hlt,hN,fun j x hj=>?_⟩;obtain⟨b',off',us,e,_,_,hc,hr⟩:=hs j (.int (x.toNat:Int)) (by simp[ofBytes,hj]);simp only[dP,Addr.mk.injEq,lC]at e;obtain⟨rfl,rfl⟩:=e;simp only[Rd]at hr;subst hr;simpa[Sh.size]using hc 0 _ rfl
def vb(l:List UInt8):List Value:=l.map fun x=> .int .u8 (x.toNat:Int)
theorem azV(l:List UInt8):∀u∈vb l,u.oneCell'=true:=by
 intro u hu;obtain⟨x,_,rfl⟩:=gP.1 hu;rfl
theorem avX(b d:List UInt8)(sp:List Value)(k:Nat)(h:k+d.length<=b.length):_root_.Go.splice (vb b++sp) k (vb d)=vb (putAt b k d)++sp:=by
 unfold _root_.Go.splice putAt vb;simp only[bJ,gW,List.map_take,List.map_drop,gJ];rw[List.take_append_of_le_length (by simp;omega),List.drop_append_of_le_length (by simp;omega)]
theorem aiN{w:World}{N:Nat->Prop}:∀{d:List UInt8}{xs:List Value},cZ w N (.int .u8) xs (ofBytes d)->xs=vb d
 | [],xs,h=>h
 |x::d,xs,h=>by
  obtain⟨u,r,rfl,h1,h2⟩:=h;simp only[Rd]at h1;rw[h1,aiN h2];rfl
theorem row_of{w:World}{N:Nat->Prop}:∀(d:List UInt8),cZ w N (.int .u8) (vb d) (ofBytes d)
 | []=>rfl
 |_::d=>⟨[_],vb d,rfl,rfl,row_of d⟩
theorem azL(W:World)(aX:KW prog W)(bv:Value)(b:List UInt8)(hb:bV W (fun b=>b<W.heap.size) aV bv (B b))(hbl:b.length<=1000000)(h0:b≠[]):
  Calls prog 77 #[bv] W fun e w'=>∃g cap et sp,e=.returned (.slice (some ⟨g,0,none⟩) b.length cap)/\W.heap.size<=g/\w'.heap[g]?=some (.cells (vb b++sp).toArray et (0,0))/\b.length+sp.length=cap/\cap<=maxLen/\Below W.heap.size W w':=by
 obtain⟨s,c1,vM,e,_,hF⟩:=(show PC prog (2000000+77) _ _ from aah b hbl).toF (by decide);simp only[kE,iG,Sh.sl.injEq]at e;obtain⟨⟨rfl,rfl⟩,rfl⟩:=e;refine(hF W _ [bv] aX ⟨_,_,rfl,hb,rfl⟩).mono ?_;rintro e w' ⟨v1,vr,et,xs,rfl,hbe,hown,hrow,hv⟩;obtain rfl:vr=[]:=hv;have hx:=aiN hrow;obtain⟨hl,⟨_,hn⟩|⟨g,cap,cur,rfl,hg,hc,h1,h2,h3,h4⟩⟩:=hown
 .exact absurd (oC (by simpa[ofBytes]using hn)) h0
 have hlen:(C.toList (B b)).length=b.length:=by simp[ofBytes]
 rw[hlen]at h4 h1;simp only[Sh.size,Nat.mul_one]at h3 h4;have hcur:vb b++cur.toList.drop b.length=cur.toList:=by
  rw[<-hx,<-h4];exact D5 _ _
 refine⟨g,cap,et,cur.toList.drop b.length,by rw[hlen];rfl,hg,by rw[hcur];exact hc,?_,h2,hbe⟩;simp only[lW,Jh];omega
theorem atp{p:Pl}{k:Pk}{n:Nat}(hok:∀s∈strokes p k,KZ p (kQ k) n s):∀s∈strokes p k,1<=s.size:=by
 intro s hs;have h:=(hok s hs).1;unfold strokes at hs;rcases zx.1 hs with hs|hs
 .unfold tV at hs;simp only[zx]at hs;rcases hs with hs|hs|hs|hs;all_goals
   split at hs
   .obtain rfl:=sF.1 hs;simp
   .cases hs
 unfold DI at hs;split at hs
 .obtain ⟨sp,_,hs⟩:=List.mem_flatMap.1 hs;unfold pO at hs;rcases zx.1 hs with hs|hs
  .obtain ⟨m,_,rfl⟩:=gP.1 hs;simp
  .obtain ⟨e,he,rfl⟩:=gP.1 hs;have he:=(List.mem_filter.1 he).2;simp only[ne_eq,dQ]at he;have h:=h [];simp only[Dr.draw]at h;have:0<e.data.length:=Mg.2 he.2;simp only;omega
 cases hs
theorem atq{p:Pl}{k:Pk}(hp:fM p):∀s∈strokes p k,∀to,s.dr=.ug to->1<=to/\to<=255:=by
 intro s hs to hd;unfold strokes at hs;rcases zx.1 hs with hs|hs
 .unfold tV at hs;simp only[zx]at hs;rcases hs with hs|hs|hs|hs;all_goals
   split at hs
   .obtain rfl:=sF.1 hs;cases hd
   .cases hs
 unfold DI at hs;split at hs
 .obtain ⟨sp,_,hs⟩:=List.mem_flatMap.1 hs;unfold pO at hs;rcases zx.1 hs with hs|hs
  .obtain ⟨m,hm,rfl⟩:=gP.1 hs;simp only[Dr.ug.injEq]at hd;subst hd;exact tC hp.2.2.1 m.to (gP.2 ⟨m,(List.mem_filter.1 hm).1,rfl⟩)
  .obtain ⟨e,he,rfl⟩:=gP.1 hs;cases hd
 cases hs
theorem axX{p:Pl}{aD:Bool}{b:List UInt8}{l:List jA}(h:∀s∈l,KZ p aD b.length s)(i:Nat):((l.take i).foldl (yj p aD) b).length=b.length:=
 (SY (l.take i) b (fun s hs=>h s (Jb hs))).1
theorem awV(b:List UInt8)(k n:Nat)(h:k<b.length)(hn:1<=n):at_ ((b.drop k).take n) 0=at_ b k:=by
 rw[D6 h];obtain⟨m,rfl⟩:∃m,n=m+1:=⟨n-1,by omega⟩;simp[at_,List.getD,h]
theorem azI{w:World}{g:Nat}{bs:List UInt8}{sp:List Value}{et:TypeId}(h:w.heap[g]?=some (.cells (vb bs++sp).toArray et (0,0))){k:Nat}(hk:k<bs.length):w.cell? ⟨g,k,none⟩=some (.int .u8 (at_ bs k:Nat)):=by
 simp only[World.cell?,h];simp[vb,at_,List.getD,hk,xw]
theorem ayv:(prog.info? 5).map (·.size)=some 1:=by kernel_rfl
theorem az2{w:World}{N:Nat->Prop}{r:Value}{d:List UInt8}(h:bV w N aV r (B d)):∃ra rc,r=.slice ra d.length rc/\Hid (0<(vb d).length->∃ad,ra=some ad/\∀j v,(vb d)[j]?=some v->w.cell? (ad.add j)=some v):=by
 obtain⟨ra,rc,rfl,h2⟩:=Ve h;refine⟨ra,rc,rfl,fun h0=>?_⟩;obtain⟨b,off,rfl,_,_,hc⟩:=h2 (by simpa[vb]using h0);refine⟨_,rfl,fun j v hj=>?_⟩;obtain⟨x,hx,rfl⟩:∃x,d[j]?=some x/\Value.int .u8 (x.toNat:Int)=v:=by
  unfold vb at hj;rw[ow]at hj;exact Aj.1 hj
 have ea:(⟨b,off,none⟩:Addr).add j=⟨b,off+j,none⟩:=by unfold Addr.add;split<;>simp_all
 rw[ea];exact hc j x hx
theorem azv(i:Nat):Value.int .i64 ((i:Int)+1)=.int .i64 ((i+1:Nat):Int):=by simp
theorem ax1(i n:Nat)(h:i<n):n-(intOf (Value.int .i64 ((i:Int)+1))).toNat<n-(intOf (Value.int .i64 (i:Int))).toNat:=by
 simp only[intOf];omega
set_option maxHeartbeats 4000000 in
theorem auR(W0:World)(aX:KW prog W0)(pv bv:Value)(p:Pl)(b:List UInt8)(k:Pk)(hkk:Hid (dN b=k))(hp:bV W0 (fun b=>b<W0.heap.size) ig pv (iC p))(hb:bV W0 (fun b=>b<W0.heap.size) aV bv (B b))(hbl:b.length<=1000000)(few:lJ p)(num:fO p)(hE:kT p b=0)
  (h0:b≠[]) (L:List jA) (hL:Hid (strokes p k=L)) (hok:∀s∈L,KZ p (kQ k) b.length s) (hsz:∀s∈L,1<=s.size) (akM:∀s∈L,∀to,s.dr=.ug to->1<=to/\to<=255) (hty:0<=p.ty/\p.ty<=127) (hLl:L.length<=3000000000000):
  Calls prog 75 #[pv,bv] W0 fun e W'=>∃g cap,e=.returned (.tuple #[.slice (some ⟨g,0,none⟩) b.length cap,.int .i64 0])/\W0.heap.size<=g/\∃et sp,W'.heap[g]?=some (.cells (vb (L.foldl (yj p (kQ k)) b)++sp).toArray et (0,0))/\b.length+sp.length=cap/\cap<=maxLen/\Below W0.heap.size W0 W':=by
 have hp0:=hp;obtain⟨mv,ov,dv,av,rfl,_⟩:=Ie hp;obtain⟨ba,bc,rfl,_⟩:=Ve hb;have hbX:=iL (eD W0.heap.size W0) (aS _) (.cells #[.bool p.sm,.bool p.m,.bool p.st,.int .i64 p.ty,.bool p.sq,.int .u16 p.seq,.bool p.dY,.int .u32 p.time,.bool p.ss,.int .u32 p.bZ,mv,ov,dv,av,.bool p.np] 29);have hst:=aei _ (aX.below hbX) _ _ p b (qh hp0 hbX) (qh hb hbX) hbl few num;rw[hE,show dN b=k from hkk,show strokes p k=L from hL]at hst;have akK:=aX.below hbX;have akR:=qh hb hbX;clear hp hp0 hb aX;go_enter func75,ntmps75
 go_wp2_with (first
  |(go_at_call 119;refine hst.mono ?_;rintro e W1 ⟨v,rfl,hb1,h1⟩;obtain⟨xs,hown,hsk⟩:=h1 rfl;obtain⟨va,vc,rfl,hcells⟩:=aAl hown;clear hst;have FT:=akK.below hb1;have akQ:=qh akR hb1)
  |(go_at_call 77;refine(azL W1 FT _ b akQ hbl h0).mono ?_;rintro e W2 ⟨g,cap,et,sp,rfl,hg,hrow,hcap,hmax,hb2⟩)
  |fail)
 clear akK akR;have Qf:Below W0.heap.size W0 W1:=hbX.trans (hb1.mono (by simp));clear hb1 hown h1 hbX;go_loopw [25] (fun P wr=>∃i:Nat,P=.int .i64 (i:Int)/\i<=L.length/\Below W1.heap.size W1 wr/\Hid (wr.heap[g]?=some (.cells (vb ((L.take i).foldl (yj p (kQ k)) b)++sp).toArray et (0,0))))
  (fun P _=>L.length-(intOf P).toNat)
 case atStart=>exact⟨0,rfl,cu _,hb2,hrow⟩
 case round=>
  obtain⟨i,rfl,hi,hbr,hgr⟩:=hrel;by_cases hil:i<L.length
  .have i1:(i:Int)<L.length:=by omega
   obtain⟨s,hs⟩:∃s,L[i]?=some s:=⟨_,nL hil⟩;have hsm:s∈L:=Jg hs;obtain⟨f,x0,x1,x2,x3,hdr⟩:=hsk.at hs;obtain⟨gs,rfl,qH,hlt,y0⟩:=hcells _ _ x0;obtain⟨g1,e1,_,_,y1⟩:=hcells _ _ x1;obtain⟨g2,e2,_,_,y2⟩:=hcells _ _ x2;obtain⟨g3,e3,_,_,y3⟩:=hcells _ _ x3;cases e1;cases e2;cases e3;have z0:wr.cell? ⟨gs,i*4,none⟩=_:=(hbr.cell (p:=⟨gs,i*4,none⟩) hlt).trans y0;have z1:wr.cell? ⟨gs,i*4+1,none⟩=_:=(hbr.cell (p:=⟨gs,i*4+1,none⟩) hlt).trans y1;have z2:wr.cell? ⟨gs,i*4+2,none⟩=_:=(hbr.cell (p:=⟨gs,i*4+2,none⟩) hlt).trans y2;have z3:wr.cell? ⟨gs,i*4+3,none⟩=_:=(hbr.cell (p:=⟨gs,i*4+3,none⟩) hlt).trans y3;have hlen:=axX hok i;obtain⟨ok1,ok2⟩:=hok s hsm;have hs1:=hsz s hsm;generalize hbs:(L.take i).foldl (yj p (kQ k)) b=bs at hgr hlen;have hgl:g<wr.heap.size:=(iX.1 (show wr.heap[g]?=_ from hgr)).1;have hb3:=hbr.alloc hbr.size (.cells #[.int .i64 s.field,.int .i64 (s.pos:Int),.int .i64 (s.size:Int),f] 231);have hg3:(wr.alloc (.cells #[.int .i64 s.field,.int .i64 (s.pos:Int),.int .i64 (s.size:Int),f] 231)).heap[g]?=_:=(lX _ _ _ hgl).trans hgr;obtain⟨F,caps,hF,rfl,hcall⟩:=(hdr.mono (W':=wr.alloc (.cells #[.int .i64 s.field,.int .i64 (s.pos:Int),.int .i64 (s.size:Int),f] 231)) (M':=fun _=>True) hb3.size (fun b _ hlt=>⟨hb3.block b hlt,trivial⟩)).draws _ (FT.below hb3) _ _ _ _ _ hty (akM s hsm) g s.pos s.size (cap-s.pos) ((bs.drop s.pos).take s.size) hs1 (by rw[awV _ _ _ (by omega) hs1];exact azI hg3 (by omega));have hone:=hdr.one;have aAy:=fun(P:Program) (w:World) (a:Addr) (m:Mode)=>run_store P w a (.func (.func F) #[] caps) m hone;obtain⟨d,hd⟩:∃d,s.dr.draw p (kQ k) ((bs.drop s.pos).take s.size)=d:=⟨_,rfl⟩;have hdl:d.length=s.size:=by rw[<-hd];exact ok1 _
   rw[show decide (k.aQ=48862)=kQ k from rfl,hd]at hcall;have hfit:s.pos+(vb d).length<=(vb bs++sp).length:=by simp[vb];omega
   have hmin:(vb d).length=Nat.min d.length s.size:=by
    show _=min d.length s.size;rw[hdl,Nat.min_self];simpa[vb]using hdl
   have u8i:=ayv;have hv1:=azV d;have hfin:Hid (_root_.Go.splice (vb bs++sp) s.pos (vb d)=vb ((L.take (i+1)).foldl (yj p (kQ k)) b)++sp):=by
    show _=_;rw[avX _ _ _ _ (by omega),zm,hs,F9,Ga,hbs,<-hd];rfl
   have hend:Hid (∀w5:World,Below W1.heap.size W1 w5->w5.heap[g]?=some (.cells (_root_.Go.splice (vb bs++sp) s.pos (vb d)).toArray et (0,0))->
     (∃i1:Nat,Value.int .i64 ((i:Int)+1)=.int .i64 (i1:Int)/\i1<=L.length/\Below W1.heap.size W1 w5/\Hid (w5.heap[g]?=some (.cells (vb ((L.take i1).foldl (yj p (kQ k)) b)++sp).toArray et (0,0))))/\
      L.length-(intOf (Value.int .i64 ((i:Int)+1))).toNat<L.length-(intOf (Value.int .i64 (i:Int))).toNat):=by
    intro w5 hb6 hg5;refine⟨⟨i+1,azv i,hil,hb6,?_⟩,ax1 i _ hil⟩;show _=_;rw[<-show _=_ from hfin];exact hg5
   have HK:Hid ((vb d).length=Nat.min d.length s.size/\s.pos+(vb d).length<=(vb bs++sp).length/\∀v∈vb d,v.oneCell'=true):=⟨hmin,hfit,hv1⟩;clear hfin hd hbs hs akM hsz hmin hfit hv1 hok hcells hsk hdl hlen hsm ok1 hgr y0 y1 y2 y3 x0 x1 x2 x3 hkk hL hdr hE few num hty h0 Qf hb2 hrow hmax akQ FT;have hcf:∀(vs:Array Value) (w:World),Sem.run prog (callFunc F vs) w=.ok (.enter F vs) w:=by
    rcases hF with rfl|rfl|rfl|rfl;all_goals
     intro vs w;kernel_rfl
   clear hF;go_wp2_with (first
    |(with_reducible refine hcall.mono ?_;rintro e w3 ⟨r,rfl,hr,hb4⟩;obtain⟨ra,rc,rfl,HS⟩:=az2 hr;have hg4:=(hb4.block g (by simp;omega)).trans hg3;have hb5:=hb3.trans (hb4.mono hb3.size);clear hcall hr hb4 hg3 hb3 hone aAy)
    |((with_reducible show wpList _ _ _ _ _ _);refine wpList_copy_splice (o:=⟨some 46,_,_,_,_,_⟩) rfl (.tmp 41) (.tmp 45) 22 22 rfl 5 underlying22 u8i _ _ _ _ _ _ rfl rfl g s.pos (vb bs++sp) et hg4 (vb d) HK.out.1 (fun h=>⟨rfl,HS.out h⟩) HK.out.2.1 HK.out.2.2 W1.heap.size W1 hb5 hg ?_;intro w5 hg5 hb6;clear HS hg4 hb5 hbr z0 z1 z2 z3)
    |fail)
   exact hend.out w5 hb6 hg5
  obtain rfl:i=L.length:=by omega
  have i1:¬(L.length:Int)<L.length:=by omega
  rw[jQ]at hgr;go_wp2
  refine fD (nN rfl _ _ _) rfl ?_;exact⟨g,cap,rfl,zw Qf.size hg,et,sp,hgr,hcap,hmax,Qf.trans (hbr.mono Qf.size)⟩
def Ea(p:Pl)(b:List UInt8):List UInt8:=if kT p b=0 then aj1 p (dN b) b else []
theorem auS(W0:World)(aX:KW prog W0)(pv bv:Value)(p:Pl)(b:List UInt8)(hp:bV W0 (fun b=>b<W0.heap.size) ig pv (iC p))(hb:bV W0 (fun b=>b<W0.heap.size) aV bv (B b))(hbl:b.length<=1000000)(few:lJ p)(num:fO p)(E:Int)(hE:Hid (kT p b=E))(h0:E≠0):
  Calls prog 75 #[pv,bv] W0 fun e W'=>e=.returned (.tuple #[.slice none 0 0,.int .i64 E])/\Below W0.heap.size W0 W':=by
 have hp0:=hp;obtain⟨mv,ov,dv,av,rfl,_⟩:=Ie hp;obtain⟨ba,bc,rfl,_⟩:=Ve hb;have hbX:=iL (eD W0.heap.size W0) (aS _) (.cells #[.bool p.sm,.bool p.m,.bool p.st,.int .i64 p.ty,.bool p.sq,.int .u16 p.seq,.bool p.dY,.int .u32 p.time,.bool p.ss,.int .u32 p.bZ,mv,ov,dv,av,.bool p.np] 29);have hst:=aei _ (aX.below hbX) _ _ p b (qh hp0 hbX) (qh hb hbX) hbl few num;rw[show kT p b=E from hE]at hst;clear hp hp0 hb aX;go_enter func75,ntmps75
 go_wp2_with (first
  |(go_at_call 119;refine hst.mono ?_;rintro e W1 ⟨v,rfl,hb1,h1⟩;clear hst h1)
  |fail)
 refine fD (nN rfl _ _ _) rfl ?_;exact⟨rfl,hbX.trans (hb1.mono (by simp))⟩
theorem aBi{w:World}{N:Nat->Prop}{g cap:Nat}{bs:List UInt8}{sp:List Value}{et:TypeId}(h:w.heap[g]?=some (.cells (vb bs++sp).toArray et (0,0)))(hc:bs.length+sp.length=cap)(hm:cap<=maxLen)(hN:N g):bV w N aV (.slice (some ⟨g,0,none⟩) bs.length cap) (B bs):=by
 have hl:(C.toList (B bs)).length=bs.length:=by simp[ofBytes]
 have hvl:(vb bs).length=bs.length:=by simp[vb]
 refine⟨[_],zK (B:=fun _=>True) (et:=et) (s:=.int .u8) (xs:=vb bs) ⟨by rw[hl];simp[Sh.size,vb],.inr ⟨g,cap,(vb bs++sp).toArray,by rw[hl],trivial,h,by rw[hl];omega,hm,?_,?_⟩⟩ (row_of bs) (fun g' e=>by cases e;exact hN),rfl⟩
 .simp only[ni,cO,hvl,Sh.size,Nat.mul_one];exact hc
 rw[hl];simp only[Sh.size,Nat.mul_one];rw[<-hvl,List.take_left'];rfl
theorem azZ{b:List UInt8}(he:fE b=0):12+4*(dN b).hd.eU.length+(if(dN b).hd.ext then 4+(dN b).ext.length else 0)<=b.length:=by
 obtain⟨_,_,kt,kl⟩:=Pk.same b he;have h1:=MN (dN b) _ kt.1;rw[<-kl]at h1;rw[h1];unfold Pk.sum;omega
theorem ayF(W0:World)(aX:KW prog W0)(pv bv:Value)(p:Pl)(b:List UInt8)(hp:bV W0 (fun b=>b<W0.heap.size) ig pv (iC p))(hb:bV W0 (fun b=>b<W0.heap.size) aV bv (B b))(hbl:b.length<=1000000)(few:lJ p)(num:fO p):
  Calls prog 75 #[pv,bv] W0 fun e W'=>∃r,e=.returned (.tuple #[r,.int .i64 (kT p b)])/\bV W' (fun b=>W0.heap.size<=b) aV r (B (Ea p b))/\Below W0.heap.size W0 W':=by
 by_cases hE:kT p b=0
 .obtain ⟨he,hk,hs⟩:=aiL hE;obtain⟨y,hy⟩:=o9.1 hs;obtain⟨hpr,_⟩:=Gz hy;obtain⟨kr,ko,kt,kl⟩:=Pk.same b he;have hlen:b.length=(dN b).sum:=by
   have h1:=MN (dN b) _ kt.1;rwa[<-kl]at h1
  have hok:=auN hk hy b.length (azZ he);have h0:b≠[]:=by
   rintro rfl;unfold Pk.sum at hlen;simp at hlen;omega
  have hll:(strokes p (dN b)).length<=3000000000000:=by
   have hl0:=Kj (pO p (kQ (dN b)) (wR (dN b))) 2000000 (fun a=>NS p _ _ a few.1 few.2.1) (spots (dN b).aQ (dN b).ext).1;have hl1:=Gv (dN b).aQ (dN b).ext;have hl2:=agi p;have hl3:(dN b).ext.length<=1000000:=by
    unfold Pk.sum at hlen;cases hx:(dN b).hd.ext with
    |true=>rw[hx,aC rfl]at hlen;omega
    |false=>rw[(kr.1.2.2.2.1 hx).2];simp
   have hl4:(strokes p (dN b)).length<=(tV p).length+((spots (dN b).aQ (dN b).ext).1.flatMap (pO p (kQ (dN b)) (wR (dN b)))).length:=by
    unfold strokes DI;rw[cO];split
    .exact aS _
    .simp
   omega
  refine(auR W0 aX pv bv p b _ rfl hp hb hbl few num hE h0 _ rfl hok (atp hok) (atq hpr) ⟨hpr.1.2.2.2.2.2.1,hpr.1.2.2.2.2.2.2⟩ hll).mono ?_;rintro e W' ⟨g,cap,rfl,hg,et,sp,hrow,hcap,hmax,hbe⟩;refine⟨_,by rw[hE],?_,hbe⟩;have hl5:=(SY _ b hok).1;unfold Ea;rw[aC hE];rw[<-hl5];exact aBi hrow (by rw[hl5];exact hcap) hmax hg
 refine (auS W0 aX pv bv p b hp hb hbl few num _ rfl hE).mono ?_;rintro e W' ⟨rfl,hbe⟩;refine⟨_,rfl,?_,hbe⟩;unfold Ea;rw[zq hE];exact⟨[_],⟨none,0,rfl,aS _,cu _,fun h=>absurd rfl h⟩,rfl⟩
abbrev atZ:FuncId:=75
theorem asq(p:Pl)(b:List UInt8)(hb:b.length<=1000000)(few:lJ p)(num:fO p):PC prog atZ [(ig,iC p),(aV,B b)] [(aV,B (Ea p b)),(I64,.int (kT p b))]:=by
 refine PC.qX (by decide) ⟨⟨_,func75,by kernel_rfl,by kernel_rfl⟩,fun w N vs aX hrd=>?_⟩;obtain⟨v,r,rfl,hp,v2,r2,rfl,hb2,hr⟩:=hrd;simp only[fI]at hr;subst hr;refine(ayF w aX v v2 p b (O8 hp) (O8 hb2) hb few num).mono ?_;rintro e w' ⟨r,rfl,hr,hbe⟩;exact⟨_,rfl,⟨[r,.int .i64 (kT p b)],⟨_,_,rfl,hr.mono (aS _) fun b h _=>⟨rfl,.inr h⟩,⟨_,_,rfl,⟨_,rfl,rfl⟩,rfl⟩⟩,rfl⟩,hbe⟩
end Go.Vc
namespace Go.Vc
open Go Go.Proofs Go.Plain Tryz
def Kw(b:List UInt8):Prop:=2<=b.length/\128<=at_ b 0/\at_ b 0<=191/\at_ b 1/32≠6
instance(b:List UInt8):Decidable (Kw b):=by unfold Kw;exact inferInstance
theorem axh{p:Pl}{b:List UInt8}{x:Pk}(he:fE b=0)(hk:nY p)(hr:(dN b).right)(hx:behind p (dN b)=some x):kT p b=0:=by
 unfold kT;rw[zq (fun h=>h he),aC];refine⟨hk,?_⟩;unfold iU;rw[zq (fun h=>h hr),hx];rfl
end Go.Vc
namespace Go.Vc
open Go Go.Proofs Go.Plain Go.RowKit Go.Shelf Tryz
abbrev Xi:Sh:=.dB 224 .je
abbrev abG:FuncId:=74
theorem aBC(W:World)(v:Value):(Instr.typeAssert (.iface 224 v) 163 224 true).run prog W=.ok (.tuple #[v,.bool true]) W:=by kernel_rfl
theorem aBD(W:World)(v:Value):(Instr.typeAssert (.iface 224 v) 163 223 true).run prog W=.ok (.tuple #[.agg #[],.bool false]) W:=by kernel_rfl
theorem auD(W0:World):
  Calls prog 74 #[.iface 224 (.agg #[])] W0 fun e W'=>e=.returned (.int .i64 1)/\Below W0.heap.size W0 W':=by
 have a1:=aBC;have a2:=aBD;go_enter func74,ntmps74
 go_wp2
 refine fD (Az rfl _ _ _) rfl ?_;exact⟨rfl,iL (eD _ _) (aS _) _⟩
theorem aai:PC prog abG [(Xi,.ls [])] [(I64,.int 1)]:=by
 refine PC.qX (by decide) ⟨⟨_,func74,by kernel_rfl,by kernel_rfl⟩,fun w N vs aX hrd=>?_⟩;obtain⟨v,r,rfl,⟨us,⟨Jl,rfl,h0⟩,rfl⟩,hr⟩:=hrd;simp only[Rd]at h0;simp only[fI]at hr;subst hr h0;refine(auD w).mono ?_;rintro e w' ⟨rfl,hbe⟩;exact⟨_,rfl,⟨[.int .i64 1],⟨_,_,rfl,⟨_,rfl,rfl⟩,rfl⟩,rfl⟩,hbe⟩
theorem PU:∀x:Nat,x<256->arith .shr .u8 x 6=((x/64:Nat):Int):=by decide+kernel
theorem anx(b:List UInt8)(hm:Kw b):PC prog JB [(aV,B b)] [(Xi,.ls [])]:=by
 obtain⟨h1,h2,h3,h4⟩:=hm;apply MC rfl;have i0:Int.toNat 0=0:=rfl;have i1:Int.toNat 1=1:=rfl;have e6:=PU (at_ b 0) (gN b 0);simp only[JA,aJ,aG,bD,mR,i0,i1,uj,e6];refine⟨fun _=>by omega,fun hc=>?_,fun _=>⟨by omega,fun _=>by omega,fun hc=>?_,fun _=>trivial⟩⟩
 .exfalso;omega
 exfalso;omega
theorem abC(b:List UInt8)(hb:b.length<=1000000):PC prog Yd [(.je,.ls []),(aV,B b)] [(I64,.int (fE b))]:=by
 apply ama rfl;simp only[XV,aJ,aG];exact⟨_,_,JD b hb,rfl⟩
theorem anz(b:List UInt8)(hm:Kw b)(hb:b.length<=1000000):PC prog QV [(aV,B b)] [(I64,.int (if fE b=0 then 1 else 3)),(I64,.int (fE b))]:=by
 apply YX rfl;simp only[QI,aJ,aG,bD];have h2:=hm.1;refine⟨fun hc=>?_,fun hc=>⟨fun hc=>by omega,fun _=>⟨_,anx b hm,_,abC b hb,fun he=>?_,fun he=>⟨_,aai,?_⟩⟩⟩⟩
 .have:fE b=4:=by unfold fE;rw[aC (by omega)]
  rw[this];rfl
 .have he:fE b≠0:=he;rw[zq he]
 have he:fE b=0:=he;rw[aC he,he]
def CB(p:Pl)(b:List UInt8)(room:Int):Int:=if fE b≠0 then fE b else if iU p (dN b)≠0 then iU p (dN b)else yx (yY p (dN b)) room
def Mw(p:Pl)(b:List UInt8)(room:Int):List UInt8:=if CB p b room=0 then(yY p (dN b)).bytes else []
theorem ahv{k:Pk}(h:k.right):k.ext.length<=1000000/\k.pay.length<=1000000/\k.pad<=1000000:=by
 obtain⟨h1,h2⟩:=h;unfold Pk.sum at h2;obtain⟨_,_,h3,h4,h5⟩:=h1;refine⟨by omega,by omega,by omega⟩
theorem aBG{p:Pl}{k:Pk}(hn:fO p)(ho:k.ok)(h:iU p k=0):(yY p k).right/\(yY p k).ok/\behind p k=some (yY p k)/\k.right:=by
 unfold iU at h;split at h
 .cases h
 .rename_i hr;have hr:=Classical.not_not.1 hr;split at h
  next hs=>obtain⟨x,hx⟩:=o9.1 hs;obtain⟨_,e⟩:=KD hr hx;rw[e];exact⟨(afW hn ho hx).1,(afW hn ho hx).2,hx,hr⟩
  cases h
theorem aqY(p:Pl)(b:List UInt8)(room:Int)(hb:b.length<=1000000)(few:lJ p)(num:fO p):PC prog acD [(ig,iC p),(aV,B b),(I64,.int room)] [(aV,B (Mw p b room)),(I64,.int (CB p b room))]:=by
 apply ao5 rfl;simp only[aaM,aJ,aG];refine⟨_,_,JD b hb,fun he=>?_,fun he=>?_⟩
 .have he:fE b≠0:=he;have e:CB p b room=fE b:=by unfold CB;rw[aC he]
  unfold Mw;rw[e,zq he];rfl
 have he:fE b=0:=he;obtain⟨kr,ko,_,_⟩:=Pk.same b he;have e0:uR b=dN b:=by unfold uR;rw[aC he]
 obtain⟨l1,l2,l3⟩:=ahv kr;rw[e0];refine⟨_,_,aby p (dN b) few num ko l1 l2 l3,fun ha=>?_,fun ha=>?_⟩
 .have ha:iU p (dN b)≠0:=ha;have e:CB p b room=iU p (dN b):=by unfold CB;rw[zq (fun h=>h he),aC ha]
  unfold Mw;rw[e,zq ha];rfl
 have ha:iU p (dN b)=0:=ha;obtain⟨xr,xo,_,_⟩:=aBG num ko ha;obtain⟨m1,m2,m3⟩:=ahv xr;refine⟨_,_,aoo _ room xo m1 m2 m3,?_⟩;have e:CB p b room=yx (yY p (dN b)) room:=by unfold CB;rw[zq (fun h=>h he),zq (fun h=>h ha)]
 unfold Mw LG;rw[e]
abbrev PO:Sh:=.jc aV (.jc ig (.jc .bool (.jc I64 .je)))
abbrev I7(b:List UInt8)(p:Pl)(st:Bool)(room:Int):C:=.ls [B b,iC p,.bool st,.int room]
def Jo(p:Pl)(b:List UInt8)(st:Bool)(room:Int):Int:=if st then kT p b else CB p b room
def Mk(p:Pl)(b:List UInt8)(st:Bool)(room:Int):List UInt8:=if st then Ea p b else Mw p b room
theorem azg{p:Pl}{b:List UInt8}{st:Bool}{room:Int}(h:Jo p b st room≠0):Mk p b st room=[]:=by
 unfold Jo Mk at*;cases st with
 |true=>exact zq h
 |false=>exact zq h
theorem abA(p:Pl)(b:List UInt8)(st:Bool)(room:Int)(hb:b.length<=1000000)(few:lJ p)(num:fO p):PC prog acT [(PO,I7 b p st room)] [(aV,B (Mk p b st room)),(I64,.int (Jo p b st room))]:=by
 apply apm rfl;simp only[aa2,aJ,aG];refine⟨fun h=>?_,fun h=>?_⟩
 .obtain rfl:st=true:=h;exact⟨_,_,asq p b hb few num,rfl⟩
 obtain rfl:st=false:=h;exact⟨_,_,aqY p b room hb few num,rfl⟩
abbrev Md:Sh:=.jc I64 (.jc I64 (.jc aV (.jc I64 .je)))
abbrev Xh(w e:Int)(o:List UInt8):C:=.ls [.int w,.int e,B o,.int o.length]
def Mi(p:Pl)(b:List UInt8)(st:Bool)(room:Int):C:=if fE b=0 then Xh 1 (Jo p b st room) (Mk p b st room)else Xh 3 (fE b) []
theorem amZ(p:Pl)(b:List UInt8)(st:Bool)(room:Int)(hm:Kw b)(hb:b.length<=1000000)(few:lJ p)(num:fO p):PC prog QW [(PO,I7 b p st room)] [(Md,Mi p b st room)]:=by
 apply YZ rfl;simp only[QJ,aJ,aG];refine⟨_,_,anz b hm hb,fun he=>?_,fun he=>⟨fun hw=>⟨_,_,abA p b st room hb few num,?_⟩,fun hw=>?_⟩⟩
 .have he:fE b≠0:=he;unfold Mi;rw[zq he,zq he];rfl
 .have he:fE b=0:=he;unfold Mi;rw[aC he,aC he];by_cases h:Jo p b st room=0
  .simp[h]
  .simp[h,azg h]
 exact absurd (aC (show fE b=0 from he)) hw
def itB(l:List It):List UInt8:=aCw (l.map It.car)
structure Trn (l:List It):Prop where
 ne:l≠[]
 ok:∀x∈l,x.ok
 pad:∀i,i+1<l.length->(l.getD i .sN).p=0
 len:(itB l).length<=65535
abbrev IfC:Sh:=.dB 223 .je
theorem aBE(W:World)(v:Value):(Instr.typeAssert (.iface 223 v) 163 224 true).run prog W=.ok (.tuple #[.agg #[],.bool false]) W:=by kernel_rfl
theorem aBF(W:World)(v:Value):(Instr.typeAssert (.iface 223 v) 163 223 true).run prog W=.ok (.tuple #[v,.bool true]) W:=by kernel_rfl
theorem arZ(W0:World):
  Calls prog 74 #[.iface 223 (.agg #[])] W0 fun e W'=>e=.returned (.int .i64 2)/\Below W0.heap.size W0 W':=by
 have a1:=aBE;have a2:=aBF;go_enter func74,ntmps74
 go_wp2
 refine fD (Az rfl _ _ _) rfl ?_;exact⟨rfl,iL (iL (eD _ _) (aS _) _) (by simp) _⟩
theorem anw:PC prog abG [(IfC,.ls [])] [(I64,.int 2)]:=by
 refine PC.qX (by decide) ⟨⟨_,func74,by kernel_rfl,by kernel_rfl⟩,fun w N vs aX hrd=>?_⟩;obtain⟨v,r,rfl,⟨us,⟨Jl,rfl,h0⟩,rfl⟩,hr⟩:=hrd;simp only[Rd]at h0;simp only[fI]at hr;subst hr h0;refine(arZ w).mono ?_;rintro e w' ⟨rfl,hbe⟩;exact⟨_,rfl,⟨[.int .i64 2],⟨_,_,rfl,⟨_,rfl,rfl⟩,rfl⟩,rfl⟩,hbe⟩
theorem amF(b:List UInt8)(h1:2<=b.length)(h2:at_ b 0/64=2)(h3:192<=at_ b 1/\at_ b 1<=223):PC prog JB [(aV,B b)] [(IfC,.ls [])]:=by
 apply MC rfl;have i0:Int.toNat 0=0:=rfl;have i1:Int.toNat 1=1:=rfl;have e6:=PU (at_ b 0) (gN b 0);simp only[JA,aJ,aG,bD,mR,i0,i1,uj,e6];refine⟨fun _=>by omega,fun hc=>?_,fun _=>⟨by omega,fun _=>by omega,fun hc=>trivial,fun hc=>?_⟩⟩
 .exfalso;omega
 exfalso;omega
theorem agb(l:List C)(h:Tm (.sl mJ) (.ls l)):∃(b:List UInt8) (e:Int),PC prog ZK [(.sl mJ,.ls l),(.bool,.bool true)] [(aV,B b),(I64,.int e)]/\b.length<=65535:=by
 have hl:=Bt h;have bad:∀e:Int,∃(b:List UInt8) (e':Int),[(aV,C.ls []),(I64,C.int e)]=[(aV,B b),(I64,.int e')]/\b.length<=65535:=fun e=>⟨[],_,rfl,by decide⟩;obtain⟨rs,⟨b,e,rfl,hb⟩,hp⟩:=tot (Post:=fun rs=>∃(b:List UInt8) (e:Int),rs=[(aV,B b),(I64,.int e)]/\b.length<=65535) (cs:=[.ls l,.bool true]) amW rfl rfl (by
  simp only[YV,aJ];refine⟨fun h=>by simp at h,fun _=>bad _,fun _=>?_⟩;refine VC.jw (fun s:List UInt8×Nat=> [.ls [],.int 0,B s.1,.int s.2]) (fun s=>s.2<=l.length/\s.1.length<=65535) (fun s=>l.length-s.2) ([],0) rfl ⟨cu _,by decide⟩ fun s hi=>?_;obtain⟨o,i⟩:=s;simp only at hi;simp only[aJ,aG,dF,bD];refine⟨fun hc=>?_,fun _=>⟨o,_,rfl,hi.2⟩⟩;obtain⟨x,e,hx⟩:=ajT (Fv h (show i<l.length by omega));obtain⟨b,eb,hw,hb⟩:=aoT x hx;rw[e];simp only[iP,jE,dV];refine⟨by omega,by omega,by omega,fun _=>bad _,fun _=>⟨_,_,hw,fun _=>by simp only[gU,bD];omega,fun _=>bad _,fun hq=>?_⟩⟩;simp only[gU,dV,bD]at hq |-;refine⟨by omega,by omega,(o++b,i+1),by simp[ofBytes],⟨by simp only;omega,by simp;omega⟩,by simp only;omega⟩)
 exact⟨b,e,hp,hb⟩
theorem amv(l:List C)(h:Tm (.sl mJ) (.ls l))(room:Int):∃(b:List UInt8) (e:Int),PC prog Y6 [(.sl mJ,.ls l),(.bool,.bool true),(I64,.int room)] [(aV,B b),(I64,.int e)]:=by
 obtain⟨b,e,hp,_⟩:=agb l h;have bad:∀e:Int,∃(b:List UInt8) (e':Int),[(aV,C.ls []),(I64,C.int e)]=[(aV,B b),(I64,.int e')]:=fun e=>⟨[],_,rfl⟩;obtain⟨rs,⟨b,e,rfl⟩,hp⟩:=tot (Post:=fun rs=>∃(b:List UInt8) (e:Int),rs=[(aV,B b),(I64,.int e)]) (cs:=[.ls l,.bool true,.int room]) amC rfl rfl (by
  simp only[Yy,aJ,aG];exact⟨_,_,hp,fun _=>bad _,fun _=>⟨fun _=>bad _,fun _=>⟨b,_,rfl⟩⟩⟩)
 exact⟨b,e,hp⟩
theorem amw(l:List C)(h:Tm (.sl mJ) (.ls l)):∃b:Bool,PC prog Y7 [(.sl mJ,.ls l),(.bool,.bool true)] [(.bool,.bool b)]:=by
 obtain⟨b,e,hp,_⟩:=agb l h;refine⟨decide (e=0),amD rfl ?_⟩;simp only[Yz,aJ,aG];exact⟨_,_,hp,rfl⟩
theorem YB(b:List UInt8)(hb:b.length<=70000):∃(l:List C) (e:Int),PC prog ZL [(aV,B b),(.bool,.bool true)] [(.sl mJ,.ls l),(I64,.int e)]/\Tm (.sl mJ) (.ls l):=by
 obtain⟨sp,es,hsp,hsl,hsb⟩:=avR b hb;have bad:∀e:Int,∃(l:List C) (e':Int),[(.sl mJ,C.ls []),(I64,C.int e)]=[(.sl mJ,.ls l),(I64,C.int e')]/\Tm (.sl mJ) (.ls l):=fun e=>⟨_,_,rfl,iN _⟩;obtain⟨rs,⟨l,e,rfl,hq⟩,hp⟩:=tot (Post:=fun rs=>∃(l:List C) (e:Int),rs=[(.sl mJ,.ls l),(I64,.int e)]/\Tm (.sl mJ) (.ls l)) (cs:=[B b,.bool true]) amX rfl rfl (by
  simp only[YW,aJ,aG,bD];refine⟨fun _=>bad _,fun _=>⟨_,_,hsp,fun _=>bad _,fun _=>?_⟩⟩;refine VC.jw (fun s:List C×Nat=> [.ls [],.int 0,.ls s.1,.int s.2]) (fun s=>s.2<=sp.length/\s.1.length=s.2/\Tm (.sl mJ) (.ls s.1)) (fun s=>sp.length-s.2) ([],0) rfl ⟨cu _,rfl,iN _⟩ fun s hi=>?_;obtain⟨o,i⟩:=s;simp only at hi;simp only[aJ,aG,bJ,dF];refine⟨fun hc=>?_,fun hc=>?_⟩
  .have hil:i<sp.length:=by omega
   have hg:(sp.map B).getD i default=B (sp.getD i []):=by simp[List.getD,hil]
   have hm:sp.getD i []∈sp:=by simp[List.getD,hil]
   obtain⟨c,e,hr,hc⟩:=aqv _ (hsb _ hm);obtain⟨x,rfl,_⟩:=ajT hc;rw[hg];refine⟨by omega,by omega,_,_,hr,fun _=>bad _,fun _=>⟨by simp;omega,by omega,(o++ [Ej x],i+1),?_,⟨by simp only;omega,by simp;omega,Ku hi.2.2 hc (by omega)⟩,by simp only;omega⟩⟩;simp
  .obtain ⟨r,hr⟩:=amw o hi.2.2;exact⟨fun h=>by simp at h,fun _=>bad _,fun _=>⟨_,hr,fun _=>bad _,fun _=>⟨_,_,rfl,hi.2.2⟩⟩⟩)
 exact⟨l,e,hp,hq⟩
theorem am7(b:List UInt8)(hb:b.length<=70000):∃e:Int,PC prog XM [(.je,.ls []),(aV,B b)] [(I64,.int e)]:=by
 obtain⟨l,e,hr,_⟩:=YB b hb;refine⟨e,alY rfl ?_⟩;simp only[XA,aJ,aG];exact⟨_,_,hr,rfl⟩
theorem am6(p:Pl)(b:List UInt8)(hb:b.length<=70000)(st:Bool)(room:Int):∃(o:List UInt8) (e:Int),PC prog aav [(PO,I7 b p st room)] [(aV,B o),(I64,.int e)]:=by
 obtain⟨l,e,hr,hl⟩:=YB b hb;obtain⟨o,eo,hw⟩:=amv l hl room;obtain⟨rs,⟨b,e,rfl⟩,hp⟩:=tot (Post:=fun rs=>∃(b:List UInt8) (e:Int),rs=[(aV,B b),(I64,.int e)]) (cs:=[I7 b p st room]) anj rfl rfl (by
  simp only[Zh,aJ,aG];exact⟨_,abx p,fun _=>⟨[],_,rfl⟩,fun _=>⟨fun _=>⟨_,MI b (by omega),_,_,rfl⟩,fun _=>⟨_,_,hr,fun _=>⟨[],_,rfl⟩,fun _=>⟨_,_,hw,_,_,rfl⟩⟩⟩⟩)
 exact⟨b,e,hp⟩
theorem azm(b:List UInt8)(h:¬(2<=b.length/\at_ b 0/64=2)):PC prog JB [(aV,B b)] [(.kP,.ls [])]:=by
 apply MC rfl;have i0:Int.toNat 0=0:=rfl;have i1:Int.toNat 1=1:=rfl;have e6:=PU (at_ b 0) (gN b 0);simp only[JA,aJ,aG,bD,mR,i0,i1,uj,e6];refine⟨fun _=>by omega,fun _=>trivial,fun hc=>?_⟩;exfalso;omega
theorem azn(b:List UInt8)(h1:2<=b.length)(h2:at_ b 0/64=2)(h3:¬(192<=at_ b 1/\at_ b 1<=223)):PC prog JB [(aV,B b)] [(Xi,.ls [])]:=by
 apply MC rfl;have i0:Int.toNat 0=0:=rfl;have i1:Int.toNat 1=1:=rfl;have e6:=PU (at_ b 0) (gN b 0);simp only[JA,aJ,aG,bD,mR,i0,i1,uj,e6];refine⟨fun _=>by omega,fun hc=>?_,fun _=>⟨by omega,fun _=>by omega,fun hc=>?_,fun _=>trivial⟩⟩
 .exfalso;omega
 exfalso;omega
theorem avS(b:List UInt8)(hb:b.length<=70000):∃w e:Int,PC prog QV [(aV,B b)] [(I64,.int w),(I64,.int e)]:=by
 by_cases h:2<=b.length/\at_ b 0/64=2
 .by_cases h3:192<=at_ b 1/\at_ b 1<=223
  .obtain ⟨er,hr⟩:=am7 b hb;obtain⟨rs,⟨w,e,rfl⟩,hp⟩:=tot (Post:=fun rs=>∃w e:Int,rs=[(I64,.int w),(I64,.int e)]) (cs:=[B b]) anc rfl rfl (by
    simp only[Zb,aJ,aG,bD];exact⟨fun _=>⟨_,_,rfl⟩,fun _=>⟨fun _=>⟨_,_,rfl⟩,fun _=>⟨_,amF b h.1 h.2 h3,_,hr,fun _=>⟨_,_,rfl⟩,fun _=>⟨_,anw,_,_,rfl⟩⟩⟩⟩)
   exact⟨w,e,hp⟩
  .obtain ⟨rs,⟨w,e,rfl⟩,hp⟩:=tot (Post:=fun rs=>∃w e:Int,rs=[(I64,.int w),(I64,.int e)]) (cs:=[B b]) YX rfl rfl (by
    simp only[QI,aJ,aG,bD];exact⟨fun _=>⟨_,_,rfl⟩,fun _=>⟨fun _=>⟨_,_,rfl⟩,fun _=>⟨_,azn b h.1 h.2 h3,_,abC b (by omega),fun _=>⟨_,_,rfl⟩,fun _=>⟨_,aai,_,_,rfl⟩⟩⟩⟩)
   exact⟨w,e,hp⟩
 obtain ⟨rs,⟨w,e,rfl⟩,hp⟩:=tot (Post:=fun rs=>∃w e:Int,rs=[(I64,.int w),(I64,.int e)]) (cs:=[B b]) anb rfl rfl (by
  simp only[Za,aJ,aG,bD];exact⟨fun _=>⟨_,_,rfl⟩,fun _=>⟨fun _=>⟨_,_,rfl⟩,fun _=>⟨_,azm b h,_,_,rfl⟩⟩⟩)
 exact⟨w,e,hp⟩
theorem atb(p:Pl)(few:lJ p)(num:fO p)(b:List UInt8)(hb:b.length<=70000)(st:Bool)(room:Int):∃(w e:Int) (o:List UInt8) (n:Int),PC prog QW [(PO,I7 b p st room)] [(Md,.ls [.int w,.int e,B o,.int n])]:=by
 obtain⟨w,e,hc⟩:=avS b hb;obtain⟨o,eo,hk⟩:=am6 p b hb st room;have hm:=abA p b st room (by omega) few num;have fin:∀(w e:Int) (o:List UInt8),∃(w' e':Int) (o':List UInt8) (n:Int),[(Md,C.ls [.int w,.int e,if(C.int e).toInt≠0 then C.ls []else B o,.int (if(C.int e).toInt≠0 then []else(B o).toList).length])]=[(Md,.ls [.int w',.int e',B o',.int n])]:=fun w e o=>by
  by_cases he:e=0
  .exact ⟨w,e,o,o.length,by simp[he]⟩
  .exact ⟨w,e,[],0,by simp[he]⟩
 obtain⟨rs,⟨w,e,o,n,rfl⟩,hp⟩:=tot (Post:=fun rs=>∃(w e:Int) (o:List UInt8) (n:Int),rs=[(Md,.ls [.int w,.int e,B o,.int n])]) (cs:=[I7 b p st room]) YZ rfl rfl (by
  simp only[QJ,aJ,aG];exact⟨_,_,hc,fun _=>⟨_,_,[],_,rfl⟩,fun _=>⟨fun _=>⟨_,_,hm,fin _ _ _⟩,fun _=>⟨fun _=>⟨_,_,hk,fin _ _ _⟩,fun _=>⟨_,_,[],_,rfl⟩⟩⟩⟩)
 exact⟨w,e,o,n,hp⟩
end Go.Vc
namespace Go.Vc
open Go Go.Proofs Go.Plain Tryz
theorem aBX:uy rG [115,101,113,32,53,32,109,97,112,32,51,32,52,32,111,118,101,114,32,51,32,34,120,34]=some pW:=by
 decide+kernel
theorem agj:kT pW bW=0/\Ea pW bW=oW:=by
 have h:kT pW bW=0:=axh PZ.1 keepW.1 (by rw[PZ.2];exact keepW.2) (by rw[PZ.2];exact aCy);refine⟨h,?_⟩;unfold Ea;rw[aC h,PZ.2];exact aBb
theorem aAj{p:Pl}{b:List UInt8}{room:Int}(h:kT p b=0):Mi p b true room=Xh 1 0 (Ea p b):=by
 unfold Mi Jo Mk;rw[aC (aiL h).1,aC rfl,aC rfl,h]
theorem axr:PC prog Yj [] [(.bool,.bool true)]:=by
 apply amg rfl;have u:=Rs [115,101,113,32,53,32,109,97,112,32,51,32,52,32,111,118,101,114,32,51,32,34,120,34] (by decide);rw[aBX]at u;have v:=amZ pW bW true 0 (by decide) (by decide) (by unfold lJ;decide) (by decide);rw[aAj agj.1,agj.2]at v;have r:=JD oW (by decide);rw[show uR oW=xW by unfold uR;rw[aC V5.1,V5.2],V5.1]at r;have t:=acr 48862 (by decide) [64,120,0,0] (by decide);rw[elW.1,elW.2]at t;simp only[X7,aJ,aG];refine⟨_,_,u,_,v,_,_,r,_,_,t,fun _=>by decide,fun _=>by decide,?_⟩;refine pX (fun x=> [(Sh.bool,C.bool x)]) ?_;decide+kernel
theorem atT(cs:List C)(h:PL [aV,ig,.str,.bool,I64] cs):PC prog X0 ([aV,ig,.str,.bool,I64].zip cs) [(.bool,.bool true)]:=by
 obtain⟨_,_,rfl,h1,_,_,rfl,h2,_,_,rfl,⟨s,rfl,hs⟩,_,_,rfl,⟨st,rfl⟩,_,_,rfl,h5,rfl⟩:=h;obtain⟨b,rfl⟩:=af9 h1;obtain⟨p,rfl,hn,o1,o2⟩:=aA6 h2;obtain⟨room,rfl,_⟩:=EW h5;apply al1 rfl;simp only[XG,aJ,aG,bD];refine⟨_,axr,fun h=>by simp at h,fun _=>⟨_,fun _=>apM p o1 o2,fun _=>trivial,fun hc=>?_⟩⟩;obtain⟨hl,hsl,hp⟩:b.length<=65536/\s.length<=3000/\Bg p:=by
  by_cases q1:Bg p<;>simp[q1]at hc |-
  omega
 have hf:=aCv hp;refine⟨_,_,Rs s (by omega),_,fun _=>abx _,fun hc=>?_,fun _=>⟨_,_,acn p hf hn,fun he=>?_,fun he=>?_⟩⟩
 .exfalso;cases hv:uy rG s with
  |none=>rw[hv]at hc;simp at hc
  |some r=>rw[hv]at hc;simp at hc
 .have hr:¬fM p:=by
   intro hr;simp[hr]at he
  refine⟨_,Q8 p hf,?_⟩;simp[hr]
 have hr:fM p:=by
  by_cases hr:fM p
  .exact hr
  .simp[hr]at he
 simp only[aC hr];have hpl:=atx hp hr hn;have pp:=Rs (nQ p) (by omega);rw[au7 hr hn]at pp;obtain⟨w,e,o,n,hq⟩:=atb p hf hn b (by omega) st room;refine⟨_,_,pp,_,hq,_,hq,?_⟩;simp
end Go.Vc
