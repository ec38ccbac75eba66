/-
  Contracts of functions of the program, each out of its condition or by a walk, and plain lemmas.
-/
import Derived.Test.YtaehhpempnelhaaGreatDoorQPy
set_option maxRecDepth 100000
namespace Go.Vc
open Go Go.Proofs Go.Plain Go.RowKit Go.Shelf Tryz
theorem Pg{w:World}{N:Nat->Prop}{s:Sh}{v:Value}{l:List C}(h:bV w N (.sl s) v (.ls l)):∃a cap,v=.slice a l.length cap/\
  ∀i c,l[i]?=some c->∃b off us,a=some ⟨b,off,none⟩/\N b/\b<w.heap.size/\pG w b (off+i*s.size) us/\Rd w N s us c:=by
 obtain⟨vs,⟨a,cap,rfl,_,_,h4⟩,rfl⟩:=h;refine⟨a,cap,rfl,fun i c hi=>?_⟩;obtain⟨b,off,e,hb,hlt,hr⟩:=h4 (by intro hn;rw[C.lF]at hn;rw[hn]at hi;simp at hi);obtain⟨us,h5,h6,h7⟩:=hr i c hi;exact⟨b,off,us,e,hb,hlt,h6,h7⟩
theorem aAr{w:World}{N:Nat->Prop}{v:Value}{l:List Mp}(h:bV w N (.sl yG) v (CG l)):∃a cap,v=.slice a l.length cap/\
  ∀i x,l[i]?=some x->∃b off,a=some ⟨b,off,none⟩/\b<w.heap.size/\w.cell? ⟨b,off+i*2,none⟩=some (.int .i64 x.fr)/\w.cell? ⟨b,off+i*2+1,none⟩=some (.int .i64 x.to):=by
 obtain⟨a,cap,rfl,hs⟩:=Pg h;refine⟨a,cap,by simp,fun i x hi=>?_⟩;obtain⟨b,off,us,e,_,hlt,hc,_,va,vb,rfl,h8,_,vc,vd,rfl,h9,h10⟩:=hs i (um x) (by simp[hi]);simp only[Rd]at h8 h9 h10;subst h8 h9 h10;exact⟨b,off,e,hlt,hc 0 _ rfl,hc 1 _ rfl⟩
theorem az3{w:World}{N:Nat->Prop}{v:Value}{l:List Sp}(h:bV w N (.sl DX) v (Ei l)):∃a cap,v=.slice a l.length cap/\
  ∀i x,l[i]?=some x->∃b off,a=some ⟨b,off,none⟩/\b<w.heap.size/\w.cell? ⟨b,off+i*3,none⟩=some (.int .i64 (x.id:Int))/\w.cell? ⟨b,off+i*3+1,none⟩=some (.int .i64 (x.pos:Int))/\w.cell? ⟨b,off+i*3+2,none⟩=some (.int .i64 (x.size:Int)):=by
 obtain⟨a,cap,rfl,hs⟩:=Pg h;refine⟨a,cap,by simp,fun i x hi=>?_⟩;obtain⟨b,off,us,e,_,hlt,hc,_,va,vb,rfl,h8,_,vc,vd,rfl,h9,_,ve,vf,rfl,h10,h11⟩:=hs i (CF x) (by simp[hi]);simp only[Rd]at h8 h9 h10 h11;subst h8 h9 h10 h11;exact⟨b,off,e,hlt,hc 0 _ rfl,hc 1 _ rfl,hc 2 _ rfl⟩
theorem aAE{w:World}{N:Nat->Prop}{v:Value}{l:List El}(h:bV w N (.sl ou) v (ny l)):∃a cap,v=.slice a l.length cap/\
  ∀i x,l[i]?=some x->∃b off d dc,a=some ⟨b,off,none⟩/\b<w.heap.size/\w.cell? ⟨b,off+i*2,none⟩=some (.int .i64 x.id)/\w.cell? ⟨b,off+i*2+1,none⟩=some (.slice d x.data.length dc)/\bV w N aV (.slice d x.data.length dc) (B x.data):=by
 obtain⟨a,cap,rfl,hs⟩:=Pg h;refine⟨a,cap,by simp,fun i x hi=>?_⟩;obtain⟨b,off,us,e,_,hlt,hc,_,va,vb,rfl,h8,_,vc,vd,rfl,h9,h10⟩:=hs i (nW x) (by simp[hi]);simp only[Rd]at h8 h10;subst h8 h10;have hd:=h9;obtain⟨d,dc,rfl,_⟩:=h9;have el:(nW x).tl.hd.toList.length=x.data.length:=by simp[C.tl,C.hd,ofBytes]
 have c1:=hc 1 _ rfl;have hd2:bV w N aV (.slice d (nW x).tl.hd.toList.length dc) (B x.data):=⟨_,hd,rfl⟩;rw[el]at c1 hd2;exact⟨b,off,d,dc,e,hlt,hc 0 _ rfl,c1,hd2⟩
def MZ(Z:Nat->Prop)(v:Value)(b:Nat):Prop:=v.ownBlock≠some b/\Z b
structure wD (Z:Nat->Prop) (Bs:Nat) (W2 W:World) (p:Pl) (aQ:Nat) (v:Value) (l:List jA) (xs:List Value):Prop where
 own:W.ownsRow Bs 231 4 v l.length xs
 sk:o8 W (MZ Z v) p aQ l xs
 gY:Below Bs W2 W
theorem wD.below{Z:Nat->Prop}{Bs:Nat}{W2 W W':World}{p:Pl}{aQ:Nat}{v:Value}{l:List jA}{xs:List Value}(h:wD Z Bs W2 W p aQ v l xs)(hz:Bs<=W.heap.size)(hb:Below W.heap.size W W'):wD Z Bs W2 W' p aQ v l xs:=
 ⟨h.own.kept (JH hb) (Ki v),h.sk.mono hb.size (fun b hm hlt=>⟨hb.block b hlt,hm⟩),h.gY.trans (hb.mono hz)⟩
theorem wD.fresh{Z:Nat->Prop}{Bs:Nat}{W2 W:World}{p:Pl}{aQ:Nat}{v:Value}{l:List jA}{xs:List Value}(h:wD Z Bs W2 W p aQ v l xs){b:Nat}(hb:W.heap.size<=b\/b<Bs)(hz:Z b):MZ Z v b:=
 ⟨fun e=>by have:=h.own.lt _ e;omega,hz⟩
theorem wD.add{Z:Nat->Prop}{Bs:Nat}{W2 W W1:World}{p:Pl}{aQ:Nat}{v v':Value}{l:List jA}{xs:List Value}{s:jA}{f:Value}(h:wD Z Bs W2 W p aQ v l xs)(hz:Bs<=W.heap.size)(hdr:kG W (MZ Z v) p aQ s.dr f)
  (hown:W1.ownsRow Bs 231 4 v' (l.length+1) (xs++ [.int .i64 s.field,.int .i64 (s.pos:Int),.int .i64 (s.size:Int),f])) (hg:W.grownBy W1 v.ownBlock) (hat:v'.ownBlock=v.ownBlock\/v'.ownBlock=some W.heap.size):
  wD Z Bs W2 W1 p aQ v' (l++ [s]) (xs++ [.int .i64 s.field,.int .i64 (s.pos:Int),.int .i64 (s.size:Int),f]):=by
 have hk:∀b,MZ Z v b->b<W.heap.size->W1.heap[b]?=W.heap[b]?/\MZ Z v' b:=by
  intro b hm hlt;refine⟨hg.block b hlt (fun e=>hm.1 e.symm),fun e=>?_,hm.2⟩;rcases hat with h1|h1
  .exact hm.1 (h1▸e)
  .rw[h1]at e;cases e;omega
 refine⟨by simpa using hown,(h.sk.mono hg.size hk).append ⟨_,[],rfl,hdr.mono hg.size hk,rfl⟩,h.gY.grown hg hz (fun k e=>(h.own.lt k e).1)⟩
theorem aBj{w:World}{N:Nat->Prop}{v:Value}{k:Pk}(h:bV w N qA v (oJ k)):∃h1 h2 h3 h4 h5 h6 h7 h8 ev yv,v=.agg #[h1,h2,h3,h4,h5,h6,h7,h8,.int .u16 (k.aQ:Int),ev,yv,.int .i64 (k.pad:Int)]/\bV w N aV ev (B k.ext):=by
 obtain⟨vs,⟨_,hd,b1,rfl,h1,_,a2,b2,rfl,h2,_,a3,b3,rfl,h3,_,a4,b4,rfl,h4,_,a5,b5,rfl,h5,h6⟩,rfl⟩:=h;have hl:=Rd.length h1;have l3:=h3;have l4:=h4;obtain⟨x3,y3,rfl,_⟩:=h3;obtain⟨x4,y4,rfl,_⟩:=h4;simp only[Rd]at h2 h5 h6;subst h2 h5 h6;match hd,hl with
 | [c1,c2,c3,c4,c5,c6,c7,c8],_=>exact⟨c1,c2,c3,c4,c5,c6,c7,c8,_,_,rfl,⟨_,l3,rfl⟩⟩
theorem axe(W0 W:World)(aX:KW prog W0)(N:Nat->Prop)(k:Pk)(ev:Value)(hev:bV W0 N aV ev (B k.ext))(hq:k.aQ<65536)(hel:k.ext.length<=1000000)(hb:Below W0.heap.size W0 W):
  Calls prog 72 #[.int .u16 (k.aQ:Int),ev] W fun e w'=>∃v,e=.returned (.tuple #[v,.int .i64 (spots k.aQ k.ext).2])/\bV w' (fun b=>N b\/W.heap.size<=b) (.sl DX) v (Ei (spots k.aQ k.ext).1)/\Below W.heap.size W w':=by
 have h:=(PC.oF (by decide) (Ra k.aQ hq k.ext hel)).2 W N [.int .u16 (k.aQ:Int),ev] (aX.below hb) ⟨_,_,rfl,⟨_,rfl,rfl⟩,_,_,rfl,hev.mono hb.size (fun b hb' hlt=>⟨hb.block b hlt,hb'⟩),rfl⟩;refine h.mono ?_;rintro e w' ⟨r,rfl,⟨vs,⟨v1,r1,rfl,hv1,v2,r2,rfl,⟨_,hv2,rfl⟩,rfl⟩,rfl⟩,hb⟩;simp only[Rd]at hv2;subst hv2;exact⟨v1,rfl,hv1,hb⟩
theorem wD.other{Z:Nat->Prop}{Bs:Nat}{W2 W:World}{p:Pl}{aQ:Nat}{v:Value}{l:List jA}{xs:List Value}(h:wD Z Bs W2 W p aQ v l xs){b:Nat}{c:Array Value}{t:TypeId}{fz:Nat×Nat}(hb:W.heap[b]?=some (.cells c t fz))(ht:t≠231):v.ownBlock≠some b:=by
 intro e;rcases h.own.2 with⟨hu,_⟩|⟨g,cap,cur,hu,_,hc,_⟩
 .rw[hu]at e;simp[Value.ownBlock]at e
 rw[hu]at e;obtain rfl:g=b:=by simpa[Value.ownBlock]using e
 have he:=hb.symm.trans hc;simp only[dP,Obj.cells.injEq]at he;exact ht he.2.1
theorem OW{w:World}{base base' size n:Nat}{e:TypeId}{v:Value}{xs:List Value}(h:w.ownsRow base e size v n xs)(hb:base'<=base):w.ownsRow base' e size v n xs:=by
 refine⟨h.1,?_⟩;rcases h.2 with h|⟨g,cap,cur,h1,h2,h3⟩
 .exact .inl h
 exact .inr ⟨g,cap,cur,h1,zw hb h2,h3⟩
theorem kG.aAw{W:World}{M:Nat->Prop}(p:Pl)(aQ:Nat)(to:Int)(hM:∀b,W.heap.size<=b->M b):
  kG ((W.alloc (.cells #[.int .i64 to] 3)).alloc (.cells #[.int .u16 (aQ:Int)] 23)) M p aQ (.ug to) (.func (.func 236) #[] #[eY (W.heap.size+1),eY W.heap.size]):=by
 have b2:=Boxed.new (W.alloc (.cells #[.int .i64 to] 3)) 23 (.int .u16 (aQ:Int));rw[zo]at b2;exact⟨_,_,rfl,hM _ (by omega),hM _ (aS _),b2,(Boxed.new W _ _).alloc _⟩
theorem asK{W W1:World}{r:Option Nat}(h:W.drew.grownBy W1 r):W.grownBy W1 r:=⟨h.os,h.tape,h.output,h.size,h.block⟩
def Ad(l:List Mp)(x:Sp)(at':Nat):List jA:=(l.filter fun m=>decide (m.fr=(x.id:Int))).map (fun m=>⟨9,at',1,.ug m.to⟩)
theorem afv(l:List Mp)(m:Mp)(x:Sp)(at':Nat):Ad (l++ [m]) x at'=Ad l x at'++if m.fr=(x.id:Int)then [⟨9,at',1,.ug m.to⟩]else []:=by
 unfold Ad;rw[List.filter_append,gW];congr 1
 by_cases h:m.fr=(x.id:Int)<;>simp[h]
def Cq(l:List El)(x:Sp)(at':Nat):List jA:=(l.filter fun e=>decide (e.id=(x.id:Int)/\e.data≠[])).map (fun e=>⟨9,at',x.size,.data e.data⟩)
theorem TG(l:List El)(e:El)(x:Sp)(at':Nat):Cq (l++ [e]) x at'=Cq l x at'++if e.id=(x.id:Int)/\e.data≠[]then [⟨9,at',x.size,.data e.data⟩]else []:=by
 unfold Cq;rw[List.filter_append,gW];congr 1
 by_cases h:e.id=(x.id:Int)/\e.data≠[]<;>simp[h]
theorem Kj{α β:Type}(f:α->List β)(c:Nat)(h:∀a,(f a).length<=c):∀l:List α,(l.flatMap f).length<=l.length*c
 | []=>by simp
 |a::l=>by
  have:=h a;have:=Kj f c h l;rw[List.flatMap_cons,cO,bR,Nat.succ_mul];omega
theorem TJ(l:List Mp)(x:Sp)(a:Nat):(Ad l x a).length<=l.length:=by
 unfold Ad;rw[bJ];exact List.length_filter_le _ _
theorem ahx(l:List El)(x:Sp)(a:Nat):(Cq l x a).length<=l.length:=by
 unfold Cq;rw[bJ];exact List.length_filter_le _ _
theorem NS(p:Pl)(aD:Bool)(fr:Nat)(x:Sp)(h1:p.maps.length<=1000000)(h2:p.jf.length<=1000000):(pO p aD fr x).length<=2000000:=by
 have:=TJ p.maps x (fr+x.pos-Plain.ahead aD);have:=ahx p.jf x (fr+x.pos);show(Ad p.maps x (fr+x.pos-Plain.ahead aD)++Cq p.jf x (fr+x.pos)).length<=_;rw[cO];omega
theorem ayE(p:Pl)(aD:Bool)(fr:Nat)(x:Sp):pO p aD fr x=Ad p.maps x (fr+x.pos-Plain.ahead aD)++Cq p.jf x (fr+x.pos):=rfl
set_option maxHeartbeats 1000000 in
theorem atr(W0:World)(aX:KW prog W0)(N:Nat->Prop)(pv kv:Value)(p:Pl)(k:Pk)(fr:Nat)(hp:bV W0 N ig pv (iC p))(hk:bV W0 N qA kv (oJ k))(_:∀b,N b->b<W0.heap.size)(hq:k.aQ<65536)(hel:k.ext.length<=1000000)(hfr:16<=fr/\fr<=1000000)(he:(spots k.aQ k.ext).2=0)(few:lJ p):
  Calls prog 153 #[pv,kv,.int .i64 (fr:Int)] W0 fun e W'=>∃v xs,e=.returned v/\W'.ownsRow W0.heap.size 231 4 v ((spots k.aQ k.ext).1.flatMap (pO p (kQ k) fr)).length xs/\o8 W' (MZ (fun b=>N b\/W0.heap.size<=b) v) p k.aQ ((spots k.aQ k.ext).1.flatMap (pO p (kQ k) fr)) xs/\Below W0.heap.size W0 W':=by
 obtain⟨mv,ov,dv,av,rfl,hmv,hov,_⟩:=Ie hp;obtain⟨h1,h2,h3,h4,h5,h6,h7,h8,ev,yv,rfl,hev⟩:=aBj hk;obtain⟨ma,mc,rfl,hm⟩:=aAr hmv;obtain⟨oa,oc,rfl,ho⟩:=aAE hov;obtain⟨ea,ec,rfl⟩:∃ea ec,ev=.slice ea k.ext.length ec:=by
  obtain⟨vs,⟨a,cap,rfl,_⟩,rfl⟩:=hev;exact⟨a,cap,by simp[Sh.mk,Sh.isAgg,B,ofBytes]⟩
 obtain⟨A,hA,hA2,hcase⟩:∃A:Nat,Plain.ahead (kQ k)=A/\(1<=A/\A<=2)/\((A:Int)=1/\((k.aQ:Int)==48862)=true\/(A:Int)=2/\((k.aQ:Int)==48862)=false):=by
  unfold Plain.ahead kQ;by_cases h:k.aQ=48862
  .exact ⟨1,by simp[h],by decide,.inl ⟨rfl,by rw[h];rfl⟩⟩
  .exact ⟨2,by simp[h],by decide,.inr ⟨rfl,by simp only[Gb];omega⟩⟩
 obtain⟨fw1,fw2,_⟩:=few;obtain⟨sg1,_,_⟩:=AX k.aQ k.ext;have sg2:=TA he;have sg3:=Gv k.aQ k.ext;have hsp:=fun W hb=>axe W0 W aX N k _ hev hq hel hb;rw[he]at hsp;rw[show decide (k.aQ=48862)=kQ k from rfl,hA]at sg2;generalize (spots k.aQ k.ext).1=L at sg1 sg2 sg3 hsp |-;clear he hk hp hmv hev;generalize kQ k=aD at hA sg2 |-;generalize k.aQ=q at hcase hq hsp |-;generalize k.pad=pad;generalize k.ext=E at hel sg1 sg3 hsp |-;obtain⟨R,hR⟩:∃R,Hid (R=L.flatMap (pO p aD fr)):=⟨_,rfl⟩;rw[<-show R=_ from hR];obtain⟨i0,hi0,hz0',hz1',hz2'⟩:=yN Ul;go_enter func153,ntmps153
 have hb0:Below W0.heap.size W0 ((W0.alloc (.cells #[.bool p.sm,.bool p.m,.bool p.st,.int .i64 p.ty,.bool p.sq,.int .u16 p.seq,.bool p.dY,.int .u32 p.time,.bool p.ss,.int .u32 p.bZ,.slice ma p.maps.length mc,.slice oa p.jf.length oc,dv,av,.bool p.np] 29)).alloc (.cells #[h1,h2,h3,h4,h5,h6,h7,h8,.int .u16 (q:Int),.slice ea E.length ec,yv,.int .i64 (pad:Int)] 43)):=((eD _ W0).alloc (aS _) _).alloc (by simp) _;rcases hcase with⟨hA1,hq3⟩|⟨hA1,hq3⟩;all_goals
  go_wp2_with (go_at_call 72;refine(hsp _ hb0).mono ?_;rintro e W2 ⟨sv,rfl,hsv,hb2⟩;obtain⟨sa,sc,rfl,hs⟩:=az3 hsv)
  first|rw (occs:=.pos [5]) [<-hA1]|rw[<-hA1]
  clear hA1;have hz2:=hb2.size;simp only[zo]at hz2;have hB2:Below W0.heap.size W0 W2:=hb0.trans (hb2.mono (by simp;omega));have c12:W2.heap[W0.heap.size]?=some (.cells #[.bool p.sm,.bool p.m,.bool p.st,.int .i64 p.ty,.bool p.sq,.int .u16 p.seq,.bool p.dY,.int .u32 p.time,.bool p.ss,.int .u32 p.bZ,.slice ma p.maps.length mc,.slice oa p.jf.length oc,dv,av,.bool p.np] 29 (0,0)):=by
   rw[hb2.block _ (by simp;omega),lX _ _ _ (by simp)];exact mZ W0 _
  have c21:W2.heap[W0.heap.size+1]?=some (.cells #[h1,h2,h3,h4,h5,h6,h7,h8,.int .u16 (q:Int),.slice ea E.length ec,yv,.int .i64 (pad:Int)] 43 (0,0)):=by
   rw[hb2.block _ (by simp)];have:=mZ (W0.alloc (.cells #[.bool p.sm,.bool p.m,.bool p.st,.int .i64 p.ty,.bool p.sq,.int .u16 p.seq,.bool p.dY,.int .u32 p.time,.bool p.ss,.int .u32 p.bZ,.slice ma p.maps.length mc,.slice oa p.jf.length oc,dv,av,.bool p.np] 29)) (.cells #[h1,h2,h3,h4,h5,h6,h7,h8,.int .u16 (q:Int),.slice ea E.length ec,yv,.int .i64 (pad:Int)] 43);rw[zo]at this;exact this
  go_loopw [32,10] (fun P v wr=>∃(i:Nat) (acc0:List jA) (xs:List Value),P=.int .i64 (i:Int)/\i<=L.length/\wD (fun b=>N b\/W0.heap.size<=b) W2.heap.size W2 wr p q v acc0 xs/\Hid (acc0=(L.take i).flatMap (pO p aD fr)))
   (fun P _ _=>L.length-(intOf P).toNat)
  case atStart=>exact⟨0,[],[],rfl,cu _,⟨kF _ _ _ _,rfl,eD _ _⟩,rfl⟩
  case round=>
   obtain⟨i,acc0,xs,rfl,hi,hE,L8⟩:=hrel;by_cases hil:i<L.length
   .have i1:(i:Int)<L.length:=by omega
    obtain⟨x,hx⟩:∃x,L[i]?=some x:=⟨_,nL hil⟩;obtain⟨blk,off,rfl,hlt,e0,e1,e2⟩:=hs i x hx;have f0:wr.cell? ⟨blk,off+i*3,none⟩=_:=(hE.gY.cell (p:=⟨blk,off+i*3,none⟩) hlt).trans e0;have f1:wr.cell? ⟨blk,off+i*3+1,none⟩=_:=(hE.gY.cell (p:=⟨blk,off+i*3+1,none⟩) hlt).trans e1;have f2:wr.cell? ⟨blk,off+i*3+2,none⟩=_:=(hE.gY.cell (p:=⟨blk,off+i*3+2,none⟩) hlt).trans e2;have hzr:=hE.gY.size;have g10:∀o,(wr.alloc o).cell? ⟨W0.heap.size,10,none⟩=some (.slice ma p.maps.length mc):=fun o=>by
     have:(wr.alloc o).heap[W0.heap.size]?=_:=(lX _ _ _ (by omega)).trans ((hE.gY.block _ (by omega)).trans c12);simp[World.cell?,this]
    go_wp2
    have Ee:=hE.below hzr ((eD _ wr).alloc (aS _) (.cells #[.int .i64 (x.id:Int),.int .i64 (x.pos:Int),.int .i64 (x.size:Int)] 118));have hO:=mZ wr (.cells #[.int .i64 (x.id:Int),.int .i64 (x.pos:Int),.int .i64 (x.size:Int)] 118);have hz3:=zo wr (.cells #[.int .i64 (x.id:Int),.int .i64 (x.pos:Int),.int .i64 (x.size:Int)] 118);generalize (wr.alloc (.cells #[.int .i64 (x.id:Int),.int .i64 (x.pos:Int),.int .i64 (x.size:Int)] 118))=W3 at Ee hO hz3 |-;generalize wr.heap.size=O at*;have hxm:x∈L:=Jg hx;have sx1:=sg1 x hxm;have sx2:=sg2 x hxm;go_loopw [39,10] (fun P v w4=>∃(j:Nat) (acc:List jA) (xs:List Value),P=.int .i64 (j:Int)/\j<=p.maps.length/\wD (fun b=>N b\/W0.heap.size<=b) W2.heap.size W2 w4 p q v acc xs/\Hid (acc=acc0++Ad (p.maps.take j) x (fr+x.pos-A))/\w4.heap[O]?=some (.cells #[.int .i64 (x.id:Int),.int .i64 (x.pos:Int),.int .i64 (x.size:Int)] 118 (0,0)))
     (fun P _ _=>p.maps.length-(intOf P).toNat)
    case atStart=>exact⟨0,acc0,xs,rfl,cu _,Ee,by show _=_;simp[Ad],hO⟩
    case round=>
     obtain⟨j,acc,ys,rfl,hj,kV,hacc,hO4⟩:=hrel;have wQ:=(iX.1 hO4).1;by_cases hjl:j<p.maps.length
     .have i2:(j:Int)<p.maps.length:=by omega
      obtain⟨m,WJ⟩:∃m,p.maps[j]?=some m:=⟨_,nL hjl⟩;obtain⟨mb,mo,rfl,mlt,m0,m1⟩:=hm j m WJ;have n0:wr.cell? ⟨mb,mo+j*2,none⟩=_:=(kV.gY.cell (p:=⟨mb,mo+j*2,none⟩) (nK mlt hB2.size)).trans ((hB2.cell (p:=⟨mb,mo+j*2,none⟩) mlt).trans m0);have n1:wr.cell? ⟨mb,mo+j*2+1,none⟩=_:=(kV.gY.cell (p:=⟨mb,mo+j*2+1,none⟩) (nK mlt hB2.size)).trans ((hB2.cell (p:=⟨mb,mo+j*2+1,none⟩) mlt).trans m1);have o0:∀o,(wr.alloc o).cell? ⟨O,0,none⟩=some (.int .i64 (x.id:Int)):=fun o=>by simp[World.cell?,lX _ _ _ wQ,hO4]
      have o1:∀o,(wr.alloc o).cell? ⟨O,1,none⟩=some (.int .i64 (x.pos:Int)):=fun o=>by simp[World.cell?,lX _ _ _ wQ,hO4]
      have w1:IntKind.i64.wrap ((fr:Int)+x.pos)=(fr:Int)+x.pos:=lY (n:=(fr:Int)+x.pos) ⟨by omega,by omega⟩;have w2:IntKind.i64.wrap ((fr:Int)+x.pos-A)=(fr:Int)+x.pos-A:=lY (n:=(fr:Int)+x.pos-A) ⟨by omega,by omega⟩;by_cases hmx:m.fr=(x.id:Int)
      .have hmb:(m.fr==(x.id:Int))=true:=by simpa using hmx
       go_wp2
       have AO:=kV.below kV.gY.size (((eD _ wr).alloc (aS _) (.cells #[.int .i64 (x.id:Int),.int .i64 m.to] 127)).alloc (by simp) (.cells #[.int .i64 9,.int .i64 ((fr:Int)+x.pos-A),.int .i64 1] 56));obtain⟨WA,Ct⟩:∃WA,WA=(wr.alloc (.cells #[.int .i64 (x.id:Int),.int .i64 m.to] 127)).alloc (.cells #[.int .i64 9,.int .i64 ((fr:Int)+x.pos-A),.int .i64 1] 56):=⟨_,rfl⟩;rw[<-Ct]at AO |-;have WH:WA.heap.size=wr.heap.size+2:=by rw[Ct];simp
       have a1:WA.heap[wr.heap.size]?=some (.cells #[.int .i64 (x.id:Int),.int .i64 m.to] 127 (0,0)):=by
        rw[Ct,lX _ _ _ (by simp)];exact mZ wr _
       have a2:WA.heap[wr.heap.size+1]?=some (.cells #[.int .i64 9,.int .i64 ((fr:Int)+x.pos-A),.int .i64 1] 56 (0,0)):=by
        have:=mZ (wr.alloc (.cells #[.int .i64 (x.id:Int),.int .i64 m.to] 127)) (.cells #[.int .i64 9,.int .i64 ((fr:Int)+x.pos-A),.int .i64 1] 56);rw[zo]at this;rw[Ct];exact this
       have a3:WA.heap[W0.heap.size+1]?=_:=(AO.gY.block _ (by omega)).trans c21;have s0:WA.cell? ⟨wr.heap.size+1,0,none⟩=some (.int .i64 9):=by simp[World.cell?,a2]
       have s1:WA.cell? ⟨wr.heap.size+1,1,none⟩=some (.int .i64 ((fr:Int)+x.pos-A)):=by simp[World.cell?,a2]
       have s2:WA.cell? ⟨wr.heap.size+1,2,none⟩=some (.int .i64 1):=by simp[World.cell?,a2]
       have s3:WA.cell? ⟨wr.heap.size,1,none⟩=some (.int .i64 m.to):=by simp[World.cell?,a1]
       have s4:WA.cell? ⟨W0.heap.size+1,8,none⟩=some (.int .u16 (q:Int)):=by simp[World.cell?,a3]
       have hkeep:∀w',Below WA.heap.size WA w'->w'.cell? ⟨wr.heap.size+1,0,none⟩=some (.int .i64 9)/\w'.cell? ⟨wr.heap.size+1,1,none⟩=some (.int .i64 ((fr:Int)+x.pos-A))/\w'.cell? ⟨wr.heap.size+1,2,none⟩=some (.int .i64 1)/\w'.cell? ⟨wr.heap.size,1,none⟩=some (.int .i64 m.to)/\w'.cell? ⟨W0.heap.size+1,8,none⟩=some (.int .u16 (q:Int)):=fun w' hb=>⟨(hb.cell (p:=⟨wr.heap.size+1,0,none⟩) (by show wr.heap.size+1<_;omega)).trans s0,(hb.cell (p:=⟨wr.heap.size+1,1,none⟩) (by show wr.heap.size+1<_;omega)).trans s1,(hb.cell (p:=⟨wr.heap.size+1,2,none⟩) (by show wr.heap.size+1<_;omega)).trans s2,(hb.cell (p:=⟨wr.heap.size,1,none⟩) (by show wr.heap.size<_;omega)).trans s3,(hb.cell (p:=⟨W0.heap.size+1,8,none⟩) (by show W0.heap.size+1<_;omega)).trans s4⟩;have aO:WA.heap[O]?=some (.cells #[.int .i64 (x.id:Int),.int .i64 (x.pos:Int),.int .i64 (x.size:Int)] 118 (0,0)):=by
        rw[Ct,lX _ _ _ (by simp;omega),lX _ _ _ wQ];exact hO4
       clear Ct;have hcn:=QY ((WA.alloc (.cells #[.int .i64 m.to] 3)).alloc (.cells #[.int .u16 (q:Int)] 23)) (.int .i64 9) (.int .i64 ((fr:Int)+x.pos-A)) (.int .i64 1) (.func (.func 236) #[] #[eY (wr.heap.size+2+1),eY (wr.heap.size+2)]) 231;simp only[zo,WH]at hcn;have Ju:=((((eD _ WA).alloc (aS _) (.cells #[.int .i64 m.to] 3)).alloc (by simp) (.cells #[.int .u16 (q:Int)] 23)).alloc (by simp;omega) (.cells #[.int .i64 9,.int .i64 ((fr:Int)+x.pos-A),.int .i64 1,.func (.func 236) #[] #[eY (wr.heap.size+2+1),eY (wr.heap.size+2)]] 231));have yX:=AO.below AO.gY.size Ju;have LX:=(kG.aAw (W:=WA) p q m.to (fun b hb=>AO.fresh (.inl hb) (.inr (by omega)))).mono (W':=((WA.alloc (.cells #[.int .i64 m.to] 3)).alloc (.cells #[.int .u16 (q:Int)] 23)).alloc (.cells #[.int .i64 9,.int .i64 ((fr:Int)+x.pos-A),.int .i64 1,.func (.func 236) #[] #[eY (wr.heap.size+2+1),eY (wr.heap.size+2)]] 231)) (by simp) (fun b hb hlt=>⟨lX _ _ _ hlt,hb⟩);rw[WH]at LX;have WG:(((WA.alloc (.cells #[.int .i64 m.to] 3)).alloc (.cells #[.int .u16 (q:Int)] 23)).alloc (.cells #[.int .i64 9,.int .i64 ((fr:Int)+x.pos-A),.int .i64 1,.func (.func 236) #[] #[eY (wr.heap.size+2+1),eY (wr.heap.size+2)]] 231)).heap.size=wr.heap.size+2+1+1+1:=by simp[WH]
       have hrow:=kV.own.lt;have hone:∀u∈[Value.int .i64 9,.int .i64 ((fr:Int)+x.pos-A),.int .i64 1,.func (.func 236) #[] #[eY (wr.heap.size+2+1),eY (wr.heap.size+2)]],u.oneCell'=true:=by
        intro u hu;simp only[iR,sH,pz]at hu;rcases hu with rfl|rfl|rfl|rfl<;>rfl
       have hlen:acc.length<=3000000000000:=by
        have l1:=Kj (pO p aD fr) 2000000 (fun a=>NS p aD fr a fw1 fw2) (L.take i);have l2:=TJ (p.maps.take j) x (fr+x.pos-A);rw[jV]at l1 l2;rw[show acc=_ from hacc,show acc0=_ from L8,cO];omega
       obtain⟨t0,t1,t2,t3,t4⟩:=hkeep _ Ju;have ai7:∀w',World.grownBy (World.drew (((WA.alloc (.cells #[.int .i64 m.to] 3)).alloc (.cells #[.int .u16 (q:Int)] 23)).alloc (.cells #[.int .i64 9,.int .i64 ((fr:Int)+x.pos-A),.int .i64 1,.func (.func 236) #[] #[eY (wr.heap.size+2+1),eY (wr.heap.size+2)]] 231))) w' (Value.ownBlock u10)->w'.cell? ⟨wr.heap.size+1,0,none⟩=some (.int .i64 9)/\w'.cell? ⟨wr.heap.size+1,1,none⟩=some (.int .i64 ((fr:Int)+x.pos-A))/\w'.cell? ⟨wr.heap.size+1,2,none⟩=some (.int .i64 1)/\w'.cell? ⟨wr.heap.size,1,none⟩=some (.int .i64 m.to)/\w'.cell? ⟨W0.heap.size+1,8,none⟩=some (.int .u16 (q:Int)):=fun w' hg=>⟨hg.cell t0 (fun e=>by have:=hrow _ e.symm;simp at this<;>omega),hg.cell t1 (fun e=>by have:=hrow _ e.symm;simp at this<;>omega),hg.cell t2 (fun e=>by have:=hrow _ e.symm;simp at this<;>omega),hg.cell t3 (fun e=>by have:=hrow _ e.symm;simp at this<;>omega),hg.cell t4 (fun e=>by have:=hrow _ e.symm;simp at this<;>omega)⟩;go_region_held3 (fun w'=>w'.cell? ⟨wr.heap.size+1,0,none⟩=some (.int .i64 9)/\w'.cell? ⟨wr.heap.size+1,1,none⟩=some (.int .i64 ((fr:Int)+x.pos-A))/\w'.cell? ⟨wr.heap.size+1,2,none⟩=some (.int .i64 1)/\w'.cell? ⟨wr.heap.size,1,none⟩=some (.int .i64 m.to)/\w'.cell? ⟨W0.heap.size+1,8,none⟩=some (.int .u16 (q:Int))) (first|exact⟨s0,s1,s2,s3,s4⟩|exact hkeep _ Ju.drew|exact hkeep _ (((eD _ WA).alloc (aS _) _).alloc (by simp) _).drew|assumption|fail) (first
        |(go_at_call 197;refine(aBe _ _ _).mono ?_;rintro e w' ⟨rfl,rfl⟩)
        |(refine step_append_lies _ rfl _ _ 227 rfl W2.heap.size 231 i0 _ 4 32 underlying227 hi0 hz0' hz1' hz2' rfl (by decide) _ _ ys rfl yX.own ⟨wr.heap.size+2+1+1,0,none⟩ 1 1 [.int .i64 9,.int .i64 ((fr:Int)+x.pos-A),.int .i64 1,.func (.func 236) #[] #[eY (wr.heap.size+2+1),eY (wr.heap.size+2)]] rfl rfl hcn hone (by decide) (by simp only[maxLen];omega) (by omega) yX.gY.size (wr.heap.size+2+1+1+1) WG ?_;rintro g cap w1 hown hgrow hat hlt;have hS1:=ai7 w1 hgrow)
        |fail)
       have ec:((fr+x.pos-A:Nat):Int)=(fr:Int)+x.pos-A:=by omega
       have wu:=yX.add (s:=⟨9,fr+x.pos-A,1,.ug m.to⟩) yX.gY.size LX (by rw[ec];exact hown) (asK hgrow) (by
        rcases hat with h|h
        .exact .inl h.symm
        .exact .inr (by rw[h,WG];rfl))
       have WZ:w1.heap[O]?=some (.cells #[.int .i64 (x.id:Int),.int .i64 (x.pos:Int),.int .i64 (x.size:Int)] 118 (0,0)):=(hgrow.block O (nK (by omega) Ju.size) (fun e=>kV.other hO4 (by decide) e.symm)).trans ((Ju.block O (by omega)).trans aO);clear hown hgrow hat hlt hcn Ju yX LX WG hone hkeep ai7 t0 t1 t2 t3 t4 s0 s1 s2 s3 s4 a1 a2 a3 aO AO n0 n1 o0 o1;go_wp2
       go_roundw
       case rel=>
        refine⟨j+1,_,_,by simp,by omega,wu,?_,WZ⟩;show _=_;rw[zm,WJ,F9,afv,aC hmx,<-gJ,<-show acc=_ from hacc]
       case measure=>simp[intOf];omega
      have hmb:(m.fr==(x.id:Int))=false:=by simpa using hmx
      go_wp2
      go_roundw
      case rel=>
       refine⟨j+1,acc,ys,by simp,by omega,kV.below kV.gY.size ((eD _ wr).alloc (aS _) _),?_,by rw[lX _ _ _ wQ];exact hO4⟩;show _=_;rw[zm,WJ,F9,afv,zq hmx,lV];exact hacc
      case measure=>simp[intOf];omega
     .obtain rfl:j=p.maps.length:=by omega
      have i2:¬(p.maps.length:Int)<p.maps.length:=by omega
      have g11:wr.cell? ⟨W0.heap.size,11,none⟩=some (.slice oa p.jf.length oc):=by
       have:wr.heap[W0.heap.size]?=_:=(kV.gY.block _ (by omega)).trans c12;simp[World.cell?,this]
      rw[jQ]at hacc;go_wp2
      go_loopw [69,10] (fun P v w5=>∃(j:Nat) (Ai:List jA) (xs:List Value),P=.int .i64 (j:Int)/\j<=p.jf.length/\wD (fun b=>N b\/W0.heap.size<=b) W2.heap.size W2 w5 p q v Ai xs/\Hid (Ai=acc0++Ad p.maps x (fr+x.pos-A)++Cq (p.jf.take j) x (fr+x.pos))/\w5.heap[O]?=some (.cells #[.int .i64 (x.id:Int),.int .i64 (x.pos:Int),.int .i64 (x.size:Int)] 118 (0,0)))
       (fun P _ _=>p.jf.length-(intOf P).toNat)
      case atStart=>exact⟨0,acc,ys,rfl,cu _,kV,by show _=_;rw[show acc=_ from hacc];simp[Cq],hO4⟩
      case round=>
       clear g11 hO4 kV hacc wQ;obtain⟨j,Ai,zs,rfl,hj,kV,hacc,hO4⟩:=hrel;have wQ:=(iX.1 hO4).1;by_cases hjl:j<p.jf.length
       .have i3:(j:Int)<p.jf.length:=by omega
        obtain⟨y,hyj⟩:∃y,p.jf[j]?=some y:=⟨_,nL hjl⟩;obtain⟨eb,eo,d,dc,rfl,elt,m0,m1,hrd⟩:=ho j y hyj;have n0:wr.cell? ⟨eb,eo+j*2,none⟩=_:=(kV.gY.cell (p:=⟨eb,eo+j*2,none⟩) (nK elt hB2.size)).trans ((hB2.cell (p:=⟨eb,eo+j*2,none⟩) elt).trans m0);have n1:wr.cell? ⟨eb,eo+j*2+1,none⟩=_:=(kV.gY.cell (p:=⟨eb,eo+j*2+1,none⟩) (nK elt hB2.size)).trans ((hB2.cell (p:=⟨eb,eo+j*2+1,none⟩) elt).trans m1);have o0:∀o,(wr.alloc o).cell? ⟨O,0,none⟩=some (.int .i64 (x.id:Int)):=fun o=>by simp[World.cell?,lX _ _ _ wQ,hO4]
        have o1:∀o,(wr.alloc o).cell? ⟨O,1,none⟩=some (.int .i64 (x.pos:Int)):=fun o=>by simp[World.cell?,lX _ _ _ wQ,hO4]
        have o2:∀o,(wr.alloc o).cell? ⟨O,2,none⟩=some (.int .i64 (x.size:Int)):=fun o=>by simp[World.cell?,lX _ _ _ wQ,hO4]
        have w1:IntKind.i64.wrap ((fr:Int)+x.pos)=(fr:Int)+x.pos:=lY (n:=(fr:Int)+x.pos) ⟨by omega,by omega⟩;by_cases hyx:y.id=(x.id:Int)
        .have hyb:(y.id==(x.id:Int))=true:=by simpa using hyx
         by_cases hd0:y.data.length=0
         .have hd1:((y.data.length:Nat):Int)=0:=by omega
          have hd2:y.data=[]:=oC hd0;go_wp2
          go_roundw
          case rel=>
           refine⟨j+1,Ai,zs,by simp,by omega,kV.below kV.gY.size ((eD _ wr).alloc (aS _) _),?_,by rw[lX _ _ _ wQ];exact hO4⟩;show _=_;rw[zm,hyj,F9,TG,zq (fun h=>h.2 hd2),lV];exact hacc
          case measure=>simp[intOf];omega
         .have hd1:(0:Int)<(y.data.length:Nat):=by omega
          have hd2:y.data≠[]:=fun e=>hd0 (by rw[e];rfl);have AO:=kV.below kV.gY.size (((eD _ wr).alloc (aS _) (.cells #[.int .i64 (x.id:Int),.slice d y.data.length dc] 103)).alloc (by simp) (.cells #[.int .i64 9,.int .i64 ((fr:Int)+x.pos),.int .i64 (x.size:Int)] 56));have yX:=kV.below kV.gY.size ((((eD _ wr).alloc (aS _) (.cells #[.int .i64 (x.id:Int),.slice d y.data.length dc] 103)).alloc (by simp) (.cells #[.int .i64 9,.int .i64 ((fr:Int)+x.pos),.int .i64 (x.size:Int)] 56)).alloc (by simp;omega) (.cells #[.int .i64 9,.int .i64 ((fr:Int)+x.pos),.int .i64 (x.size:Int),.func (.func 198) #[] #[eY wr.heap.size]] 231));have hcn:=QY ((wr.alloc (.cells #[.int .i64 (x.id:Int),.slice d y.data.length dc] 103)).alloc (.cells #[.int .i64 9,.int .i64 ((fr:Int)+x.pos),.int .i64 (x.size:Int)] 56)) (.int .i64 9) (.int .i64 ((fr:Int)+x.pos)) (.int .i64 (x.size:Int)) (.func (.func 198) #[] #[eY wr.heap.size]) 231;simp only[zo]at hcn;have hlen:Ai.length<=3000000000000:=by
           have l1:=Kj (pO p aD fr) 2000000 (fun a=>NS p aD fr a fw1 fw2) (L.take i);have l2:=TJ p.maps x (fr+x.pos-A);have l3:=ahx (p.jf.take j) x (fr+x.pos);rw[jV]at l1 l3;rw[show Ai=_ from hacc,show acc0=_ from L8,cO,cO];omega
          have hone:∀u∈[Value.int .i64 9,.int .i64 ((fr:Int)+x.pos),.int .i64 (x.size:Int),.func (.func 198) #[] #[eY wr.heap.size]],u.oneCell'=true:=by
           intro u hu;simp only[iR,sH,pz]at hu;rcases hu with rfl|rfl|rfl|rfl<;>rfl
          go_wp2_with (at_builtin;refine wpList_append_lies _ rfl _ _ 227 rfl W2.heap.size 231 i0 _ 4 32 underlying227 hi0 hz0' hz1' hz2' rfl (by decide) _ _ zs rfl yX.own ⟨wr.heap.size+1+1,0,none⟩ 1 1 [.int .i64 9,.int .i64 ((fr:Int)+x.pos),.int .i64 (x.size:Int),.func (.func 198) #[] #[eY wr.heap.size]] rfl rfl hcn hone (by decide) (by simp only[maxLen];omega) (by omega) yX.gY.size (wr.heap.size+1+1+1) (by simp) ?_;rintro g cap w1 hown hgrow hat hlt)
          have hrow:=kV.own.lt;have b1:((wr.alloc (.cells #[.int .i64 (x.id:Int),.slice d y.data.length dc] 103)).alloc (.cells #[.int .i64 9,.int .i64 ((fr:Int)+x.pos),.int .i64 (x.size:Int)] 56)).heap[wr.heap.size]?=some (.cells #[.int .i64 (x.id:Int),.slice d y.data.length dc] 103 (0,0)):=by
           rw[lX _ _ _ (by simp)];exact mZ wr _
          have LX:kG (((wr.alloc (.cells #[.int .i64 (x.id:Int),.slice d y.data.length dc] 103)).alloc (.cells #[.int .i64 9,.int .i64 ((fr:Int)+x.pos),.int .i64 (x.size:Int)] 56)).alloc (.cells #[.int .i64 9,.int .i64 ((fr:Int)+x.pos),.int .i64 (x.size:Int),.func (.func 198) #[] #[eY wr.heap.size]] 231)) (MZ (fun b=>N b\/W0.heap.size<=b) u10) p q (.data y.data) (.func (.func 198) #[] #[eY wr.heap.size]):=by
           refine⟨_,_,_,rfl,kV.fresh (.inl (aS _)) (.inr (by omega)),(lX _ _ _ (by simp;omega)).trans b1,?_⟩;have AL:Below W0.heap.size W0 (((wr.alloc (.cells #[.int .i64 (x.id:Int),.slice d y.data.length dc] 103)).alloc (.cells #[.int .i64 9,.int .i64 ((fr:Int)+x.pos),.int .i64 (x.size:Int)] 56)).alloc (.cells #[.int .i64 9,.int .i64 ((fr:Int)+x.pos),.int .i64 (x.size:Int),.func (.func 198) #[] #[eY wr.heap.size]] 231)):=hB2.trans (yX.gY.mono hB2.size);exact hrd.mono AL.size (fun b hb hlt=>⟨AL.block b hlt,kV.fresh (.inr (nK hlt hB2.size)) (.inl hb)⟩)
          have wu:=yX.add (s:=⟨9,fr+x.pos,x.size,.data y.data⟩) yX.gY.size LX (by rw[show((fr+x.pos:Nat):Int)=(fr:Int)+x.pos from by omega];exact hown) hgrow (by
           rcases hat with h|h
           .exact .inl h.symm
           .exact .inr (by rw[h];simp[Value.ownBlock]))
          have WZ:w1.heap[O]?=some (.cells #[.int .i64 (x.id:Int),.int .i64 (x.pos:Int),.int .i64 (x.size:Int)] 118 (0,0)):=(hgrow.block O (by simp;omega) (fun e=>kV.other hO4 (by decide) e.symm)).trans ((lX _ _ _ (by simp;omega)).trans ((lX _ _ _ (by simp;omega)).trans ((lX _ _ _ wQ).trans hO4)));refine⟨⟨j+1,_,_,by simp,by omega,wu,?_,WZ⟩,by simp[intOf];omega⟩;show _=_;rw[zm,hyj,F9,TG,aC ⟨hyx,hd2⟩,<-gJ,<-show Ai=_ from hacc]
        have hyb:(y.id==(x.id:Int))=false:=by simpa using hyx
        go_wp2
        go_roundw
        case rel=>
         refine⟨j+1,Ai,zs,by simp,by omega,kV.below kV.gY.size ((eD _ wr).alloc (aS _) _),?_,by rw[lX _ _ _ wQ];exact hO4⟩;show _=_;rw[zm,hyj,F9,TG,zq (fun h=>hyx h.1),lV];exact hacc
        case measure=>simp[intOf];omega
       .obtain rfl:j=p.jf.length:=by omega
        have i3:¬(p.jf.length:Int)<p.jf.length:=by omega
        go_wp2
        go_roundw
        case rel=>
         refine⟨i+1,Ai,zs,by simp,by omega,kV,?_⟩;show _=_;rw[jQ]at hacc;rw[show Ai=_ from hacc,zm,hx,F9,List.flatMap_append,List.flatMap_singleton,ayE,hA,<-show acc0=_ from L8,gJ]
        case measure=>simp[intOf];omega
   obtain rfl:i=L.length:=by omega
   have i1:¬(L.length:Int)<L.length:=by omega
   go_wp2
   go_ret
   rw[jQ]at L8;obtain rfl:acc0=R:=(show acc0=_ from L8).trans (show R=_ from hR).symm;exact⟨_,rfl,xs,OW hE.own hB2.size,hE.sk,hB2.trans (hE.gY.mono hB2.size)⟩
theorem aiR{w:World}{N:Nat->Prop}{v:Value}{k:Pk}(h:bV w N qA v (oJ k)):∃ca cc ea ec ya yc,v=.agg #[.bool k.hd.pad,.bool k.hd.ext,.bool k.hd.mark,.int .i64 k.hd.typ,.int .u16 k.hd.seq,.int .u32 k.hd.time,.int .u32 k.hd.bZ,.slice ca k.hd.eU.length cc,.int .u16 (k.aQ:Int),.slice ea k.ext.length ec,.slice ya k.pay.length yc,.int .i64 (k.pad:Int)]:=by
 obtain⟨vs,⟨_,hd,b1,rfl,⟨_,a6,b6,rfl,h6,_,a7,b7,rfl,h7,_,a8,b8,rfl,h8,_,a9,b9,rfl,h9,_,a10,b10,rfl,h10,_,a11,b11,rfl,h11,_,a12,b12,rfl,h12,_,a13,b13,rfl,h13,h14⟩,_,a2,b2,rfl,h2,_,a3,b3,rfl,h3,_,a4,b4,rfl,h4,_,a5,b5,rfl,h5,h15⟩,rfl⟩:=h;obtain⟨x3,y3,rfl,_⟩:=h3;obtain⟨x4,y4,rfl,_⟩:=h4;obtain⟨x5,y5,rfl,_⟩:=h13;simp only[Rd]at h2 h5 h6 h7 h8 h9 h10 h11 h12 h14 h15;subst h2 h5 h6 h7 h8 h9 h10 h11 h12 h14 h15;refine⟨x5,y5,x3,y3,x4,y4,?_⟩;simp[Sh.mk,Sh.isAgg,C.hd,C.tl,ofBytes]
theorem O8{w:World}{N:Nat->Prop}{s:Sh}{v:Value}{c:C}(h:bV w N s v c):bV w (fun b=>b<w.heap.size) s v c:=h.mono (aS _) (fun _ _ hlt=>⟨rfl,hlt⟩)
theorem qh{w w':World}{s:Sh}{v:Value}{c:C}(h:bV w (fun b=>b<w.heap.size) s v c)(hb:Below w.heap.size w w'):bV w' (fun b=>b<w'.heap.size) s v c:=h.mono hb.size (fun b hlt _=>⟨hb.block b hlt,nK hlt hb.size⟩)
theorem aip(W:World)(aX:KW prog W)(bv:Value)(b:List UInt8)(hb:bV W (fun b=>b<W.heap.size) aV bv (B b))(hbl:b.length<=1000000):
  Calls prog 13 #[bv] W fun e w'=>∃kv,e=.returned (.tuple #[kv,.int .i64 (fE b)])/\bV w' (fun b=>b<w'.heap.size) qA kv (oJ (uR b))/\Below W.heap.size W w':=by
 refine((PC.oF (by decide) (JD b hbl)).2 W _ [bv] aX ⟨_,_,rfl,hb,rfl⟩).mono ?_;rintro e w' ⟨r,rfl,⟨vs,⟨v1,r1,rfl,hv1,v2,r2,rfl,⟨_,hv2,rfl⟩,rfl⟩,rfl⟩,hb⟩;simp only[Rd]at hv2;subst hv2;exact⟨v1,rfl,O8 hv1,hb⟩
theorem azJ(W:World)(aX:KW prog W)(pv:Value)(p:Pl)(hp:bV W (fun b=>b<W.heap.size) ig pv (iC p)):
  Calls prog 148 #[pv] W fun e w'=>e=.returned (.bool (decide (nY p)))/\Below W.heap.size W w':=by
 refine((PC.oF (by decide) (aq1 p)).2 W _ [pv] aX ⟨_,_,rfl,hp,rfl⟩).mono ?_;rintro e w' ⟨r,rfl,⟨vs,⟨v2,r2,rfl,⟨_,hv2,rfl⟩,rfl⟩,rfl⟩,hb⟩;simp only[Rd]at hv2;subst hv2;exact⟨rfl,hb⟩
theorem azK(W:World)(aX:KW prog W)(pv:Value)(p:Pl)(hp:bV W (fun b=>b<W.heap.size) ig pv (iC p)):
  Calls prog 51 #[pv] W fun e w'=>e=.returned (.bool (decide (jS p)))/\Below W.heap.size W w':=by
 refine((PC.oF (by decide) (QH p)).2 W _ [pv] aX ⟨_,_,rfl,hp,rfl⟩).mono ?_;rintro e w' ⟨r,rfl,⟨vs,⟨v2,r2,rfl,⟨_,hv2,rfl⟩,rfl⟩,rfl⟩,hb⟩;simp only[Rd]at hv2;subst hv2;refine⟨?_,hb⟩;have e1:decide (p.maps≠[]\/p.jf≠[]\/p.jg≠[]\/p.jh≠[])=decide (jS p):=decide_eq_decide.2 Iff.rfl;rw[e1];rfl
theorem aAK(W:World)(aX:KW prog W)(pv kv:Value)(p:Pl)(k:Pk)(hp:bV W (fun b=>b<W.heap.size) ig pv (iC p))(hk:bV W (fun b=>b<W.heap.size) qA kv (oJ k))(hf:lJ p)(hn:fO p)(ho:k.ok)(hb:k.ext.length<=1000000)(hpy:k.pay.length<=1000000)(hd:k.pad<=1000000):
  Calls prog 149 #[pv,kv] W fun e w'=>e=.returned (.bool (decide (iU p k=0)))/\Below W.heap.size W w':=by
 refine((PC.oF (by decide) (asw p k hf hn ho hb hpy hd)).2 W _ [pv,kv] aX ⟨_,_,rfl,hp,_,_,rfl,hk,rfl⟩).mono ?_;rintro e w' ⟨r,rfl,⟨vs,⟨v2,r2,rfl,⟨_,hv2,rfl⟩,rfl⟩,rfl⟩,hb⟩;simp only[Rd]at hv2;subst hv2;exact⟨rfl,hb⟩
theorem aCx(W:World)(aX:KW prog W)(bv:Value)(b:List UInt8)(k:Pk)(hk:Hid (dN b=k))(hb:bV W (fun b=>b<W.heap.size) aV bv (B b))(hbl:b.length<=1000000)(he:fE b=0):
  Calls prog 150 #[bv] W fun e w'=>∃lv,e=.returned (.tuple #[lv,.int .i64 0])/\bV w' (fun b=>b<w'.heap.size) (.sl vU) lv (vv (placesOf k))/\Below W.heap.size W w':=by
 have h:=atC b hbl;rw[aC he,he,show dN b=k from hk]at h;refine((PC.oF (by decide) h).2 W _ [bv] aX ⟨_,_,rfl,hb,rfl⟩).mono ?_;rintro e w' ⟨r,rfl,⟨vs,⟨v1,r1,rfl,hv1,v2,r2,rfl,⟨_,hv2,rfl⟩,rfl⟩,rfl⟩,hb⟩;simp only[Rd]at hv2;subst hv2;exact⟨v1,rfl,O8 hv1,hb⟩
theorem aAL(W:World)(aX:KW prog W)(lv:Value)(l:List fK)(hl:bV W (fun b=>b<W.heap.size) (.sl vU) lv (vv l))(hll:l.length<=100000)(f E:Int)(hE:Hid (E=if(iO l f).isSome then 0 else 8)):
  Calls prog 152 #[lv,.int .i64 f,.int .i64 0] W fun e w'=>∃x:fK,e=.returned (.tuple #[.agg #[.int .i64 x.f,.int .i64 (x.p:Int),.int .i64 (x.s:Int)],.int .i64 E])/\Hid (x=(iO l f).getD fK.zero)/\Below W.heap.size W w':=by
 refine((PC.oF (by decide) (abz l f hll)).2 W _ [lv,.int .i64 f,.int .i64 0] aX ⟨_,_,rfl,hl,_,_,rfl,⟨_,rfl,rfl⟩,_,_,rfl,⟨_,rfl,rfl⟩,rfl⟩).mono ?_;rintro e w' ⟨r,rfl,⟨vs,⟨v1,r1,rfl,hv1,v2,r2,rfl,⟨_,hv2,rfl⟩,rfl⟩,rfl⟩,hb⟩;simp only[Rd]at hv2;subst hv2;obtain rfl:=aiQ hv1;refine⟨_,?_,rfl,hb⟩;rw[show E=_ from hE];rfl
theorem aAg{w:World}{N:Nat->Prop}{v:Value}{l:List fK}(h:bV w N (.sl vU) v (vv l)):∃a cap,v=.slice a l.length cap:=by
 obtain⟨vs,⟨a,cap,rfl,_⟩,rfl⟩:=h;exact⟨a,cap,by simp[Sh.mk,Sh.isAgg]⟩
def kT(p:Pl)(b:List UInt8):Int:=if fE b≠0 then fE b else if nY p/\iU p (dN b)=0 then 0 else 9
theorem aiL{p:Pl}{b:List UInt8}(h:kT p b=0):fE b=0/\nY p/\(behind p (dN b)).isSome:=by
 unfold kT at h;split at h
 next h1=>exact absurd h h1
 .rename_i h1;split at h
  .rename_i h2;refine⟨by omega,h2.1,?_⟩;have h3:=h2.2;unfold iU at h3;split at h3
   .cases h3
   .split at h3
    .assumption
    .cases h3
  cases h
theorem acg{p:Pl}{k:Pk}(h:(iO (placesOf k) 9).isSome=false\/¬jS p):strokes p k=tV p:=by
 have e:DI p k=[]:=by
  unfold DI;split
  .rename_i hx;rcases h with h|h
   .rw[agP]at h;have hl:k.ext.length=0:=by
     by_cases h0:k.ext.length=0
     .exact h0
     .rw[aC ⟨hx,h0⟩]at h;cases h
    have hc:=Gv k.aQ k.ext;rw[oC (show(spots k.aQ k.ext).1.length=0 by omega)];rfl
   obtain ⟨h1,h2,_⟩:=afq h;rw[List.flatMap_eq_nil_iff];intro s _;unfold pO;rw[h1,h2];rfl
  .rfl
 unfold strokes;rw[e,lV]
theorem asc{p:Pl}{k x:Pk}(hx:behind p k=some x)(h:(iO (placesOf k) 9).isSome=true)(ha:jS p):
  iO (placesOf k) 9=some ⟨9,wR k,k.ext.length⟩/\(spots k.aQ k.ext).2=0/\strokes p k=tV p++(spots k.aQ k.ext).1.flatMap (pO p (kQ k) (wR k)):=by
 rw[agP]at h |-;split at h
 .rename_i hc;rw[aC hc];obtain⟨_,l,hl,_⟩:=Gz hx;rw[aC ha]at hl;obtain⟨w,hw,_⟩:=aeN hl;unfold oh at hw;rw[aC hc.1]at hw;refine⟨rfl,?_,?_⟩
  .split at hw
   .assumption
   cases hw
  .unfold strokes DI;rw[aC hc.1]
 cases h
theorem agi(p:Pl):(tV p).length<=4:=by
 unfold tV;split<;>split<;>split<;>split<;>simp
theorem ER{w:World}{b:Nat}{c0 c1 c2 c3 c4 c5 c6 c7 c8 c9 c10 c11 c12 c13 c14:Value}{t:TypeId}(h:w.heap[b]?=some (.cells #[c0,c1,c2,c3,c4,c5,c6,c7,c8,c9,c10,c11,c12,c13,c14] t (0,0))):
  w.cell? ⟨b,0,none⟩=some c0/\w.cell? ⟨b,1,none⟩=some c1/\w.cell? ⟨b,2,none⟩=some c2/\w.cell? ⟨b,3,none⟩=some c3/\w.cell? ⟨b,4,none⟩=some c4/\w.cell? ⟨b,5,none⟩=some c5/\w.cell? ⟨b,6,none⟩=some c6/\w.cell? ⟨b,7,none⟩=some c7/\w.cell? ⟨b,8,none⟩=some c8/\w.cell? ⟨b,9,none⟩=some c9/\w.cell? ⟨b,10,none⟩=some c10/\w.cell? ⟨b,11,none⟩=some c11/\w.cell? ⟨b,12,none⟩=some c12/\w.cell? ⟨b,13,none⟩=some c13/\w.cell? ⟨b,14,none⟩=some c14:=by
 simp[World.cell?,h]
theorem ES{w:World}{b:Nat}{c0 c1 c2 c3 c4 c5 c6 c7 c8 c9 c10 c11:Value}{t:TypeId}(h:w.heap[b]?=some (.cells #[c0,c1,c2,c3,c4,c5,c6,c7,c8,c9,c10,c11] t (0,0))):
  w.cell? ⟨b,0,none⟩=some c0/\w.cell? ⟨b,1,none⟩=some c1/\w.cell? ⟨b,2,none⟩=some c2/\w.cell? ⟨b,3,none⟩=some c3/\w.cell? ⟨b,4,none⟩=some c4/\w.cell? ⟨b,5,none⟩=some c5/\w.cell? ⟨b,6,none⟩=some c6/\w.cell? ⟨b,7,none⟩=some c7/\w.cell? ⟨b,8,none⟩=some c8/\w.cell? ⟨b,9,none⟩=some c9/\w.cell? ⟨b,10,none⟩=some c10/\w.cell? ⟨b,11,none⟩=some c11:=by
 simp[World.cell?,h]
structure Qy (W0 W:World) (pb kb:Nat) (pv kv bv:Value) (pc kc:Array Value) (p:Pl) (b:List UInt8) (k:Pk):Prop where
 kw:KW prog W
 pl:W.heap[pb]?=some (.cells pc 29 (0,0))
 pk:W.heap[kb]?=some (.cells kc 43 (0,0))
 rp:bV W (fun b=>b<W.heap.size) ig pv (iC p)
 rk:bV W (fun b=>b<W.heap.size) qA kv (oJ k)
 rb:bV W (fun b=>b<W.heap.size) aV bv (B b)
 gY:Below W0.heap.size W0 W
theorem Qy.below{W0 W W':World}{pb kb:Nat}{pv kv bv:Value}{pc kc:Array Value}{p:Pl}{b:List UInt8}{k:Pk}(h:Qy W0 W pb kb pv kv bv pc kc p b k)(hb:Below W.heap.size W W'):Qy W0 W' pb kb pv kv bv pc kc p b k:=
 ⟨h.kw.below hb,(hb.block pb (iX.1 h.pl).1).trans h.pl,(hb.block kb (iX.1 h.pk).1).trans h.pk,qh h.rp hb,qh h.rk hb,qh h.rb hb,h.gY.trans (hb.mono h.gY.size)⟩
theorem awE{o:Option fK}(h:Hid ((8:Int)=if o.isSome then 0 else 8)):o.isSome=false:=by
 have h:(8:Int)=if o.isSome then 0 else 8:=h
 cases ho:o.isSome with
 |false=>rfl
 |true=>rw[ho]at h;simp at h
theorem avi{o:Option fK}(h:Hid ((0:Int)=if o.isSome then 0 else 8)):o.isSome=true:=by
 have h:(0:Int)=if o.isSome then 0 else 8:=h
 cases ho:o.isSome with
 |true=>rfl
 |false=>rw[ho]at h;simp at h
end Go.Vc
