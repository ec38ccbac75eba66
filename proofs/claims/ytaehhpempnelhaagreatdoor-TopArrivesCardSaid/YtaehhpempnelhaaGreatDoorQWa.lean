/-
  The strokes of a plan's elements, walked.
-/
import Derived.Test.YtaehhpempnelhaaGreatDoorQPz
set_option maxRecDepth 100000
namespace Go.Vc
open Go Go.Proofs Go.Plain Go.RowKit Go.Shelf
theorem aqy{w:World}{N:Nat->Prop}{v:Value}{k:Pk}(h:bq w N lS v (jY k)):∃h1 h2 h3 h4 h5 h6 h7 h8 ev yv,v= .agg #[h1,h2,h3,h4,h5,h6,h7,h8,.int .u16 (k.aD:Int),ev,yv,.int .i64 (k.pad:Int)]/\bq w N aQ ev (B k.ext):=by
 obtain ⟨vs,⟨_,hd,b1,rfl,h1,_,a2,b2,rfl,h2,_,a3,b3,rfl,h3,_,a4,b4,rfl,h4,_,a5,b5,rfl,h5,h6⟩,rfl⟩:=h;have hl:=Rd.length h1;have l3:=h3;have l4:=h4;obtain ⟨x3,y3,rfl,_⟩:=h3;obtain ⟨x4,y4,rfl,_⟩:=h4;simp only[Rd] at h2 h5 h6;subst h2 h5 h6;match hd,hl with
 | [c1,c2,c3,c4,c5,c6,c7,c8],_=>exact ⟨c1,c2,c3,c4,c5,c6,c7,c8,_,_,rfl,⟨_,l3,rfl⟩⟩
theorem ang(W0 W:World)(aL:KW Tryz.prog W0)(N:Nat->Prop)(k:Pk)(ev:Value)(hev:bq W0 N aQ ev (B k.ext))(hq:k.aD<65536)(hel:k.ext.length<=1000000)(hb:Below W0.heap.size W0 W):
  Calls Tryz.prog 72 #[.int .u16 (k.aD:Int),ev] W fun e w'=>∃v,e= .returned (.tuple #[v,.int .i64 (spots k.aD k.ext).2])/\bq w' (fun b=>N b\/W.heap.size<=b) (.sl yH) v (yX (spots k.aD k.ext).1)/\Below W.heap.size W w':=by
 have h:=(PC.mq (by decide) (K8 k.aD hq k.ext hel)).2 W N [.int .u16 (k.aD:Int),ev] (aL.below hb) ⟨_,_,rfl,⟨_,rfl,rfl⟩,_,_,rfl,hev.mono hb.size (fun b hb' hlt=>⟨hb.block b hlt,hb'⟩),rfl⟩;refine h.mono ?_;rintro e w' ⟨r,rfl,⟨vs,⟨v1,r1,rfl,hv1,v2,r2,rfl,⟨_,hv2,rfl⟩,rfl⟩,rfl⟩,hb⟩;simp only[Rd] at hv2;subst hv2;exact ⟨v1,rfl,hv1,hb⟩
theorem nK.other{Z:Nat->Prop}{Bs:Nat}{W2 W:World}{p:Pl}{aD:Nat}{v:Value}{l:List fE}{xs:List Value}(h:nK Z Bs W2 W p aD v l xs){b:Nat}{c:Array Value}{t:TypeId}{fz:Nat×Nat}(hb:W.heap[b]?=some (.cells c t fz))(ht:t≠231):v.ownBlock≠some b:=by
 intro e;rcases h.own.2 with ⟨hu,_⟩|⟨g,cap,cur,hu,_,hc,_⟩
 .rw[hu] at e;simp[Value.ownBlock] at e
 .rw[hu] at e;obtain rfl:g=b:=by simpa [Value.ownBlock] using e
  have he:=hb.symm.trans hc;simp only[bQ,Obj.cells.injEq] at he;exact ht he.2.1
theorem EP{w:World}{base base' size n:Nat}{e:TypeId}{v:Value}{xs:List Value}(h:w.ownsRow base e size v n xs)(hb:base'<=base):w.ownsRow base' e size v n xs:=by
 refine ⟨h.1,?_⟩;rcases h.2 with h|⟨g,cap,cur,h1,h2,h3⟩
 .exact .inl h
 .exact .inr ⟨g,cap,cur,h1,kL hb h2,h3⟩
theorem gQ.acF{W:World}{M:Nat->Prop}(p:Pl)(aD:Nat)(to:Int)(hM:∀b,W.heap.size<=b->M b):
  gQ ((W.alloc (.cells #[.int .i64 to] 3)).alloc (.cells #[.int .u16 (aD:Int)] 23)) M p aD (.nI to) (.func (.func 236) #[] #[bJ (W.heap.size+1),bJ W.heap.size]):=by
 have b2:=Boxed.new (W.alloc (.cells #[.int .i64 to] 3)) 23 (.int .u16 (aD:Int));rw[World.size_alloc] at b2;exact ⟨_,_,rfl,hM _ (by omega),hM _ (aI _),b2,(Boxed.new W _ _).alloc _⟩
theorem V3{W W1:World}{r:Option Nat}(h:W.drew.grownBy W1 r):W.grownBy W1 r:=⟨h.os,h.tape,h.output,h.size,h.block⟩
def qm(l:List Mp)(x:Sp)(at':Nat):List fE:=(l.filter fun m=>decide (m.fr=(x.id:Int))).map (fun m=>⟨9,at',1,.nI m.to⟩)
theorem H6(l:List Mp)(m:Mp)(x:Sp)(at':Nat):qm (l++ [m]) x at'=qm l x at'++if m.fr=(x.id:Int) then [⟨9,at',1,.nI m.to⟩] else []:=by
 unfold qm;rw[List.filter_append,eB];congr 1
 by_cases h:m.fr=(x.id:Int)<;>simp[h]
def sZ(l:List El)(x:Sp)(at':Nat):List fE:=(l.filter fun e=>decide (e.id=(x.id:Int)/\e.data≠[])).map (fun e=>⟨9,at',x.size,.data e.data⟩)
theorem BH(l:List El)(e:El)(x:Sp)(at':Nat):sZ (l++ [e]) x at'=sZ l x at'++if e.id=(x.id:Int)/\e.data≠[] then [⟨9,at',x.size,.data e.data⟩] else []:=by
 unfold sZ;rw[List.filter_append,eB];congr 1
 by_cases h:e.id=(x.id:Int)/\e.data≠[]<;>simp[h]
theorem zD{α β:Type}(f:α->List β)(c:Nat)(h:∀a,(f a).length<=c):∀l:List α,(l.flatMap f).length<=l.length*c
 | []=>by simp
 |a::l=>by
  have:=h a;have:=zD f c h l;rw[List.flatMap_cons,bg,bn,Nat.succ_mul];omega
theorem Ed(l:List Mp)(x:Sp)(a:Nat):(qm l x a).length<=l.length:=by
 unfold qm;rw[aT];exact List.length_filter_le _ _
theorem NI(l:List El)(x:Sp)(a:Nat):(sZ l x a).length<=l.length:=by
 unfold sZ;rw[aT];exact List.length_filter_le _ _
theorem BG(p:Pl)(ak:Bool)(fr:Nat)(x:Sp)(h1:p.maps.length<=1000000)(h2:p.over.length<=1000000):(jF p ak fr x).length<=2000000:=by
 have:=Ed p.maps x (fr+x.pos-Plain.ahead ak);have:=NI p.over x (fr+x.pos);show (qm p.maps x (fr+x.pos-Plain.ahead ak)++sZ p.over x (fr+x.pos)).length<=_;rw[bg];omega
theorem aaW(p:Pl)(ak:Bool)(fr:Nat)(x:Sp):jF p ak fr x=qm p.maps x (fr+x.pos-Plain.ahead ak)++sZ p.over x (fr+x.pos):=rfl
set_option maxHeartbeats 1000000 in
theorem ake(W0:World)(aL:KW Tryz.prog W0)(N:Nat->Prop)(pv kv:Value)(p:Pl)(k:Pk)(fr:Nat)(hp:bq W0 N eu pv (eD p))(hk:bq W0 N lS kv (jY k))(hN:∀b,N b->b<W0.heap.size)(hq:k.aD<65536)(hel:k.ext.length<=1000000)(hfr:16<=fr/\fr<=1000000)(he:(spots k.aD k.ext).2=0)(few:iE p):
  Calls Tryz.prog 153 #[pv,kv,.int .i64 (fr:Int)] W0 fun e W'=>∃v xs,e= .returned v/\W'.ownsRow W0.heap.size 231 4 v ((spots k.aD k.ext).1.flatMap (jF p (iC k) fr)).length xs/\jG W' (MZ (fun b=>N b\/W0.heap.size<=b) v) p k.aD ((spots k.aD k.ext).1.flatMap (jF p (iC k) fr)) xs/\Below W0.heap.size W0 W':=by
 obtain ⟨mv,ov,dv,av,rfl,hmv,hov,_⟩:=uo hp;obtain ⟨h1,h2,h3,h4,h5,h6,h7,h8,ev,yv,rfl,hev⟩:=aqy hk;obtain ⟨ma,mc,rfl,hm⟩:=ap4 hmv;obtain ⟨oa,oc,rfl,ho⟩:=aqi hov;obtain ⟨ea,ec,rfl⟩:∃ea ec,ev= .slice ea k.ext.length ec:=by
  obtain ⟨vs,⟨a,cap,rfl,_⟩,rfl⟩:=hev;exact ⟨a,cap,by simp[Sh.mk,Sh.isAgg,B,ofBytes]⟩
 have hcase:∃A:Nat,Plain.ahead (iC k)=A/\((A=1/\k.aD=48862)\/(A=2/\¬k.aD=48862)):=by
  unfold Plain.ahead iC;by_cases h:k.aD=48862<;>simp[h]
 obtain ⟨A,hA,hcase⟩:=hcase;obtain ⟨Kt,Kr,_⟩:=few;obtain ⟨sg1,_,_⟩:=u6 k.aD k.ext;have sg2:=M7 he;have sg3:=Bl k.aD k.ext;have hsp:=fun W hb=>ang W0 W aL N k _ hev hq hel hb;rw[he] at hsp;rw[show decide (k.aD=48862)=iC k from rfl,hA] at sg2;generalize (spots k.aD k.ext).1=L at sg1 sg2 sg3 hsp |-;clear he hk hp hmv hev;generalize iC k=ak at hA sg2 |-;generalize k.aD=q at hcase hq hsp |-;generalize k.pad=pad;generalize k.ext=E at hel sg1 sg3 hsp |-;obtain ⟨R,hR⟩:∃R,Hid (R=L.flatMap (jF p ak fr)):=⟨_,rfl⟩;rw[<-show R=_ from hR];obtain ⟨i0,hi0,hz0',hz1',hz2'⟩:=info_parts Nz;go_enter Tryz.func153,Tryz.ntmps153
 have hb0:Below W0.heap.size W0 ((W0.alloc (.cells #[.bool p.sm,.bool p.m,.bool p.st,.int .i64 p.ty,.bool p.sq,.int .u16 p.seq,.bool p.bL,.int .u32 p.time,.bool p.ss,.int .u32 p.aN,.slice ma p.maps.length mc,.slice oa p.over.length oc,dv,av,.bool p.np] 29)).alloc (.cells #[h1,h2,h3,h4,h5,h6,h7,h8,.int .u16 (q:Int),.slice ea E.length ec,yv,.int .i64 (pad:Int)] 43)):=((Below.refl _ W0).alloc (aI _) _).alloc (by simp) _;rcases hcase with ⟨rfl,rfl⟩|⟨rfl,hq2⟩
 .have hq3:(((48862:Nat):Int)==48862)=true:=rfl;go_wp2_with (go_at_call 72;refine (hsp _ hb0).mono ?_;rintro e W2 ⟨sv,rfl,hsv,hb2⟩;obtain ⟨sa,sc,rfl,hs⟩:=acf hsv)
  have hz2:=hb2.size;simp only[World.size_alloc] at hz2;have hB2:Below W0.heap.size W0 W2:=hb0.trans (hb2.mono (by simp;omega));have c12:W2.heap[W0.heap.size]?=some (.cells #[.bool p.sm,.bool p.m,.bool p.st,.int .i64 p.ty,.bool p.sq,.int .u16 p.seq,.bool p.bL,.int .u32 p.time,.bool p.ss,.int .u32 p.aN,.slice ma p.maps.length mc,.slice oa p.over.length oc,dv,av,.bool p.np] 29 (0,0)):=by
   rw[hb2.block _ (by simp;omega),Below.heap_alloc _ _ _ (by simp)];exact World.alloc_heap_new W0 _
  have c21:W2.heap[W0.heap.size+1]?=some (.cells #[h1,h2,h3,h4,h5,h6,h7,h8,.int .u16 48862,.slice ea E.length ec,yv,.int .i64 (pad:Int)] 43 (0,0)):=by
   rw[hb2.block _ (by simp)];have:=World.alloc_heap_new (W0.alloc (.cells #[.bool p.sm,.bool p.m,.bool p.st,.int .i64 p.ty,.bool p.sq,.int .u16 p.seq,.bool p.bL,.int .u32 p.time,.bool p.ss,.int .u32 p.aN,.slice ma p.maps.length mc,.slice oa p.over.length oc,dv,av,.bool p.np] 29)) (.cells #[h1,h2,h3,h4,h5,h6,h7,h8,.int .u16 48862,.slice ea E.length ec,yv,.int .i64 (pad:Int)] 43);rw[World.size_alloc] at this;exact this
  go_loopw [32,10] (fun P v wr=>∃(i:Nat) (acc0:List fE) (xs:List Value),P= .int .i64 (i:Int)/\i<=L.length/\nK (fun b=>N b\/W0.heap.size<=b) W2.heap.size W2 wr p 48862 v acc0 xs/\Hid (acc0=(L.take i).flatMap (jF p ak fr)))
   (fun P _ _=>L.length-(intOf P).toNat)
  case atStart=>exact ⟨0,[],[],rfl,bK _,⟨World.ownsRow_nil _ _ _ _,rfl,Below.refl _ _⟩,rfl⟩
  case round=>
   obtain ⟨i,acc0,xs,rfl,hi,hE,sN⟩:=hrel;by_cases hil:i<L.length
   .have i1:(i:Int)<L.length:=by omega
    obtain ⟨x,hx⟩:∃x,L[i]?=some x:=⟨_,iK hil⟩;obtain ⟨blk,off,rfl,hlt,e0,e1,e2⟩:=hs i x hx;have f0:wr.cell? ⟨blk,off+i*3,none⟩=_:=(hE.bX.cell (p:=⟨blk,off+i*3,none⟩) hlt).trans e0;have f1:wr.cell? ⟨blk,off+i*3+1,none⟩=_:=(hE.bX.cell (p:=⟨blk,off+i*3+1,none⟩) hlt).trans e1;have f2:wr.cell? ⟨blk,off+i*3+2,none⟩=_:=(hE.bX.cell (p:=⟨blk,off+i*3+2,none⟩) hlt).trans e2;have P7:=hE.bX.size;have g10:∀o,(wr.alloc o).cell? ⟨W0.heap.size,10,none⟩=some (.slice ma p.maps.length mc):=fun o=>by
     have:(wr.alloc o).heap[W0.heap.size]?=_:=(Below.heap_alloc _ _ _ (by omega)).trans ((hE.bX.block _ (by omega)).trans c12);simp[World.cell?,this]
    go_wp2
    have tC:=hE.below P7 ((Below.refl _ wr).alloc (aI _) (.cells #[.int .i64 (x.id:Int),.int .i64 (x.pos:Int),.int .i64 (x.size:Int)] 118));have hO:=World.alloc_heap_new wr (.cells #[.int .i64 (x.id:Int),.int .i64 (x.pos:Int),.int .i64 (x.size:Int)] 118);have hz3:=World.size_alloc wr (.cells #[.int .i64 (x.id:Int),.int .i64 (x.pos:Int),.int .i64 (x.size:Int)] 118);generalize (wr.alloc (.cells #[.int .i64 (x.id:Int),.int .i64 (x.pos:Int),.int .i64 (x.size:Int)] 118))=W3 at tC hO hz3 |-;generalize wr.heap.size=O at*;have hxm:x∈L:=List.mem_of_getElem? hx;have sx1:=sg1 x hxm;have sx2:=sg2 x hxm;go_loopw [39,10] (fun P v w4=>∃(j:Nat) (acc:List fE) (xs:List Value),P= .int .i64 (j:Int)/\j<=p.maps.length/\nK (fun b=>N b\/W0.heap.size<=b) W2.heap.size W2 w4 p 48862 v acc xs/\Hid (acc=acc0++qm (p.maps.take j) x (fr+x.pos-1))/\w4.heap[O]?=some (.cells #[.int .i64 (x.id:Int),.int .i64 (x.pos:Int),.int .i64 (x.size:Int)] 118 (0,0)))
     (fun P _ _=>p.maps.length-(intOf P).toNat)
    case atStart=>exact ⟨0,acc0,xs,rfl,bK _,tC,by show _=_;simp[qm],hO⟩
    case round=>
     obtain ⟨j,acc,ys,rfl,hj,dh,hacc,hO4⟩:=hrel;have ji:=(fu.1 hO4).1;by_cases hjl:j<p.maps.length
     .have i2:(j:Int)<p.maps.length:=by omega
      obtain ⟨m,AZ⟩:∃m,p.maps[j]?=some m:=⟨_,iK hjl⟩;obtain ⟨mb,mo,rfl,mlt,m0,m1⟩:=hm j m AZ;have n0:wr.cell? ⟨mb,mo+j*2,none⟩=_:=(dh.bX.cell (p:=⟨mb,mo+j*2,none⟩) (zx mlt hB2.size)).trans ((hB2.cell (p:=⟨mb,mo+j*2,none⟩) mlt).trans m0);have n1:wr.cell? ⟨mb,mo+j*2+1,none⟩=_:=(dh.bX.cell (p:=⟨mb,mo+j*2+1,none⟩) (zx mlt hB2.size)).trans ((hB2.cell (p:=⟨mb,mo+j*2+1,none⟩) mlt).trans m1);have o0:∀o,(wr.alloc o).cell? ⟨O,0,none⟩=some (.int .i64 (x.id:Int)):=fun o=>by simp[World.cell?,Below.heap_alloc _ _ _ ji,hO4]
      have o1:∀o,(wr.alloc o).cell? ⟨O,1,none⟩=some (.int .i64 (x.pos:Int)):=fun o=>by simp[World.cell?,Below.heap_alloc _ _ _ ji,hO4]
      have w1:IntKind.i64.wrap ((fr:Int)+x.pos)=(fr:Int)+x.pos:=je (n:=(fr:Int)+x.pos) ⟨by omega,by omega⟩;have w2:IntKind.i64.wrap ((fr:Int)+x.pos-1)=(fr:Int)+x.pos-1:=je (n:=(fr:Int)+x.pos-1) ⟨by omega,by omega⟩;by_cases hmx:m.fr=(x.id:Int)
      .have hmb:(m.fr==(x.id:Int))=true:=by simpa using hmx
       go_wp2
       have mE:=dh.below dh.bX.size (((Below.refl _ wr).alloc (aI _) (.cells #[.int .i64 (x.id:Int),.int .i64 m.to] 127)).alloc (by simp) (.cells #[.int .i64 9,.int .i64 ((fr:Int)+x.pos-1),.int .i64 1] 56));obtain ⟨WA,nJ⟩:∃WA,WA=(wr.alloc (.cells #[.int .i64 (x.id:Int),.int .i64 m.to] 127)).alloc (.cells #[.int .i64 9,.int .i64 ((fr:Int)+x.pos-1),.int .i64 1] 56):=⟨_,rfl⟩;rw[<-nJ] at mE |-;have AY:WA.heap.size=wr.heap.size+2:=by rw[nJ];simp
       have a1:WA.heap[wr.heap.size]?=some (.cells #[.int .i64 (x.id:Int),.int .i64 m.to] 127 (0,0)):=by
        rw[nJ,Below.heap_alloc _ _ _ (by simp)];exact World.alloc_heap_new wr _
       have a2:WA.heap[wr.heap.size+1]?=some (.cells #[.int .i64 9,.int .i64 ((fr:Int)+x.pos-1),.int .i64 1] 56 (0,0)):=by
        have:=World.alloc_heap_new (wr.alloc (.cells #[.int .i64 (x.id:Int),.int .i64 m.to] 127)) (.cells #[.int .i64 9,.int .i64 ((fr:Int)+x.pos-1),.int .i64 1] 56);rw[World.size_alloc] at this;rw[nJ];exact this
       have a3:WA.heap[W0.heap.size+1]?=_:=(mE.bX.block _ (by omega)).trans c21;have s0:WA.cell? ⟨wr.heap.size+1,0,none⟩=some (.int .i64 9):=by simp[World.cell?,a2]
       have s1:WA.cell? ⟨wr.heap.size+1,1,none⟩=some (.int .i64 ((fr:Int)+x.pos-1)):=by simp[World.cell?,a2]
       have s2:WA.cell? ⟨wr.heap.size+1,2,none⟩=some (.int .i64 1):=by simp[World.cell?,a2]
       have s3:WA.cell? ⟨wr.heap.size,1,none⟩=some (.int .i64 m.to):=by simp[World.cell?,a1]
       have s4:WA.cell? ⟨W0.heap.size+1,8,none⟩=some (.int .u16 48862):=by simp[World.cell?,a3]
       have hkeep:∀w',Below WA.heap.size WA w'->w'.cell? ⟨wr.heap.size+1,0,none⟩=some (.int .i64 9)/\w'.cell? ⟨wr.heap.size+1,1,none⟩=some (.int .i64 ((fr:Int)+x.pos-1))/\w'.cell? ⟨wr.heap.size+1,2,none⟩=some (.int .i64 1)/\w'.cell? ⟨wr.heap.size,1,none⟩=some (.int .i64 m.to)/\w'.cell? ⟨W0.heap.size+1,8,none⟩=some (.int .u16 48862):=fun w' hb=>⟨(hb.cell (p:=⟨wr.heap.size+1,0,none⟩) (by show wr.heap.size+1<_;omega)).trans s0,(hb.cell (p:=⟨wr.heap.size+1,1,none⟩) (by show wr.heap.size+1<_;omega)).trans s1,(hb.cell (p:=⟨wr.heap.size+1,2,none⟩) (by show wr.heap.size+1<_;omega)).trans s2,(hb.cell (p:=⟨wr.heap.size,1,none⟩) (by show wr.heap.size<_;omega)).trans s3,(hb.cell (p:=⟨W0.heap.size+1,8,none⟩) (by show W0.heap.size+1<_;omega)).trans s4⟩;have aO:WA.heap[O]?=some (.cells #[.int .i64 (x.id:Int),.int .i64 (x.pos:Int),.int .i64 (x.size:Int)] 118 (0,0)):=by
        rw[nJ,Below.heap_alloc _ _ _ (by simp;omega),Below.heap_alloc _ _ _ ji];exact hO4
       clear nJ;have hcn:=Dp ((WA.alloc (.cells #[.int .i64 m.to] 3)).alloc (.cells #[.int .u16 48862] 23)) (.int .i64 9) (.int .i64 ((fr:Int)+x.pos-1)) (.int .i64 1) (.func (.func 236) #[] #[bJ (wr.heap.size+2+1),bJ (wr.heap.size+2)]) 231;simp only[World.size_alloc,AY] at hcn;have qD:=((((Below.refl _ WA).alloc (aI _) (.cells #[.int .i64 m.to] 3)).alloc (by simp) (.cells #[.int .u16 48862] 23)).alloc (by simp;omega) (.cells #[.int .i64 9,.int .i64 ((fr:Int)+x.pos-1),.int .i64 1,.func (.func 236) #[] #[bJ (wr.heap.size+2+1),bJ (wr.heap.size+2)]] 231));have jJ:=mE.below mE.bX.size qD;have sM:=(gQ.acF (W:=WA) p 48862 m.to (fun b hb=>mE.fresh (.inl hb) (.inr (by omega)))).mono (W':=((WA.alloc (.cells #[.int .i64 m.to] 3)).alloc (.cells #[.int .u16 48862] 23)).alloc (.cells #[.int .i64 9,.int .i64 ((fr:Int)+x.pos-1),.int .i64 1,.func (.func 236) #[] #[bJ (wr.heap.size+2+1),bJ (wr.heap.size+2)]] 231)) (by simp) (fun b hb hlt=>⟨Below.heap_alloc _ _ _ hlt,hb⟩);rw[AY] at sM;have AX:(((WA.alloc (.cells #[.int .i64 m.to] 3)).alloc (.cells #[.int .u16 48862] 23)).alloc (.cells #[.int .i64 9,.int .i64 ((fr:Int)+x.pos-1),.int .i64 1,.func (.func 236) #[] #[bJ (wr.heap.size+2+1),bJ (wr.heap.size+2)]] 231)).heap.size=wr.heap.size+2+1+1+1:=by simp[AY]
       have hrow:=dh.own.lt;have hone:∀u∈[Value.int .i64 9,.int .i64 ((fr:Int)+x.pos-1),.int .i64 1,.func (.func 236) #[] #[bJ (wr.heap.size+2+1),bJ (wr.heap.size+2)]],u.oneCell'=true:=by
        intro u hu;simp only[iH,List.mem_nil_iff,or_false] at hu;rcases hu with rfl|rfl|rfl|rfl<;>rfl
       have hlen:acc.length<=3000000000000:=by
        have l1:=zD (jF p ak fr) 2000000 (fun a=>BG p ak fr a Kt Kr) (L.take i);have l2:=Ed (p.maps.take j) x (fr+x.pos-1);rw[gD] at l1 l2;rw[show acc=_ from hacc,show acc0=_ from sN,bg];omega
       obtain ⟨t0,t1,t2,t3,t4⟩:=hkeep _ qD;have EW:∀w',World.grownBy (World.drew (((WA.alloc (.cells #[.int .i64 m.to] 3)).alloc (.cells #[.int .u16 48862] 23)).alloc (.cells #[.int .i64 9,.int .i64 ((fr:Int)+x.pos-1),.int .i64 1,.func (.func 236) #[] #[bJ (wr.heap.size+2+1),bJ (wr.heap.size+2)]] 231))) w' (Value.ownBlock u10)->w'.cell? ⟨wr.heap.size+1,0,none⟩=some (.int .i64 9)/\w'.cell? ⟨wr.heap.size+1,1,none⟩=some (.int .i64 ((fr:Int)+x.pos-1))/\w'.cell? ⟨wr.heap.size+1,2,none⟩=some (.int .i64 1)/\w'.cell? ⟨wr.heap.size,1,none⟩=some (.int .i64 m.to)/\w'.cell? ⟨W0.heap.size+1,8,none⟩=some (.int .u16 48862):=fun w' hg=>⟨hg.cell t0 (fun e=>by have:=hrow _ e.symm;simp at this<;>omega),hg.cell t1 (fun e=>by have:=hrow _ e.symm;simp at this<;>omega),hg.cell t2 (fun e=>by have:=hrow _ e.symm;simp at this<;>omega),hg.cell t3 (fun e=>by have:=hrow _ e.symm;simp at this<;>omega),hg.cell t4 (fun e=>by have:=hrow _ e.symm;simp at this<;>omega)⟩;go_region_held3 (fun w'=>w'.cell? ⟨wr.heap.size+1,0,none⟩=some (.int .i64 9)/\w'.cell? ⟨wr.heap.size+1,1,none⟩=some (.int .i64 ((fr:Int)+x.pos-1))/\w'.cell? ⟨wr.heap.size+1,2,none⟩=some (.int .i64 1)/\w'.cell? ⟨wr.heap.size,1,none⟩=some (.int .i64 m.to)/\w'.cell? ⟨W0.heap.size+1,8,none⟩=some (.int .u16 48862)) (first|exact ⟨s0,s1,s2,s3,s4⟩|exact hkeep _ qD.drew|exact hkeep _ (((Below.refl _ WA).alloc (aI _) _).alloc (by simp) _).drew|assumption|fail) (first
        |(go_at_call 197;refine (adq _ _ _).mono ?_;rintro e w' ⟨rfl,rfl⟩)
        |(refine step_append_lies _ rfl _ _ 227 rfl W2.heap.size 231 i0 _ 4 32 Tryz.underlying227 hi0 hz0' hz1' hz2' rfl (by decide) _ _ ys rfl jJ.own ⟨wr.heap.size+2+1+1,0,none⟩ 1 1 [.int .i64 9,.int .i64 ((fr:Int)+x.pos-1),.int .i64 1,.func (.func 236) #[] #[bJ (wr.heap.size+2+1),bJ (wr.heap.size+2)]] rfl rfl hcn hone (by decide) (by simp only[maxLen];omega) (by omega) jJ.bX.size (wr.heap.size+2+1+1+1) AX ?_;rintro g cap w1 hown hgrow hat hlt;have hS1:=EW w1 hgrow)
        |fail)
       have ec:((fr+x.pos-1:Nat):Int)=(fr:Int)+x.pos-1:=by omega
       have ng:=jJ.add (s:=⟨9,fr+x.pos-1,1,.nI m.to⟩) jJ.bX.size sM (by rw[ec];exact hown) (V3 hgrow) (by
        rcases hat with h|h
        .exact .inl h.symm
        .exact .inr (by rw[h,AX];rfl))
       have A9:w1.heap[O]?=some (.cells #[.int .i64 (x.id:Int),.int .i64 (x.pos:Int),.int .i64 (x.size:Int)] 118 (0,0)):=(hgrow.block O (zx (by omega) qD.size) (fun e=>dh.other hO4 (by decide) e.symm)).trans ((qD.block O (by omega)).trans aO);clear hown hgrow hat hlt hcn qD jJ sM AX hone hkeep EW t0 t1 t2 t3 t4 s0 s1 s2 s3 s4 a1 a2 a3 aO mE n0 n1 o0 o1;go_wp2
       go_roundw
       case rel=>
        refine ⟨j+1,_,_,by simp,by omega,ng,?_,A9⟩;show _=_;rw[List.take_add_one,AZ,Option.toList_some,H6,if_pos hmx,<-dI,<-show acc=_ from hacc]
       case measure=>simp[intOf];omega
      .have hmb:(m.fr==(x.id:Int))=false:=by simpa using hmx
       go_wp2
       go_roundw
       case rel=>
        refine ⟨j+1,acc,ys,by simp,by omega,dh.below dh.bX.size ((Below.refl _ wr).alloc (aI _) _),?_,by rw[Below.heap_alloc _ _ _ ji];exact hO4⟩;show _=_;rw[List.take_add_one,AZ,Option.toList_some,H6,if_neg hmx,jl];exact hacc
       case measure=>simp[intOf];omega
     .obtain rfl:j=p.maps.length:=by omega
      have i2:¬(p.maps.length:Int)<p.maps.length:=by omega
      have g11:wr.cell? ⟨W0.heap.size,11,none⟩=some (.slice oa p.over.length oc):=by
       have:wr.heap[W0.heap.size]?=_:=(dh.bX.block _ (by omega)).trans c12;simp[World.cell?,this]
      rw[eX] at hacc;go_wp2
      go_loopw [69,10] (fun P v w5=>∃(j:Nat) (kI:List fE) (xs:List Value),P= .int .i64 (j:Int)/\j<=p.over.length/\nK (fun b=>N b\/W0.heap.size<=b) W2.heap.size W2 w5 p 48862 v kI xs/\Hid (kI=acc0++qm p.maps x (fr+x.pos-1)++sZ (p.over.take j) x (fr+x.pos))/\w5.heap[O]?=some (.cells #[.int .i64 (x.id:Int),.int .i64 (x.pos:Int),.int .i64 (x.size:Int)] 118 (0,0)))
       (fun P _ _=>p.over.length-(intOf P).toNat)
      case atStart=>exact ⟨0,acc,ys,rfl,bK _,dh,by show _=_;rw[show acc=_ from hacc];simp[sZ],hO4⟩
      case round=>
       clear g11 hO4 dh hacc ji;obtain ⟨j,kI,zs,rfl,hj,dh,hacc,hO4⟩:=hrel;have ji:=(fu.1 hO4).1;by_cases hjl:j<p.over.length
       .have i3:(j:Int)<p.over.length:=by omega
        obtain ⟨y,hyj⟩:∃y,p.over[j]?=some y:=⟨_,iK hjl⟩;obtain ⟨eb,eo,d,dc,rfl,elt,m0,m1,hrd⟩:=ho j y hyj;have n0:wr.cell? ⟨eb,eo+j*2,none⟩=_:=(dh.bX.cell (p:=⟨eb,eo+j*2,none⟩) (zx elt hB2.size)).trans ((hB2.cell (p:=⟨eb,eo+j*2,none⟩) elt).trans m0);have n1:wr.cell? ⟨eb,eo+j*2+1,none⟩=_:=(dh.bX.cell (p:=⟨eb,eo+j*2+1,none⟩) (zx elt hB2.size)).trans ((hB2.cell (p:=⟨eb,eo+j*2+1,none⟩) elt).trans m1);have o0:∀o,(wr.alloc o).cell? ⟨O,0,none⟩=some (.int .i64 (x.id:Int)):=fun o=>by simp[World.cell?,Below.heap_alloc _ _ _ ji,hO4]
        have o1:∀o,(wr.alloc o).cell? ⟨O,1,none⟩=some (.int .i64 (x.pos:Int)):=fun o=>by simp[World.cell?,Below.heap_alloc _ _ _ ji,hO4]
        have o2:∀o,(wr.alloc o).cell? ⟨O,2,none⟩=some (.int .i64 (x.size:Int)):=fun o=>by simp[World.cell?,Below.heap_alloc _ _ _ ji,hO4]
        have w1:IntKind.i64.wrap ((fr:Int)+x.pos)=(fr:Int)+x.pos:=je (n:=(fr:Int)+x.pos) ⟨by omega,by omega⟩;by_cases hyx:y.id=(x.id:Int)
        .have hyb:(y.id==(x.id:Int))=true:=by simpa using hyx
         by_cases hd0:y.data.length=0
         .have hd1:((y.data.length:Nat):Int)=0:=by omega
          have hd2:y.data=[]:=jH hd0;go_wp2
          go_roundw
          case rel=>
           refine ⟨j+1,kI,zs,by simp,by omega,dh.below dh.bX.size ((Below.refl _ wr).alloc (aI _) _),?_,by rw[Below.heap_alloc _ _ _ ji];exact hO4⟩;show _=_;rw[List.take_add_one,hyj,Option.toList_some,BH,if_neg (fun h=>h.2 hd2),jl];exact hacc
          case measure=>simp[intOf];omega
         .have hd1:(0:Int)<(y.data.length:Nat):=by omega
          have hd2:y.data≠[]:=fun e=>hd0 (by rw[e];rfl);have mE:=dh.below dh.bX.size (((Below.refl _ wr).alloc (aI _) (.cells #[.int .i64 (x.id:Int),.slice d y.data.length dc] 103)).alloc (by simp) (.cells #[.int .i64 9,.int .i64 ((fr:Int)+x.pos),.int .i64 (x.size:Int)] 56));have jJ:=dh.below dh.bX.size ((((Below.refl _ wr).alloc (aI _) (.cells #[.int .i64 (x.id:Int),.slice d y.data.length dc] 103)).alloc (by simp) (.cells #[.int .i64 9,.int .i64 ((fr:Int)+x.pos),.int .i64 (x.size:Int)] 56)).alloc (by simp;omega) (.cells #[.int .i64 9,.int .i64 ((fr:Int)+x.pos),.int .i64 (x.size:Int),.func (.func 198) #[] #[bJ wr.heap.size]] 231));have hcn:=Dp ((wr.alloc (.cells #[.int .i64 (x.id:Int),.slice d y.data.length dc] 103)).alloc (.cells #[.int .i64 9,.int .i64 ((fr:Int)+x.pos),.int .i64 (x.size:Int)] 56)) (.int .i64 9) (.int .i64 ((fr:Int)+x.pos)) (.int .i64 (x.size:Int)) (.func (.func 198) #[] #[bJ wr.heap.size]) 231;simp only[World.size_alloc] at hcn;have hlen:kI.length<=3000000000000:=by
           have l1:=zD (jF p ak fr) 2000000 (fun a=>BG p ak fr a Kt Kr) (L.take i);have l2:=Ed p.maps x (fr+x.pos-1);have l3:=NI (p.over.take j) x (fr+x.pos);rw[gD] at l1 l3;rw[show kI=_ from hacc,show acc0=_ from sN,bg,bg];omega
          have hone:∀u∈[Value.int .i64 9,.int .i64 ((fr:Int)+x.pos),.int .i64 (x.size:Int),.func (.func 198) #[] #[bJ wr.heap.size]],u.oneCell'=true:=by
           intro u hu;simp only[iH,List.mem_nil_iff,or_false] at hu;rcases hu with rfl|rfl|rfl|rfl<;>rfl
          go_wp2_with (at_builtin;refine wpList_append_lies _ rfl _ _ 227 rfl W2.heap.size 231 i0 _ 4 32 Tryz.underlying227 hi0 hz0' hz1' hz2' rfl (by decide) _ _ zs rfl jJ.own ⟨wr.heap.size+1+1,0,none⟩ 1 1 [.int .i64 9,.int .i64 ((fr:Int)+x.pos),.int .i64 (x.size:Int),.func (.func 198) #[] #[bJ wr.heap.size]] rfl rfl hcn hone (by decide) (by simp only[maxLen];omega) (by omega) jJ.bX.size (wr.heap.size+1+1+1) (by simp) ?_;rintro g cap w1 hown hgrow hat hlt)
          have hrow:=dh.own.lt;have b1:((wr.alloc (.cells #[.int .i64 (x.id:Int),.slice d y.data.length dc] 103)).alloc (.cells #[.int .i64 9,.int .i64 ((fr:Int)+x.pos),.int .i64 (x.size:Int)] 56)).heap[wr.heap.size]?=some (.cells #[.int .i64 (x.id:Int),.slice d y.data.length dc] 103 (0,0)):=by
           rw[Below.heap_alloc _ _ _ (by simp)];exact World.alloc_heap_new wr _
          have sM:gQ (((wr.alloc (.cells #[.int .i64 (x.id:Int),.slice d y.data.length dc] 103)).alloc (.cells #[.int .i64 9,.int .i64 ((fr:Int)+x.pos),.int .i64 (x.size:Int)] 56)).alloc (.cells #[.int .i64 9,.int .i64 ((fr:Int)+x.pos),.int .i64 (x.size:Int),.func (.func 198) #[] #[bJ wr.heap.size]] 231)) (MZ (fun b=>N b\/W0.heap.size<=b) u10) p 48862 (.data y.data) (.func (.func 198) #[] #[bJ wr.heap.size]):=by
           refine ⟨_,_,_,rfl,dh.fresh (.inl (aI _)) (.inr (by omega)),(Below.heap_alloc _ _ _ (by simp;omega)).trans b1,?_⟩;have jq:Below W0.heap.size W0 (((wr.alloc (.cells #[.int .i64 (x.id:Int),.slice d y.data.length dc] 103)).alloc (.cells #[.int .i64 9,.int .i64 ((fr:Int)+x.pos),.int .i64 (x.size:Int)] 56)).alloc (.cells #[.int .i64 9,.int .i64 ((fr:Int)+x.pos),.int .i64 (x.size:Int),.func (.func 198) #[] #[bJ wr.heap.size]] 231)):=hB2.trans (jJ.bX.mono hB2.size);exact hrd.mono jq.size (fun b hb hlt=>⟨jq.block b hlt,dh.fresh (.inr (zx hlt hB2.size)) (.inl hb)⟩)
          have ng:=jJ.add (s:=⟨9,fr+x.pos,x.size,.data y.data⟩) jJ.bX.size sM (by rw[show ((fr+x.pos:Nat):Int)=(fr:Int)+x.pos from by omega];exact hown) hgrow (by
           rcases hat with h|h
           .exact .inl h.symm
           .exact .inr (by rw[h];simp[Value.ownBlock]))
          have A9:w1.heap[O]?=some (.cells #[.int .i64 (x.id:Int),.int .i64 (x.pos:Int),.int .i64 (x.size:Int)] 118 (0,0)):=(hgrow.block O (by simp;omega) (fun e=>dh.other hO4 (by decide) e.symm)).trans ((Below.heap_alloc _ _ _ (by simp;omega)).trans ((Below.heap_alloc _ _ _ (by simp;omega)).trans ((Below.heap_alloc _ _ _ ji).trans hO4)));refine ⟨⟨j+1,_,_,by simp,by omega,ng,?_,A9⟩,by simp[intOf];omega⟩;show _=_;rw[List.take_add_one,hyj,Option.toList_some,BH,if_pos ⟨hyx,hd2⟩,<-dI,<-show kI=_ from hacc]
        .have hyb:(y.id==(x.id:Int))=false:=by simpa using hyx
         go_wp2
         go_roundw
         case rel=>
          refine ⟨j+1,kI,zs,by simp,by omega,dh.below dh.bX.size ((Below.refl _ wr).alloc (aI _) _),?_,by rw[Below.heap_alloc _ _ _ ji];exact hO4⟩;show _=_;rw[List.take_add_one,hyj,Option.toList_some,BH,if_neg (fun h=>hyx h.1),jl];exact hacc
         case measure=>simp[intOf];omega
       .obtain rfl:j=p.over.length:=by omega
        have i3:¬(p.over.length:Int)<p.over.length:=by omega
        go_wp2
        go_roundw
        case rel=>
         refine ⟨i+1,kI,zs,by simp,by omega,dh,?_⟩;show _=_;rw[eX] at hacc;rw[show kI=_ from hacc,List.take_add_one,hx,Option.toList_some,List.flatMap_append,List.flatMap_singleton,aaW,hA,<-show acc0=_ from sN,dI]
        case measure=>simp[intOf];omega
   .obtain rfl:i=L.length:=by omega
    have i1:¬(L.length:Int)<L.length:=by omega
    go_wp2
    go_ret
    rw[eX] at sN;obtain rfl:acc0=R:=(show acc0=_ from sN).trans (show R=_ from hR).symm;exact ⟨_,rfl,xs,EP hE.own hB2.size,hE.sk,hB2.trans (hE.bX.mono hB2.size)⟩
 .have hq3:((q:Int)==48862)=false:=by simp only[beq_eq_false_iff_ne];omega
  go_wp2_with (go_at_call 72;refine (hsp _ hb0).mono ?_;rintro e W2 ⟨sv,rfl,hsv,hb2⟩;obtain ⟨sa,sc,rfl,hs⟩:=acf hsv)
  have hz2:=hb2.size;simp only[World.size_alloc] at hz2;have hB2:Below W0.heap.size W0 W2:=hb0.trans (hb2.mono (by simp;omega));have c12:W2.heap[W0.heap.size]?=some (.cells #[.bool p.sm,.bool p.m,.bool p.st,.int .i64 p.ty,.bool p.sq,.int .u16 p.seq,.bool p.bL,.int .u32 p.time,.bool p.ss,.int .u32 p.aN,.slice ma p.maps.length mc,.slice oa p.over.length oc,dv,av,.bool p.np] 29 (0,0)):=by
   rw[hb2.block _ (by simp;omega),Below.heap_alloc _ _ _ (by simp)];exact World.alloc_heap_new W0 _
  have c21:W2.heap[W0.heap.size+1]?=some (.cells #[h1,h2,h3,h4,h5,h6,h7,h8,.int .u16 (q:Int),.slice ea E.length ec,yv,.int .i64 (pad:Int)] 43 (0,0)):=by
   rw[hb2.block _ (by simp)];have:=World.alloc_heap_new (W0.alloc (.cells #[.bool p.sm,.bool p.m,.bool p.st,.int .i64 p.ty,.bool p.sq,.int .u16 p.seq,.bool p.bL,.int .u32 p.time,.bool p.ss,.int .u32 p.aN,.slice ma p.maps.length mc,.slice oa p.over.length oc,dv,av,.bool p.np] 29)) (.cells #[h1,h2,h3,h4,h5,h6,h7,h8,.int .u16 (q:Int),.slice ea E.length ec,yv,.int .i64 (pad:Int)] 43);rw[World.size_alloc] at this;exact this
  go_loopw [32,10] (fun P v wr=>∃(i:Nat) (acc0:List fE) (xs:List Value),P= .int .i64 (i:Int)/\i<=L.length/\nK (fun b=>N b\/W0.heap.size<=b) W2.heap.size W2 wr p q v acc0 xs/\Hid (acc0=(L.take i).flatMap (jF p ak fr)))
   (fun P _ _=>L.length-(intOf P).toNat)
  case atStart=>exact ⟨0,[],[],rfl,bK _,⟨World.ownsRow_nil _ _ _ _,rfl,Below.refl _ _⟩,rfl⟩
  case round=>
   obtain ⟨i,acc0,xs,rfl,hi,hE,sN⟩:=hrel;by_cases hil:i<L.length
   .have i1:(i:Int)<L.length:=by omega
    obtain ⟨x,hx⟩:∃x,L[i]?=some x:=⟨_,iK hil⟩;obtain ⟨blk,off,rfl,hlt,e0,e1,e2⟩:=hs i x hx;have f0:wr.cell? ⟨blk,off+i*3,none⟩=_:=(hE.bX.cell (p:=⟨blk,off+i*3,none⟩) hlt).trans e0;have f1:wr.cell? ⟨blk,off+i*3+1,none⟩=_:=(hE.bX.cell (p:=⟨blk,off+i*3+1,none⟩) hlt).trans e1;have f2:wr.cell? ⟨blk,off+i*3+2,none⟩=_:=(hE.bX.cell (p:=⟨blk,off+i*3+2,none⟩) hlt).trans e2;have P7:=hE.bX.size;have g10:∀o,(wr.alloc o).cell? ⟨W0.heap.size,10,none⟩=some (.slice ma p.maps.length mc):=fun o=>by
     have:(wr.alloc o).heap[W0.heap.size]?=_:=(Below.heap_alloc _ _ _ (by omega)).trans ((hE.bX.block _ (by omega)).trans c12);simp[World.cell?,this]
    go_wp2
    have tC:=hE.below P7 ((Below.refl _ wr).alloc (aI _) (.cells #[.int .i64 (x.id:Int),.int .i64 (x.pos:Int),.int .i64 (x.size:Int)] 118));have hO:=World.alloc_heap_new wr (.cells #[.int .i64 (x.id:Int),.int .i64 (x.pos:Int),.int .i64 (x.size:Int)] 118);have hz3:=World.size_alloc wr (.cells #[.int .i64 (x.id:Int),.int .i64 (x.pos:Int),.int .i64 (x.size:Int)] 118);generalize (wr.alloc (.cells #[.int .i64 (x.id:Int),.int .i64 (x.pos:Int),.int .i64 (x.size:Int)] 118))=W3 at tC hO hz3 |-;generalize wr.heap.size=O at*;have hxm:x∈L:=List.mem_of_getElem? hx;have sx1:=sg1 x hxm;have sx2:=sg2 x hxm;go_loopw [39,10] (fun P v w4=>∃(j:Nat) (acc:List fE) (xs:List Value),P= .int .i64 (j:Int)/\j<=p.maps.length/\nK (fun b=>N b\/W0.heap.size<=b) W2.heap.size W2 w4 p q v acc xs/\Hid (acc=acc0++qm (p.maps.take j) x (fr+x.pos-2))/\w4.heap[O]?=some (.cells #[.int .i64 (x.id:Int),.int .i64 (x.pos:Int),.int .i64 (x.size:Int)] 118 (0,0)))
     (fun P _ _=>p.maps.length-(intOf P).toNat)
    case atStart=>exact ⟨0,acc0,xs,rfl,bK _,tC,by show _=_;simp[qm],hO⟩
    case round=>
     obtain ⟨j,acc,ys,rfl,hj,dh,hacc,hO4⟩:=hrel;have ji:=(fu.1 hO4).1;by_cases hjl:j<p.maps.length
     .have i2:(j:Int)<p.maps.length:=by omega
      obtain ⟨m,AZ⟩:∃m,p.maps[j]?=some m:=⟨_,iK hjl⟩;obtain ⟨mb,mo,rfl,mlt,m0,m1⟩:=hm j m AZ;have n0:wr.cell? ⟨mb,mo+j*2,none⟩=_:=(dh.bX.cell (p:=⟨mb,mo+j*2,none⟩) (zx mlt hB2.size)).trans ((hB2.cell (p:=⟨mb,mo+j*2,none⟩) mlt).trans m0);have n1:wr.cell? ⟨mb,mo+j*2+1,none⟩=_:=(dh.bX.cell (p:=⟨mb,mo+j*2+1,none⟩) (zx mlt hB2.size)).trans ((hB2.cell (p:=⟨mb,mo+j*2+1,none⟩) mlt).trans m1);have o0:∀o,(wr.alloc o).cell? ⟨O,0,none⟩=some (.int .i64 (x.id:Int)):=fun o=>by simp[World.cell?,Below.heap_alloc _ _ _ ji,hO4]
      have o1:∀o,(wr.alloc o).cell? ⟨O,1,none⟩=some (.int .i64 (x.pos:Int)):=fun o=>by simp[World.cell?,Below.heap_alloc _ _ _ ji,hO4]
      have w1:IntKind.i64.wrap ((fr:Int)+x.pos)=(fr:Int)+x.pos:=je (n:=(fr:Int)+x.pos) ⟨by omega,by omega⟩;have w2:IntKind.i64.wrap ((fr:Int)+x.pos-2)=(fr:Int)+x.pos-2:=je (n:=(fr:Int)+x.pos-2) ⟨by omega,by omega⟩;by_cases hmx:m.fr=(x.id:Int)
      .have hmb:(m.fr==(x.id:Int))=true:=by simpa using hmx
       go_wp2
       have mE:=dh.below dh.bX.size (((Below.refl _ wr).alloc (aI _) (.cells #[.int .i64 (x.id:Int),.int .i64 m.to] 127)).alloc (by simp) (.cells #[.int .i64 9,.int .i64 ((fr:Int)+x.pos-2),.int .i64 1] 56));obtain ⟨WA,nJ⟩:∃WA,WA=(wr.alloc (.cells #[.int .i64 (x.id:Int),.int .i64 m.to] 127)).alloc (.cells #[.int .i64 9,.int .i64 ((fr:Int)+x.pos-2),.int .i64 1] 56):=⟨_,rfl⟩;rw[<-nJ] at mE |-;have AY:WA.heap.size=wr.heap.size+2:=by rw[nJ];simp
       have a1:WA.heap[wr.heap.size]?=some (.cells #[.int .i64 (x.id:Int),.int .i64 m.to] 127 (0,0)):=by
        rw[nJ,Below.heap_alloc _ _ _ (by simp)];exact World.alloc_heap_new wr _
       have a2:WA.heap[wr.heap.size+1]?=some (.cells #[.int .i64 9,.int .i64 ((fr:Int)+x.pos-2),.int .i64 1] 56 (0,0)):=by
        have:=World.alloc_heap_new (wr.alloc (.cells #[.int .i64 (x.id:Int),.int .i64 m.to] 127)) (.cells #[.int .i64 9,.int .i64 ((fr:Int)+x.pos-2),.int .i64 1] 56);rw[World.size_alloc] at this;rw[nJ];exact this
       have a3:WA.heap[W0.heap.size+1]?=_:=(mE.bX.block _ (by omega)).trans c21;have s0:WA.cell? ⟨wr.heap.size+1,0,none⟩=some (.int .i64 9):=by simp[World.cell?,a2]
       have s1:WA.cell? ⟨wr.heap.size+1,1,none⟩=some (.int .i64 ((fr:Int)+x.pos-2)):=by simp[World.cell?,a2]
       have s2:WA.cell? ⟨wr.heap.size+1,2,none⟩=some (.int .i64 1):=by simp[World.cell?,a2]
       have s3:WA.cell? ⟨wr.heap.size,1,none⟩=some (.int .i64 m.to):=by simp[World.cell?,a1]
       have s4:WA.cell? ⟨W0.heap.size+1,8,none⟩=some (.int .u16 (q:Int)):=by simp[World.cell?,a3]
       have hkeep:∀w',Below WA.heap.size WA w'->w'.cell? ⟨wr.heap.size+1,0,none⟩=some (.int .i64 9)/\w'.cell? ⟨wr.heap.size+1,1,none⟩=some (.int .i64 ((fr:Int)+x.pos-2))/\w'.cell? ⟨wr.heap.size+1,2,none⟩=some (.int .i64 1)/\w'.cell? ⟨wr.heap.size,1,none⟩=some (.int .i64 m.to)/\w'.cell? ⟨W0.heap.size+1,8,none⟩=some (.int .u16 (q:Int)):=fun w' hb=>⟨(hb.cell (p:=⟨wr.heap.size+1,0,none⟩) (by show wr.heap.size+1<_;omega)).trans s0,(hb.cell (p:=⟨wr.heap.size+1,1,none⟩) (by show wr.heap.size+1<_;omega)).trans s1,(hb.cell (p:=⟨wr.heap.size+1,2,none⟩) (by show wr.heap.size+1<_;omega)).trans s2,(hb.cell (p:=⟨wr.heap.size,1,none⟩) (by show wr.heap.size<_;omega)).trans s3,(hb.cell (p:=⟨W0.heap.size+1,8,none⟩) (by show W0.heap.size+1<_;omega)).trans s4⟩;have aO:WA.heap[O]?=some (.cells #[.int .i64 (x.id:Int),.int .i64 (x.pos:Int),.int .i64 (x.size:Int)] 118 (0,0)):=by
        rw[nJ,Below.heap_alloc _ _ _ (by simp;omega),Below.heap_alloc _ _ _ ji];exact hO4
       clear nJ;have hcn:=Dp ((WA.alloc (.cells #[.int .i64 m.to] 3)).alloc (.cells #[.int .u16 (q:Int)] 23)) (.int .i64 9) (.int .i64 ((fr:Int)+x.pos-2)) (.int .i64 1) (.func (.func 236) #[] #[bJ (wr.heap.size+2+1),bJ (wr.heap.size+2)]) 231;simp only[World.size_alloc,AY] at hcn;have qD:=((((Below.refl _ WA).alloc (aI _) (.cells #[.int .i64 m.to] 3)).alloc (by simp) (.cells #[.int .u16 (q:Int)] 23)).alloc (by simp;omega) (.cells #[.int .i64 9,.int .i64 ((fr:Int)+x.pos-2),.int .i64 1,.func (.func 236) #[] #[bJ (wr.heap.size+2+1),bJ (wr.heap.size+2)]] 231));have jJ:=mE.below mE.bX.size qD;have sM:=(gQ.acF (W:=WA) p q m.to (fun b hb=>mE.fresh (.inl hb) (.inr (by omega)))).mono (W':=((WA.alloc (.cells #[.int .i64 m.to] 3)).alloc (.cells #[.int .u16 (q:Int)] 23)).alloc (.cells #[.int .i64 9,.int .i64 ((fr:Int)+x.pos-2),.int .i64 1,.func (.func 236) #[] #[bJ (wr.heap.size+2+1),bJ (wr.heap.size+2)]] 231)) (by simp) (fun b hb hlt=>⟨Below.heap_alloc _ _ _ hlt,hb⟩);rw[AY] at sM;have AX:(((WA.alloc (.cells #[.int .i64 m.to] 3)).alloc (.cells #[.int .u16 (q:Int)] 23)).alloc (.cells #[.int .i64 9,.int .i64 ((fr:Int)+x.pos-2),.int .i64 1,.func (.func 236) #[] #[bJ (wr.heap.size+2+1),bJ (wr.heap.size+2)]] 231)).heap.size=wr.heap.size+2+1+1+1:=by simp[AY]
       have hrow:=dh.own.lt;have hone:∀u∈[Value.int .i64 9,.int .i64 ((fr:Int)+x.pos-2),.int .i64 1,.func (.func 236) #[] #[bJ (wr.heap.size+2+1),bJ (wr.heap.size+2)]],u.oneCell'=true:=by
        intro u hu;simp only[iH,List.mem_nil_iff,or_false] at hu;rcases hu with rfl|rfl|rfl|rfl<;>rfl
       have hlen:acc.length<=3000000000000:=by
        have l1:=zD (jF p ak fr) 2000000 (fun a=>BG p ak fr a Kt Kr) (L.take i);have l2:=Ed (p.maps.take j) x (fr+x.pos-2);rw[gD] at l1 l2;rw[show acc=_ from hacc,show acc0=_ from sN,bg];omega
       obtain ⟨t0,t1,t2,t3,t4⟩:=hkeep _ qD;have EW:∀w',World.grownBy (World.drew (((WA.alloc (.cells #[.int .i64 m.to] 3)).alloc (.cells #[.int .u16 (q:Int)] 23)).alloc (.cells #[.int .i64 9,.int .i64 ((fr:Int)+x.pos-2),.int .i64 1,.func (.func 236) #[] #[bJ (wr.heap.size+2+1),bJ (wr.heap.size+2)]] 231))) w' (Value.ownBlock u10)->w'.cell? ⟨wr.heap.size+1,0,none⟩=some (.int .i64 9)/\w'.cell? ⟨wr.heap.size+1,1,none⟩=some (.int .i64 ((fr:Int)+x.pos-2))/\w'.cell? ⟨wr.heap.size+1,2,none⟩=some (.int .i64 1)/\w'.cell? ⟨wr.heap.size,1,none⟩=some (.int .i64 m.to)/\w'.cell? ⟨W0.heap.size+1,8,none⟩=some (.int .u16 (q:Int)):=fun w' hg=>⟨hg.cell t0 (fun e=>by have:=hrow _ e.symm;simp at this<;>omega),hg.cell t1 (fun e=>by have:=hrow _ e.symm;simp at this<;>omega),hg.cell t2 (fun e=>by have:=hrow _ e.symm;simp at this<;>omega),hg.cell t3 (fun e=>by have:=hrow _ e.symm;simp at this<;>omega),hg.cell t4 (fun e=>by have:=hrow _ e.symm;simp at this<;>omega)⟩;go_region_held3 (fun w'=>w'.cell? ⟨wr.heap.size+1,0,none⟩=some (.int .i64 9)/\w'.cell? ⟨wr.heap.size+1,1,none⟩=some (.int .i64 ((fr:Int)+x.pos-2))/\w'.cell? ⟨wr.heap.size+1,2,none⟩=some (.int .i64 1)/\w'.cell? ⟨wr.heap.size,1,none⟩=some (.int .i64 m.to)/\w'.cell? ⟨W0.heap.size+1,8,none⟩=some (.int .u16 (q:Int))) (first|exact ⟨s0,s1,s2,s3,s4⟩|exact hkeep _ qD.drew|exact hkeep _ (((Below.refl _ WA).alloc (aI _) _).alloc (by simp) _).drew|assumption|fail) (first
        |(go_at_call 197;refine (adq _ _ _).mono ?_;rintro e w' ⟨rfl,rfl⟩)
        |(refine step_append_lies _ rfl _ _ 227 rfl W2.heap.size 231 i0 _ 4 32 Tryz.underlying227 hi0 hz0' hz1' hz2' rfl (by decide) _ _ ys rfl jJ.own ⟨wr.heap.size+2+1+1,0,none⟩ 1 1 [.int .i64 9,.int .i64 ((fr:Int)+x.pos-2),.int .i64 1,.func (.func 236) #[] #[bJ (wr.heap.size+2+1),bJ (wr.heap.size+2)]] rfl rfl hcn hone (by decide) (by simp only[maxLen];omega) (by omega) jJ.bX.size (wr.heap.size+2+1+1+1) AX ?_;rintro g cap w1 hown hgrow hat hlt;have hS1:=EW w1 hgrow)
        |fail)
       have ec:((fr+x.pos-2:Nat):Int)=(fr:Int)+x.pos-2:=by omega
       have ng:=jJ.add (s:=⟨9,fr+x.pos-2,1,.nI m.to⟩) jJ.bX.size sM (by rw[ec];exact hown) (V3 hgrow) (by
        rcases hat with h|h
        .exact .inl h.symm
        .exact .inr (by rw[h,AX];rfl))
       have A9:w1.heap[O]?=some (.cells #[.int .i64 (x.id:Int),.int .i64 (x.pos:Int),.int .i64 (x.size:Int)] 118 (0,0)):=(hgrow.block O (zx (by omega) qD.size) (fun e=>dh.other hO4 (by decide) e.symm)).trans ((qD.block O (by omega)).trans aO);clear hown hgrow hat hlt hcn qD jJ sM AX hone hkeep EW t0 t1 t2 t3 t4 s0 s1 s2 s3 s4 a1 a2 a3 aO mE n0 n1 o0 o1;go_wp2
       go_roundw
       case rel=>
        refine ⟨j+1,_,_,by simp,by omega,ng,?_,A9⟩;show _=_;rw[List.take_add_one,AZ,Option.toList_some,H6,if_pos hmx,<-dI,<-show acc=_ from hacc]
       case measure=>simp[intOf];omega
      .have hmb:(m.fr==(x.id:Int))=false:=by simpa using hmx
       go_wp2
       go_roundw
       case rel=>
        refine ⟨j+1,acc,ys,by simp,by omega,dh.below dh.bX.size ((Below.refl _ wr).alloc (aI _) _),?_,by rw[Below.heap_alloc _ _ _ ji];exact hO4⟩;show _=_;rw[List.take_add_one,AZ,Option.toList_some,H6,if_neg hmx,jl];exact hacc
       case measure=>simp[intOf];omega
     .obtain rfl:j=p.maps.length:=by omega
      have i2:¬(p.maps.length:Int)<p.maps.length:=by omega
      have g11:wr.cell? ⟨W0.heap.size,11,none⟩=some (.slice oa p.over.length oc):=by
       have:wr.heap[W0.heap.size]?=_:=(dh.bX.block _ (by omega)).trans c12;simp[World.cell?,this]
      rw[eX] at hacc;go_wp2
      go_loopw [69,10] (fun P v w5=>∃(j:Nat) (kI:List fE) (xs:List Value),P= .int .i64 (j:Int)/\j<=p.over.length/\nK (fun b=>N b\/W0.heap.size<=b) W2.heap.size W2 w5 p q v kI xs/\Hid (kI=acc0++qm p.maps x (fr+x.pos-2)++sZ (p.over.take j) x (fr+x.pos))/\w5.heap[O]?=some (.cells #[.int .i64 (x.id:Int),.int .i64 (x.pos:Int),.int .i64 (x.size:Int)] 118 (0,0)))
       (fun P _ _=>p.over.length-(intOf P).toNat)
      case atStart=>exact ⟨0,acc,ys,rfl,bK _,dh,by show _=_;rw[show acc=_ from hacc];simp[sZ],hO4⟩
      case round=>
       clear g11 hO4 dh hacc ji;obtain ⟨j,kI,zs,rfl,hj,dh,hacc,hO4⟩:=hrel;have ji:=(fu.1 hO4).1;by_cases hjl:j<p.over.length
       .have i3:(j:Int)<p.over.length:=by omega
        obtain ⟨y,hyj⟩:∃y,p.over[j]?=some y:=⟨_,iK hjl⟩;obtain ⟨eb,eo,d,dc,rfl,elt,m0,m1,hrd⟩:=ho j y hyj;have n0:wr.cell? ⟨eb,eo+j*2,none⟩=_:=(dh.bX.cell (p:=⟨eb,eo+j*2,none⟩) (zx elt hB2.size)).trans ((hB2.cell (p:=⟨eb,eo+j*2,none⟩) elt).trans m0);have n1:wr.cell? ⟨eb,eo+j*2+1,none⟩=_:=(dh.bX.cell (p:=⟨eb,eo+j*2+1,none⟩) (zx elt hB2.size)).trans ((hB2.cell (p:=⟨eb,eo+j*2+1,none⟩) elt).trans m1);have o0:∀o,(wr.alloc o).cell? ⟨O,0,none⟩=some (.int .i64 (x.id:Int)):=fun o=>by simp[World.cell?,Below.heap_alloc _ _ _ ji,hO4]
        have o1:∀o,(wr.alloc o).cell? ⟨O,1,none⟩=some (.int .i64 (x.pos:Int)):=fun o=>by simp[World.cell?,Below.heap_alloc _ _ _ ji,hO4]
        have o2:∀o,(wr.alloc o).cell? ⟨O,2,none⟩=some (.int .i64 (x.size:Int)):=fun o=>by simp[World.cell?,Below.heap_alloc _ _ _ ji,hO4]
        have w1:IntKind.i64.wrap ((fr:Int)+x.pos)=(fr:Int)+x.pos:=je (n:=(fr:Int)+x.pos) ⟨by omega,by omega⟩;by_cases hyx:y.id=(x.id:Int)
        .have hyb:(y.id==(x.id:Int))=true:=by simpa using hyx
         by_cases hd0:y.data.length=0
         .have hd1:((y.data.length:Nat):Int)=0:=by omega
          have hd2:y.data=[]:=jH hd0;go_wp2
          go_roundw
          case rel=>
           refine ⟨j+1,kI,zs,by simp,by omega,dh.below dh.bX.size ((Below.refl _ wr).alloc (aI _) _),?_,by rw[Below.heap_alloc _ _ _ ji];exact hO4⟩;show _=_;rw[List.take_add_one,hyj,Option.toList_some,BH,if_neg (fun h=>h.2 hd2),jl];exact hacc
          case measure=>simp[intOf];omega
         .have hd1:(0:Int)<(y.data.length:Nat):=by omega
          have hd2:y.data≠[]:=fun e=>hd0 (by rw[e];rfl);have mE:=dh.below dh.bX.size (((Below.refl _ wr).alloc (aI _) (.cells #[.int .i64 (x.id:Int),.slice d y.data.length dc] 103)).alloc (by simp) (.cells #[.int .i64 9,.int .i64 ((fr:Int)+x.pos),.int .i64 (x.size:Int)] 56));have jJ:=dh.below dh.bX.size ((((Below.refl _ wr).alloc (aI _) (.cells #[.int .i64 (x.id:Int),.slice d y.data.length dc] 103)).alloc (by simp) (.cells #[.int .i64 9,.int .i64 ((fr:Int)+x.pos),.int .i64 (x.size:Int)] 56)).alloc (by simp;omega) (.cells #[.int .i64 9,.int .i64 ((fr:Int)+x.pos),.int .i64 (x.size:Int),.func (.func 198) #[] #[bJ wr.heap.size]] 231));have hcn:=Dp ((wr.alloc (.cells #[.int .i64 (x.id:Int),.slice d y.data.length dc] 103)).alloc (.cells #[.int .i64 9,.int .i64 ((fr:Int)+x.pos),.int .i64 (x.size:Int)] 56)) (.int .i64 9) (.int .i64 ((fr:Int)+x.pos)) (.int .i64 (x.size:Int)) (.func (.func 198) #[] #[bJ wr.heap.size]) 231;simp only[World.size_alloc] at hcn;have hlen:kI.length<=3000000000000:=by
           have l1:=zD (jF p ak fr) 2000000 (fun a=>BG p ak fr a Kt Kr) (L.take i);have l2:=Ed p.maps x (fr+x.pos-2);have l3:=NI (p.over.take j) x (fr+x.pos);rw[gD] at l1 l3;rw[show kI=_ from hacc,show acc0=_ from sN,bg,bg];omega
          have hone:∀u∈[Value.int .i64 9,.int .i64 ((fr:Int)+x.pos),.int .i64 (x.size:Int),.func (.func 198) #[] #[bJ wr.heap.size]],u.oneCell'=true:=by
           intro u hu;simp only[iH,List.mem_nil_iff,or_false] at hu;rcases hu with rfl|rfl|rfl|rfl<;>rfl
          go_wp2_with (at_builtin;refine wpList_append_lies _ rfl _ _ 227 rfl W2.heap.size 231 i0 _ 4 32 Tryz.underlying227 hi0 hz0' hz1' hz2' rfl (by decide) _ _ zs rfl jJ.own ⟨wr.heap.size+1+1,0,none⟩ 1 1 [.int .i64 9,.int .i64 ((fr:Int)+x.pos),.int .i64 (x.size:Int),.func (.func 198) #[] #[bJ wr.heap.size]] rfl rfl hcn hone (by decide) (by simp only[maxLen];omega) (by omega) jJ.bX.size (wr.heap.size+1+1+1) (by simp) ?_;rintro g cap w1 hown hgrow hat hlt)
          have hrow:=dh.own.lt;have b1:((wr.alloc (.cells #[.int .i64 (x.id:Int),.slice d y.data.length dc] 103)).alloc (.cells #[.int .i64 9,.int .i64 ((fr:Int)+x.pos),.int .i64 (x.size:Int)] 56)).heap[wr.heap.size]?=some (.cells #[.int .i64 (x.id:Int),.slice d y.data.length dc] 103 (0,0)):=by
           rw[Below.heap_alloc _ _ _ (by simp)];exact World.alloc_heap_new wr _
          have sM:gQ (((wr.alloc (.cells #[.int .i64 (x.id:Int),.slice d y.data.length dc] 103)).alloc (.cells #[.int .i64 9,.int .i64 ((fr:Int)+x.pos),.int .i64 (x.size:Int)] 56)).alloc (.cells #[.int .i64 9,.int .i64 ((fr:Int)+x.pos),.int .i64 (x.size:Int),.func (.func 198) #[] #[bJ wr.heap.size]] 231)) (MZ (fun b=>N b\/W0.heap.size<=b) u10) p q (.data y.data) (.func (.func 198) #[] #[bJ wr.heap.size]):=by
           refine ⟨_,_,_,rfl,dh.fresh (.inl (aI _)) (.inr (by omega)),(Below.heap_alloc _ _ _ (by simp;omega)).trans b1,?_⟩;have jq:Below W0.heap.size W0 (((wr.alloc (.cells #[.int .i64 (x.id:Int),.slice d y.data.length dc] 103)).alloc (.cells #[.int .i64 9,.int .i64 ((fr:Int)+x.pos),.int .i64 (x.size:Int)] 56)).alloc (.cells #[.int .i64 9,.int .i64 ((fr:Int)+x.pos),.int .i64 (x.size:Int),.func (.func 198) #[] #[bJ wr.heap.size]] 231)):=hB2.trans (jJ.bX.mono hB2.size);exact hrd.mono jq.size (fun b hb hlt=>⟨jq.block b hlt,dh.fresh (.inr (zx hlt hB2.size)) (.inl hb)⟩)
          have ng:=jJ.add (s:=⟨9,fr+x.pos,x.size,.data y.data⟩) jJ.bX.size sM (by rw[show ((fr+x.pos:Nat):Int)=(fr:Int)+x.pos from by omega];exact hown) hgrow (by
           rcases hat with h|h
           .exact .inl h.symm
           .exact .inr (by rw[h];simp[Value.ownBlock]))
          have A9:w1.heap[O]?=some (.cells #[.int .i64 (x.id:Int),.int .i64 (x.pos:Int),.int .i64 (x.size:Int)] 118 (0,0)):=(hgrow.block O (by simp;omega) (fun e=>dh.other hO4 (by decide) e.symm)).trans ((Below.heap_alloc _ _ _ (by simp;omega)).trans ((Below.heap_alloc _ _ _ (by simp;omega)).trans ((Below.heap_alloc _ _ _ ji).trans hO4)));refine ⟨⟨j+1,_,_,by simp,by omega,ng,?_,A9⟩,by simp[intOf];omega⟩;show _=_;rw[List.take_add_one,hyj,Option.toList_some,BH,if_pos ⟨hyx,hd2⟩,<-dI,<-show kI=_ from hacc]
        .have hyb:(y.id==(x.id:Int))=false:=by simpa using hyx
         go_wp2
         go_roundw
         case rel=>
          refine ⟨j+1,kI,zs,by simp,by omega,dh.below dh.bX.size ((Below.refl _ wr).alloc (aI _) _),?_,by rw[Below.heap_alloc _ _ _ ji];exact hO4⟩;show _=_;rw[List.take_add_one,hyj,Option.toList_some,BH,if_neg (fun h=>hyx h.1),jl];exact hacc
         case measure=>simp[intOf];omega
       .obtain rfl:j=p.over.length:=by omega
        have i3:¬(p.over.length:Int)<p.over.length:=by omega
        go_wp2
        go_roundw
        case rel=>
         refine ⟨i+1,kI,zs,by simp,by omega,dh,?_⟩;show _=_;rw[eX] at hacc;rw[show kI=_ from hacc,List.take_add_one,hx,Option.toList_some,List.flatMap_append,List.flatMap_singleton,aaW,hA,<-show acc0=_ from sN,dI]
        case measure=>simp[intOf];omega
   .obtain rfl:i=L.length:=by omega
    have i1:¬(L.length:Int)<L.length:=by omega
    go_wp2
    go_ret
    rw[eX] at sN;obtain rfl:acc0=R:=(show acc0=_ from sN).trans (show R=_ from hR).symm;exact ⟨_,rfl,xs,EP hE.own hB2.size,hE.sk,hB2.trans (hE.bX.mono hB2.size)⟩
end Go.Vc
