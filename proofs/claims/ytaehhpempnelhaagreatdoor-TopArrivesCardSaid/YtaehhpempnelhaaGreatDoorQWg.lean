/-
  Stay: the walk. The contract of stay.Stay.
-/
import Derived.Test.YtaehhpempnelhaaGreatDoorQTx10
import Derived.IntWalk
set_option maxRecDepth 100000
namespace Go.Vc
open Go Go.Proofs Go.Plain Go.RowKit Go.Shelf
theorem am5(b:List UInt8)(k n:Nat)(h:k<b.length)(hn:1<=n):at_ ((b.drop k).take n) 0=at_ b k:=by
 rw[uP h];obtain ⟨m,rfl⟩:∃m,n=m+1:=⟨n-1,by omega⟩;simp[at_,List.getD,h]
theorem apu{w:World}{g:Nat}{bs:List UInt8}{sp:List Value}{et:TypeId}(h:w.heap[g]?=some (.cells (vb bs++sp).toArray et (0,0))){k:Nat}(hk:k<bs.length):w.cell? ⟨g,k,none⟩=some (.int .u8 (at_ bs k:Nat)):=by
 simp only[World.cell?,h];simp[vb,at_,List.getD,hk,rD]
theorem aot:(Tryz.prog.info? 5).map (·.size)=some 1:=by kernel_rfl
theorem apN{w:World}{N:Nat->Prop}{r:Value}{d:List UInt8}(h:bq w N aQ r (B d)):∃ra rc,r= .slice ra d.length rc/\Hid (0<(vb d).length->∃ad,ra=some ad/\∀j v,(vb d)[j]?=some v->w.cell? (ad.add j)=some v):=by
 obtain ⟨ra,rc,rfl,h2⟩:=OI h;refine ⟨ra,rc,rfl,fun h0=>?_⟩;obtain ⟨b,off,rfl,_,_,hc⟩:=h2 (by simpa [vb] using h0);refine ⟨_,rfl,fun j v hj=>?_⟩;obtain ⟨x,hx,rfl⟩:∃x,d[j]?=some x/\Value.int .u8 (x.toNat:Int)=v:=by
  unfold vb at hj;rw[kM] at hj;exact uO.1 hj
 have ea:(⟨b,off,none⟩:Addr).add j=⟨b,off+j,none⟩:=by unfold Addr.add;split<;>simp_all
 rw[ea];exact hc j x hx
theorem apl(i:Nat):Value.int .i64 ((i:Int)+1)= .int .i64 ((i+1:Nat):Int):=by simp
theorem an4(i n:Nat)(h:i<n):n-(intOf (Value.int .i64 ((i:Int)+1))).toNat<n-(intOf (Value.int .i64 (i:Int))).toNat:=by
 simp only[intOf];omega
set_option maxHeartbeats 4000000 in
theorem alc(W0:World)(aL:KW Tryz.prog W0)(pv bv:Value)(p:Pl)(b:List UInt8)(k:Pk)(hkk:Hid (bG b=k))(hp:bq W0 (fun b=>b<W0.heap.size) eu pv (eD p))(hb:bq W0 (fun b=>b<W0.heap.size) aQ bv (B b))(hbl:b.length<=1000000)(few:iE p)(num:gH p)(hE:jW p b=0)
  (h0:b≠[]) (L:List fE) (hL:Hid (strokes p k=L)) (hok:∀s∈L,Fh p (iC k) b.length s) (hsz:∀s∈L,1<=s.size) (ad8:∀s∈L,∀to,s.dr= .nI to->1<=to/\to<=255) (hty:0<=p.ty/\p.ty<=127) (hLl:L.length<=3000000000000):
  Calls Tryz.prog 75 #[pv,bv] W0 fun e W'=>∃g cap,e= .returned (.tuple #[.slice (some ⟨g,0,none⟩) b.length cap,.int .i64 0])/\W0.heap.size<=g/\∃et sp,W'.heap[g]?=some (.cells (vb (L.foldl (sG p (iC k)) b)++sp).toArray et (0,0))/\b.length+sp.length=cap/\cap<=maxLen/\Below W0.heap.size W0 W':=by
 have hp0:=hp;obtain ⟨mv,ov,dv,av,rfl,_⟩:=uo hp;obtain ⟨ba,bc,rfl,_⟩:=OI hb;have hbX:=Below.alloc (Below.refl W0.heap.size W0) (aI _) (.cells #[.bool p.sm,.bool p.m,.bool p.st,.int .i64 p.ty,.bool p.sq,.int .u16 p.seq,.bool p.bL,.int .u32 p.time,.bool p.ss,.int .u32 p.aN,mv,ov,dv,av,.bool p.np] 29);have hst:=X9 _ (aL.below hbX) _ _ p b (dw hp0 hbX) (dw hb hbX) hbl few num;rw[hE,show bG b=k from hkk,show strokes p k=L from hL] at hst;have ad5:=aL.below hbX;have aee:=dw hb hbX;clear hp hp0 hb aL;go_enter Tryz.func75,Tryz.ntmps75
 go_wp2_with (first
  |(go_at_call 119;refine hst.mono ?_;rintro e W1 ⟨v,rfl,hb1,h1⟩;obtain ⟨xs,hown,hsk⟩:=h1 rfl;obtain ⟨va,vc,rfl,hcells⟩:=apY hown;clear hst;have Az:=ad5.below hb1;have aed:=dw aee hb1)
  |(go_at_call 77;refine (apv W1 Az _ b aed hbl h0).mono ?_;rintro e W2 ⟨g,cap,et,sp,rfl,hg,hrow,hcap,hmax,hb2⟩)
  |fail)
 clear ad5 aee;have Ka:Below W0.heap.size W0 W1:=hbX.trans (hb1.mono (by simp));clear hb1 hown h1 hbX;go_loopw [25] (fun P wr=>∃i:Nat,P= .int .i64 (i:Int)/\i<=L.length/\Below W1.heap.size W1 wr/\Hid (wr.heap[g]?=some (.cells (vb ((L.take i).foldl (sG p (iC k)) b)++sp).toArray et (0,0))))
  (fun P _=>L.length-(intOf P).toNat)
 case atStart=>exact ⟨0,rfl,bK _,hb2,hrow⟩
 case round=>
  obtain ⟨i,rfl,hi,hbr,hgr⟩:=hrel;by_cases hil:i<L.length
  .have i1:(i:Int)<L.length:=by omega
   obtain ⟨s,hs⟩:∃s,L[i]?=some s:=⟨_,iK hil⟩;have hsm:s∈L:=List.mem_of_getElem? hs;obtain ⟨f,x0,x1,x2,x3,hdr⟩:=hsk.at hs;obtain ⟨gs,rfl,lV,hlt,y0⟩:=hcells _ _ x0;obtain ⟨g1,e1,_,_,y1⟩:=hcells _ _ x1;obtain ⟨g2,e2,_,_,y2⟩:=hcells _ _ x2;obtain ⟨g3,e3,_,_,y3⟩:=hcells _ _ x3;cases e1;cases e2;cases e3;have z0:wr.cell? ⟨gs,i*4,none⟩=_:=(hbr.cell (p:=⟨gs,i*4,none⟩) hlt).trans y0;have z1:wr.cell? ⟨gs,i*4+1,none⟩=_:=(hbr.cell (p:=⟨gs,i*4+1,none⟩) hlt).trans y1;have z2:wr.cell? ⟨gs,i*4+2,none⟩=_:=(hbr.cell (p:=⟨gs,i*4+2,none⟩) hlt).trans y2;have z3:wr.cell? ⟨gs,i*4+3,none⟩=_:=(hbr.cell (p:=⟨gs,i*4+3,none⟩) hlt).trans y3;have hlen:=an0 hok i;obtain ⟨ok1,ok2⟩:=hok s hsm;have hs1:=hsz s hsm;generalize hbs:(L.take i).foldl (sG p (iC k)) b=bs at hgr hlen;have hgl:g<wr.heap.size:=(fu.1 (show wr.heap[g]?=_ from hgr)).1;have hb3:=hbr.alloc hbr.size (.cells #[.int .i64 s.field,.int .i64 (s.pos:Int),.int .i64 (s.size:Int),f] 231);have hg3:(wr.alloc (.cells #[.int .i64 s.field,.int .i64 (s.pos:Int),.int .i64 (s.size:Int),f] 231)).heap[g]?=_:=(Below.heap_alloc _ _ _ hgl).trans hgr;obtain ⟨F,caps,hF,rfl,hcall⟩:=(hdr.mono (W':=wr.alloc (.cells #[.int .i64 s.field,.int .i64 (s.pos:Int),.int .i64 (s.size:Int),f] 231)) (M':=fun _=>True) hb3.size (fun b _ hlt=>⟨hb3.block b hlt,trivial⟩)).draws _ (Az.below hb3) _ _ _ _ _ hty (ad8 s hsm) g s.pos s.size (cap-s.pos) ((bs.drop s.pos).take s.size) hs1 (by rw[am5 _ _ _ (by omega) hs1];exact apu hg3 (by omega));have hone:=hdr.one;have aqc:=fun (P:Program) (w:World) (a:Addr) (m:Mode)=>run_store P w a (.func (.func F) #[] caps) m hone;obtain ⟨d,hd⟩:∃d,s.dr.draw p (iC k) ((bs.drop s.pos).take s.size)=d:=⟨_,rfl⟩;have hdl:d.length=s.size:=by rw[<-hd];exact ok1 _
   rw[show decide (k.aD=48862)=iC k from rfl,hd] at hcall;have hfit:s.pos+(vb d).length<=(vb bs++sp).length:=by simp[vb];omega
   have hmin:(vb d).length=Nat.min d.length s.size:=by
    show _=min d.length s.size;rw[hdl,Nat.min_self];simpa [vb] using hdl
   have u8i:=aot;have hv1:=apB d;have hfin:Hid (_root_.Go.splice (vb bs++sp) s.pos (vb d)=vb ((L.take (i+1)).foldl (sG p (iC k)) b)++sp):=by
    show _=_;rw[ama _ _ _ _ (by omega),List.take_add_one,hs,Option.toList_some,List.foldl_append,hbs,<-hd];rfl
   have hend:Hid (∀w5:World,Below W1.heap.size W1 w5->w5.heap[g]?=some (.cells (_root_.Go.splice (vb bs++sp) s.pos (vb d)).toArray et (0,0))->
     (∃i1:Nat,Value.int .i64 ((i:Int)+1)= .int .i64 (i1:Int)/\i1<=L.length/\Below W1.heap.size W1 w5/\Hid (w5.heap[g]?=some (.cells (vb ((L.take i1).foldl (sG p (iC k)) b)++sp).toArray et (0,0))))/\
      L.length-(intOf (Value.int .i64 ((i:Int)+1))).toNat<L.length-(intOf (Value.int .i64 (i:Int))).toNat):=by
    intro w5 hb6 hg5;refine ⟨⟨i+1,apl i,hil,hb6,?_⟩,an4 i _ hil⟩;show _=_;rw[<-show _=_ from hfin];exact hg5
   have HK:Hid ((vb d).length=Nat.min d.length s.size/\s.pos+(vb d).length<=(vb bs++sp).length/\∀v∈vb d,v.oneCell'=true):=⟨hmin,hfit,hv1⟩;clear hfin hd hbs hs ad8 hsz hmin hfit hv1 hok hcells hsk hdl hlen hsm ok1 hgr y0 y1 y2 y3 x0 x1 x2 x3 hkk hL hdr hE few num hty h0 Ka hb2 hrow hmax aed Az;have hcf:∀(vs:Array Value) (w:World),Sem.run Tryz.prog (callFunc F vs) w= .ok (.enter F vs) w:=by
    rcases hF with rfl|rfl|rfl|rfl;all_goals
     intro vs w;kernel_rfl
   clear hF;go_wp2_with (first
    |(with_reducible refine hcall.mono ?_;rintro e w3 ⟨r,rfl,hr,hb4⟩;obtain ⟨ra,rc,rfl,HS⟩:=apN hr;have hg4:=(hb4.block g (by simp;omega)).trans hg3;have hb5:=hb3.trans (hb4.mono hb3.size);clear hcall hr hb4 hg3 hb3 hone aqc)
    |((with_reducible show wpList _ _ _ _ _ _);refine wpList_copy_splice (o:=⟨some 46,_,_,_,_,_⟩) rfl (.tmp 41) (.tmp 45) 22 22 rfl 5 Tryz.underlying22 u8i _ _ _ _ _ _ rfl rfl g s.pos (vb bs++sp) et hg4 (vb d) HK.out.1 (fun h=>⟨rfl,HS.out h⟩) HK.out.2.1 HK.out.2.2 W1.heap.size W1 hb5 hg ?_;intro w5 hg5 hb6;clear HS hg4 hb5 hbr z0 z1 z2 z3)
    |fail)
   exact hend.out w5 hb6 hg5
  .obtain rfl:i=L.length:=by omega
   have i1:¬(L.length:Int)<L.length:=by omega
   rw[eX] at hgr;go_wp2
   refine bodyPost_ret (results_tmp2 rfl _ _ _) rfl ?_;exact ⟨g,cap,rfl,kL Ka.size hg,et,sp,hgr,hcap,hmax,Ka.trans (hbr.mono Ka.size)⟩
end Go.Vc
