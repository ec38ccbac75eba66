/-
  Contracts of functions of the program, each out of its condition or by a walk, and plain lemmas.
-/
import Derived.Test.YtaehhpempnelhaaGreatDoorQTx8
set_option maxRecDepth 100000
namespace Go.Vc
open Go Go.Proofs Go.RowKit Go.Plain Tryz
def BN(l:List (Int×List UInt8)):List Value:=l.flatMap fun x=> [.int .i64 x.1,.string ⟨x.2.toArray⟩]
def DW(b:List UInt8)(src:Int):Nat->Nat->List (Int×List UInt8)->(Int×List (Int×List UInt8))×Nat×Int
 |0,q,_=>((0,[]),q,0)
 |f+1,q,its=>if b.length<=q then((0,[]),q,2)else if at_ b q=0 then((src,its),q/4*4+4,0)else
  if(sM b q).2.2.2≠0 then((0,[]),(sM b q).2.2.1,(sM b q).2.2.2)else DW b src f (sM b q).2.2.1 (its++ [((sM b q).1,(sM b q).2.1)])
def xI(b:List UInt8)(p:Nat):(Int×List (Int×List UInt8))×Nat×Int:=
 if qx b.length p 4≠0 then((0,[]),p,2)else DW b ((mX b p 4%4294967296:Nat):Int) (b.length+1) (p+4) []
def Vq(W:World)(rb:Nat):Nat:=match W.cell? ⟨rb,1,none⟩with|some (.int _ n)=>n.toNat|_=>0
theorem mK.pos{W:World}{rb:Nat}{sv:Value}{p:Nat}(h:mK W rb sv p):Vq W rb=p:=by
 unfold Vq;rw[h.cell1];simp
theorem ai6{b:List UInt8}{q:Nat}(h:(sM b q).2.2.2=0):q+2<=(sM b q).2.2.1/\(sM b q).2.2.1<=b.length:=by
 unfold sM at*;split at h
 .cases h
 split at h
 .cases h
 split at h
 .cases h
 rw[zq (by assumption),zq (by assumption),zq (by assumption)];simp only;omega
theorem az6(W:World)(aX:KW prog W)(N:Nat->Prop)(sv:Value)(b:List UInt8)(hb:b.length<=70000)(p:Nat)(hsv:bV W N aV sv (B b)):
  Calls prog 145 #[sv,.int .i64 (p:Nat),.int .i64 4] W fun e w'=>e=.returned (.tuple #[.int .u64 (mX b p 4:Nat),.int .i64 (qx b.length p 4)])/\Below W.heap.size W w':=by
 have h:=(PC.oF (by decide) (sP b p 4 (by omega))).2 W N [sv,.int .i64 (p:Nat),.int .i64 4] aX ⟨_,_,rfl,hsv,_,_,rfl,⟨_,rfl,rfl⟩,_,_,rfl,⟨_,rfl,rfl⟩,rfl⟩;refine h.mono ?_;rintro e w' ⟨v,rfl,⟨vs,⟨v1,r1,rfl,⟨_,h1,rfl⟩,v2,r2,rfl,⟨_,h2,rfl⟩,rfl⟩,rfl⟩,hb⟩;simp only[Rd]at h1 h2;subst h1 h2;exact⟨rfl,hb⟩
theorem azp:(prog.info? 326).map (fun i=>(i.zero,i.size,i.bytes))=some (some (.agg #[.int .i64 0,.string ⟨#[]⟩]),2,24):=by kernel_rfl
theorem G7{W:World}{B:Nat}{x y:Value}(h:W.heap[B]?=some (.cells #[x,y] 259 (0,0))):W.cell? ⟨B,0,none⟩=some x/\W.cell? ⟨B,1,none⟩=some y/\∀j,W.frozen? ⟨B,j,none⟩=false:=by
 refine⟨?_,?_,iY h⟩<;>rw[fA h]<;>rfl
theorem aha{W W1 W2:World}{row:Option Nat}(g:W.grownBy W1 row)(h:Below W1.heap.size W1 W2):W.grownBy W2 row:=jY g ⟨h.os,h.tape,h.output,h.size,fun k hk _=>h.block k hk⟩
structure FY (W:World) (rb cb:Nat) (sv:Value) (b:List UInt8) (src:Nat) (R:(Int×List (Int×List UInt8))×Nat×Int) (wr:World) (f q:Nat) (its:List (Int×List UInt8)) (v:Value):Prop where
 rd:mK wr rb sv q
 le:q<=b.length
 fu:b.length<q+f
 go:DW b (src:Nat) f q its=R
 out:wr.heap[W.heap.size]?=some (.cells #[.int .u32 0,.slice none 0 0] 259 (0,0))
 ch:wr.heap[cb]?=some (.cells #[.int .u32 (src:Nat),v] 259 (0,0))
 row:wr.ownsRow W.heap.size 326 2 v its.length (BN its)
 gr:W.grownBy wr (some rb)
 few:its.length<=q
theorem FY.body{W:World}{rb cb:Nat}{a:Option Addr}{cap:Nat}{b:List UInt8}{src:Nat}{R:(Int×List (Int×List UInt8))×Nat×Int}{wr:World}{f q:Nat}{its:List (Int×List UInt8)}{v:Value}(h:FY W rb cb (.slice a b.length cap) b src R wr f q its v)(hB:uG W rb a cap b):uG wr rb a cap b:=
 hB.keep h.gr.size fun k hk hn=>h.gr.block k hk (by simpa using hn)
theorem FY.form{W:World}{rb cb:Nat}{sv:Value}{b:List UInt8}{src:Nat}{R:(Int×List (Int×List UInt8))×Nat×Int}{wr:World}{f q:Nat}{its:List (Int×List UInt8)}{v:Value}(h:FY W rb cb sv b src R wr f q its v):∃va vc,v=.slice va its.length vc:=by
 rcases h.row.2 with⟨e,h0⟩|⟨g,c,cur,e,_⟩
 .exact ⟨none,0,by rw[e,h0]⟩
 exact ⟨_,_,e⟩
set_option maxHeartbeats 8000000 in
theorem avw(W:World)(aX:KW prog W)(rb:Nat)(hkr:∀g,wC prog g->g<rb)(a:Option Addr)(cap:Nat)(b:List UInt8)(hb:b.length<=70000)(hb4:b.length%4=0)(p:Nat)(_:p<=b.length)(R:(Int×List (Int×List UInt8))×Nat×Int)(hR:xI b p=R)(h:mK W rb (.slice a b.length cap) p)(hB:uG W rb a cap b):
  Calls prog 140 #[.pointer (some ⟨rb,0,none⟩)] W fun e W'=>∃v,e=.returned (.tuple #[.agg #[.int .u32 R.1.1,v],.int .i64 R.2.2])/\W'.ownsRow W.heap.size 326 2 v R.1.2.length (BN R.1.2)/\mK W' rb (.slice a b.length cap) R.2.1/\W.grownBy W' (some rb):=by
 have hlt:=h.lt;have c0:=h.cell0;have c1:=h.cell1;obtain⟨Wz,yU⟩:∃Wz,(W.alloc (.cells #[.int .u32 0,.slice none 0 0] 259)).drew=Wz:=⟨_,rfl⟩;have gz:W.grownBy Wz (some rb):=by rw[<-yU];exact sQ (Am W _ _)
 have hsz:Wz.heap.size=W.heap.size+1:=by rw[<-yU];simp[World.drew]
 have oz:∀k,k<W.heap.size->Wz.heap[k]?=W.heap[k]?:=fun k hk=>by rw[<-yU];exact iT W _ k hk
 have WX:Wz.heap[W.heap.size]?=some (.cells #[.int .u32 0,.slice none 0 0] 259 (0,0)):=by rw[<-yU];exact mZ W _
 have hkz:KW prog Wz:=aX.keep fun g hg=>oz g (aX.lt hg);have Ed:=h.keep (oz rb hlt);have z0:=Ed.cell0;have z1:=Ed.cell1;have Xa:uG Wz rb a cap b:=hB.keep gz.size fun k hk _=>oz k hk;have hget:=az6 Wz hkz _ (.slice a b.length cap) b hb p ⟨_,Xa,rfl⟩;unfold xI at hR;by_cases he:qx b.length p 4=0
 .have hle:p+4<=b.length:=by have:=zi.1 he;omega
  rw[zq (fun h=>h he)]at hR;have hv:=ahK b p 4;rw[he]at hget;generalize hgv:mX b p 4=gv at*;obtain⟨src,hsrc⟩:∃s:Nat,gv%4294967296=s:=⟨_,rfl⟩;rw[hsrc]at hR;have hsr:(gv:Int)%4294967296=(src:Int):=by omega
  obtain⟨i0,hi,hz0,hz1,hz2⟩:=yN azp;go_enter func140,ntmps140
  go_wp2
  go_region_with (go_at_call 145;refine hget.mono ?_;rintro e W1 ⟨rfl,hb1⟩;have Jw:=(hb1.block _ (by omega)).trans WX;have yV:=Ed.keep (hb1.block rb (by omega));have r0:=yV.cell0;have r1:=yV.cell1;have rz:=fun j=>iY yV j)
  all_goals
   go_wp2
   have hlt1:W.heap.size<W1.heap.size:=kH Jw;have hR2:=yV.set (p+4);have g2:=jY (aha gz hb1) (uq W1 rb 1 (.int .i64 ((p+4:Nat):Int)));have hO2:=(gu W1 ⟨rb,1,none⟩ (.int .i64 ((p+4:Nat):Int)) W.heap.size (by simp;omega)).trans Jw;have hs2:(W1.setCell ⟨rb,1,none⟩ (.int .i64 ((p+4:Nat):Int))).heap.size=W1.heap.size:=by simp[World.setCell]
   rw[show(p:Int)+4=((p+4:Nat):Int) by omega];generalize W1.setCell ⟨rb,1,none⟩ (.int .i64 ((p+4:Nat):Int))=W2 at*;have st0:FY W rb W1.heap.size (.slice a b.length cap) b src R (W2.alloc (.cells #[.int .u32 (src:Nat),.slice none 0 0] 259)) (b.length+1) (p+4) [] (.slice none 0 0):=
    ⟨hR2.keep (iT _ _ _ hR2.lt),hle,by omega,hR,(iT _ _ _ (by omega)).trans hO2,by rw[<-hs2];exact mZ W2 _,kF _ _ _ _,xM g2 _,cu _⟩
   clear hget hkz yV Ed Xa Jw WX hb1 r0 r1 rz z0 z1 gz hR2 hO2 g2 yU hsz oz hR;go_loopw [] (fun wr=>∃f q its v,FY W rb W1.heap.size (.slice a b.length cap) b src R wr f q its v) (fun wr=>b.length+1-Vq wr rb)
   case atStart=>exact⟨_,_,_,_,st0⟩
   case round=>
    clear st0;obtain⟨f,q,its,v,st⟩:=hrel;obtain⟨va,vc,rfl⟩:=st.form;have k0:=st.rd.cell0;have k1:=st.rd.cell1;have kz:=fun j=>iY st.rd j;obtain⟨o0,o1,oz⟩:=G7 st.out;obtain⟨x0,x1,xz⟩:=G7 st.ch;have hG:=st.go;obtain⟨f,rfl⟩:∃g,f=g+1:=⟨f-1,by have:=st.fu;have:=st.le;omega⟩;unfold DW at hG;by_cases c1:b.length<=q
    .rw[aC c1]at hG;have t1:(b.length:Int)<=(q:Int):=by omega
     subst hG;go_wp2
     go_region
     go_wp2
     obtain⟨y1,y2,y3⟩:=Hf st.out (.int .u32 0) (.slice none 0 0);have g4:=y3 W _ st.gr (aS _);have qZ:=st.rd.keep (y2 rb (by omega));generalize (wr.setCell ⟨W.heap.size,0,none⟩ (.int .u32 0)).setCell ⟨W.heap.size,1,none⟩ (.slice none 0 0)=We at*;refine fD (nX (cs:= #[.int .u32 0,.slice none 0 0]) rfl _ We.drew W.heap.size 259 (0,0) _ rfl y1 underlying259 rfl (by kernel_rfl) _ rfl) rfl ?_;exact⟨_,rfl,kF _ _ _ _,qZ,sQ g4⟩
    .rw[zq c1]at hG;have t1:¬(b.length:Int)<=(q:Int):=by omega
     obtain⟨kb,o,rfl,aCl,hkb2,cx⟩:=(st.body hB).at (show q<b.length by omega);have hx:=gN b q;have hcb:=kH st.ch;have hnb:W1.heap.size≠rb:=by omega
     by_cases c2:at_ b q=0
     .rw[aC c2]at hG;rw[c2]at cx;subst hG;have hq4:((q:Int)).tdiv 4=((q/4:Nat):Int):=by rw[Int.tdiv_eq_ediv_of_nonneg (by omega)];omega
      have hle2:=st.le;go_wp2
      go_region
      go_wp2
      go_region
      go_wp2
      have qZ:=st.rd.set (q/4*4+4);have hO4:(wr.setCell ⟨rb,1,none⟩ (.int .i64 ((q/4*4+4:Nat):Int))).heap[W.heap.size]?=_:=(gu _ _ _ _ (by simp;omega)).trans st.out;have hr4:=st.row.kept (uq wr rb 1 (.int .i64 ((q/4*4+4:Nat):Int))) (.inr fun e=>by have:=(eP st.row e).1;omega);have g3:=jY st.gr (uq wr rb 1 (.int .i64 ((q/4*4+4:Nat):Int)));rw[show(q:Int)/4*4+4=((q/4*4+4:Nat):Int) by omega];generalize wr.setCell ⟨rb,1,none⟩ (.int .i64 ((q/4*4+4:Nat):Int))=W4 at*;obtain⟨y1,y2,y3⟩:=Hf hO4 (.int .u32 (src:Nat)) (.slice va its.length vc);have g4:=y3 W _ g3 (aS _);have Cu:=qZ.keep (y2 rb (by omega));have hr5:=gK hr4 fun g hg=>y2 g (fun e=>jO hr4 hO4 (by decide) (by rw[hg,e]));generalize (W4.setCell ⟨W.heap.size,0,none⟩ (.int .u32 (src:Nat))).setCell ⟨W.heap.size,1,none⟩ (.slice va its.length vc)=We at*;refine fD (nX (cs:= #[.int .u32 (src:Nat),.slice va its.length vc]) rfl _ We.drew.drew W.heap.size 259 (0,0) _ rfl y1 underlying259 rfl (by kernel_rfl) _ rfl) rfl ?_;exact⟨_,rfl,hr5,Cu,sQ (sQ g4)⟩
     .rw[zq c2]at hG;obtain⟨⟨ty,tx,q',er⟩,hX⟩:∃X,sM b q=X:=⟨_,rfl⟩;have hok:= @ai6 b q;rw[hX]at hG hok;simp only at hG hok;obtain⟨Wd,hWd⟩:∃Wd,wr.drew.drew=Wd:=⟨_,rfl⟩;have Ms:mK Wd rb (.slice (some ⟨kb,o,none⟩) b.length cap) q:=by rw[<-hWd];exact st.rd
      have hBd:uG Wd rb (some ⟨kb,o,none⟩) cap b:=(st.body hB).keep (by rw[<-hWd];exact aS _) fun k _ _=>by rw[<-hWd];rfl
      have hkd:KW prog Wd:=aX.keep fun g hg=>by rw[<-hWd];exact st.gr.block g (aX.lt hg) (by have:=hkr g hg;simp;omega)
      have WY:Wd.heap[W.heap.size]?=some (.cells #[.int .u32 0,.slice none 0 0] 259 (0,0)):=by rw[<-hWd];exact st.out
      have hCd:Wd.heap[W1.heap.size]?=some (.cells #[.int .u32 (src:Nat),.slice va its.length vc] 259 (0,0)):=by rw[<-hWd];exact st.ch
      have hrd:Wd.ownsRow W.heap.size 326 2 (.slice va its.length vc) its.length (BN its):=by rw[<-hWd];exact st.row
      have hgd:W.grownBy Wd (some rb):=by rw[<-hWd];exact sQ (sQ st.gr)
      have hle2:=st.le;have hfu:=st.fu;have aDL:=st.few;have hit:=awD Wd hkd rb hkr _ cap b hb q hle2 _ hX Ms hBd;have WK:=kH WY;have hlC:=kH hCd;have d0:=Ms.cell0;have d1:=Ms.cell1;have dx:Wd.cell? ⟨kb,o+q,none⟩=some (.int .u8 (at_ b q:Nat)):=by rw[<-hWd];exact cx
      clear hkd hBd hX;by_cases c3:er=0
      .rw[zq (fun h=>h c3)]at hG;have hok2:=hok c3;subst c3;go_wp2
       go_region
       go_wp2
       go_region
       go_wp2_with (first
        |(go_at_call 182;refine hit.mono ?_;rintro e W3 ⟨rfl,kU,g3⟩;have hO3:=(g3.block _ WK (by simp;omega)).trans WY;have Ef:=(g3.block _ hlC (by simp;omega)).trans hCd;have l3:=kH hO3;have l4:=kH Ef;have hr3:=hrd.kept g3 (.inr fun e=>by have:=(eP hrd e).1;omega);obtain⟨w0,w1,wz⟩:=G7 Ef)
        |(at_builtin;refine wpList_append_lies _ rfl _ _ 257 rfl W.heap.size 326 i0 _ 2 24 underlying257 hi hz0 hz1 hz2 rfl (by decide) (.slice va its.length vc) its.length (BN its) rfl ((hr3.alloc _).alloc _) ⟨W3.heap.size+1,0,none⟩ 1 1 [.int .i64 ty,.string ⟨tx.toArray⟩] rfl rfl (by have:=Ri (W3.alloc (.cells #[.int .i64 ty,.string ⟨tx.toArray⟩] 326)) (.int .i64 ty) (.string ⟨tx.toArray⟩) 326;rwa[zo]at this) (by simp[Value.oneCell']) (by decide) (by simp only[maxLen];omega) (by omega) (by simp;omega) (W3.heap.size+2) (by simp) ?_;rintro g cap' W5 hown hgrow hat BP;have nC:some W1.heap.size≠(Value.slice va its.length vc).ownBlock:=(fun e=>jO hr3 Ef (by decide) e.symm);have wB:=(hgrow.block W1.heap.size (by simp;omega) nC).trans ((iT _ _ _ (by simp;omega)).trans ((iT _ _ _ l4).trans Ef));obtain⟨v0,v1,vz⟩:=G7 wB))
       have LH:∀k,k<W.heap.size->some k≠(Value.slice va its.length vc).ownBlock:=fun k hk e=>by have:=(eP hr3 e.symm).1;omega
       have DC:∀k,k<W3.heap.size->some k≠(Value.slice va its.length vc).ownBlock->W5.heap[k]?=W3.heap[k]?:=fun k hk hn=>(hgrow.block k (by simp;omega) hn).trans ((iT _ _ _ (by simp;omega)).trans (iT _ _ _ hk));have nO:some W.heap.size≠(Value.slice va its.length vc).ownBlock:=fun e=>jO hr3 hO3 (by decide) e.symm;have hs5:W3.heap.size<=W5.heap.size:=by have:=hgrow.size;simp at this;omega
       have Qm:FY W rb W1.heap.size (.slice (some ⟨kb,o,none⟩) b.length cap) b src R (W5.setCell ⟨W1.heap.size,1,none⟩ (.slice (some ⟨g,0,none⟩) (its.length+1) cap')) f q' (its++ [(ty,tx)]) (.slice (some ⟨g,0,none⟩) (its.length+1) cap'):=by
        refine⟨?_,hok2.2,by omega,hG,?_,?_,?_,?_,by simp;omega⟩
        .refine (kU.keep (DC rb kU.lt (LH rb hlt))).keep (gu _ _ _ _ (by simp;omega))
        .rw[gu _ _ _ _ (by simp;omega),DC _ l3 nO];exact hO3
        .simp[World.setCell,zn,wB]
        .have h6:=hown.kept (uq W5 W1.heap.size 1 (.slice (some ⟨g,0,none⟩) (its.length+1) cap')) (.inr fun e=>jO hown wB (by decide) e);rw[cO];simpa[BN]using h6
        .have g5:W.grownBy W5 (some rb):=⟨hgrow.os.trans (jY hgd g3).os,hgrow.tape.trans (jY hgd g3).tape,hgrow.output.trans (jY hgd g3).output,zw (jY hgd g3).size hs5,fun k hk hn=>(DC k (by have:=(jY hgd g3).size;omega) (LH k hk)).trans ((jY hgd g3).block k hk hn)⟩;exact⟨g5.os,g5.tape,g5.output,by simpa[World.setCell]using g5.size,fun k hk hn=>by rw[gu _ _ _ _ (by simp;omega)];exact g5.block k hk hn⟩
       refine⟨?_,by rw[Qm.rd.pos,st.rd.pos];omega⟩;repeat apply Exists.intro
       exact⟨⟨_,_,_,_,Qm⟩,rfl⟩
      .rw[aC c3]at hG;subst hG;go_wp2
       go_region
       go_wp2
       go_region
       go_wp2_with (go_at_call 182;refine hit.mono ?_;rintro e W3 ⟨rfl,kU,g3⟩;have hO3:=(g3.block _ WK (by simp;omega)).trans WY;have l3:=kH hO3;obtain⟨o0,o1,oz⟩:=G7 hO3)
       obtain⟨y1,y2,y3⟩:=Hf hO3 (.int .u32 0) (.slice none 0 0);have g4:=y3 W _ (jY hgd g3) (aS _);have qZ:=kU.keep (y2 rb (by omega));generalize (W3.setCell ⟨W.heap.size,0,none⟩ (.int .u32 0)).setCell ⟨W.heap.size,1,none⟩ (.slice none 0 0)=We at*;refine fD (nX (cs:= #[.int .u32 0,.slice none 0 0]) rfl _ (We.alloc (.cells #[.int .i64 ty,.string ⟨tx.toArray⟩] 326)) W.heap.size 259 (0,0) _ rfl ((iT We _ _ (kH y1)).trans y1) underlying259 rfl (by kernel_rfl) _ rfl) rfl ?_;exact⟨_,rfl,kF _ _ _ _,qZ.keep (iT We _ rb qZ.lt),xM g4 _⟩
 rw[aC he]at hR;subst hR;clear aX hB Xa hkz;go_enter func140,ntmps140
 go_wp2
 go_region_with (go_at_call 145;refine hget.mono ?_;rintro e W1 ⟨rfl,hb1⟩;have Jw:=(hb1.block _ (by omega)).trans WX;obtain⟨f0,f1,fz⟩:=G7 Jw)
 all_goals
  go_wp2
  obtain⟨y1,y2,y3⟩:=Hf Jw (.int .u32 0) (.slice none 0 0);have g4:=y3 W _ (aha gz hb1) (aS _);have qZ:=(Ed.keep (hb1.block rb (by omega))).keep (y2 rb (by omega));generalize (W1.setCell ⟨W.heap.size,0,none⟩ (.int .u32 0)).setCell ⟨W.heap.size,1,none⟩ (.slice none 0 0)=We at*;refine fD (nX (cs:= #[.int .u32 0,.slice none 0 0]) rfl _ We W.heap.size 259 (0,0) _ rfl y1 underlying259 rfl (by kernel_rfl) _ rfl) rfl ?_;exact⟨_,rfl,kF _ _ _ _,qZ,g4⟩
def P6(x:Int×List UInt8):Prop:=(0<=x.1/\x.1<=255)/\x.2.length<=70000
theorem azq{b:List UInt8}{q:Nat}(hb:b.length<=70000):P6 ((sM b q).1,(sM b q).2.1):=by
 unfold sM P6;have:=gN b q;split
 .simp
 split
 .simp
 split
 .simp
 simp only[jV,lW];omega
abbrev vB:=Int×List (Int×List UInt8)
def DV(x:vB):Prop:=(0<=x.1/\x.1<=4294967295)/\x.2.length<=70000/\∀y∈x.2,P6 y
theorem ail{b:List UInt8}(hb:b.length<=70000)(h4:b.length%4=0){src:Int}(hs:0<=src/\src<=4294967295):∀(f q:Nat) (its:List (Int×List UInt8)),q<=b.length->b.length<q+f->its.length<=q->(∀y∈its,P6 y)->
  DV (DW b src f q its).1/\((DW b src f q its).2.2=0->(DW b src f q its).2.1<=b.length)
 |0,q,its,h1,h2,_,_=>by omega
 |f+1,q,its,h1,h2,h3,h5=>by
  have z:DV (0,[]):=⟨by decide,by decide,by simp⟩;unfold DW;split
  .exact ⟨z,fun h=>by cases h⟩
  split
  .exact ⟨⟨hs,by simp only;omega,h5⟩,fun _=>by simp only;omega⟩
  split
  next he=>exact⟨z,fun h=>absurd h he⟩
  .rename_i he;have hk:=ai6 (Classical.not_not.1 he);refine ail hb h4 hs f _ _ hk.2 (by omega) (by simp;omega) fun y hy=>?_;rcases zx.1 hy with hy|hy
   .exact h5 y hy
   rw[sF.1 hy];exact azq hb
theorem ajJ{b:List UInt8}(hb:b.length<=70000)(h4:b.length%4=0){p:Nat}(_:p<=b.length):DV (xI b p).1/\((xI b p).2.2=0->(xI b p).2.1<=b.length):=by
 unfold xI;split
 .exact ⟨(⟨by decide,by decide,by simp⟩:DV (0,[])),fun h=>by cases h⟩
 next he=>have:=zi.1 (Classical.not_not.1 he);exact ail hb h4 (by omega) _ _ _ (by omega) (by omega) (cu _) (by simp)
def vZ(b:List UInt8):Nat->Nat->List vB->List vB×Nat×Int
 |0,p,out=>(out,p,0)
 |k+1,p,out=>if(xI b p).2.2≠0 then([],(xI b p).2.1,(xI b p).2.2)else vZ b k (xI b p).2.1 (out++ [(xI b p).1])
theorem aiH{b:List UInt8}(hb:b.length<=70000)(h4:b.length%4=0):∀(k p:Nat) (out:List vB),p<=b.length->(∀y∈out,DV y)->out.length+k<=31->(∀y∈(vZ b k p out).1,DV y)/\(vZ b k p out).1.length<=31
 |0,p,out,_,h2,h3=>⟨h2,by show out.length<=31;omega⟩
 |k+1,p,out,h1,h2,h3=>by
  have hc:=ajJ hb h4 h1;unfold vZ;split
  .exact ⟨by simp,by simp⟩
  .rename_i he;refine aiH hb h4 k _ _ (hc.2 (Classical.not_not.1 he)) (fun y hy=>?_) (by simp;omega);rcases zx.1 hy with hy|hy
   .exact h2 y hy
   rw[sF.1 hy];exact hc.1
abbrev Qq(x:Int×List UInt8):C:=.ls [.int x.1,.str x.2]
abbrev Gh(x:vB):C:=.ls [.int x.1,.ls (x.2.map Qq)]
theorem it_row(w:World)(N:Nat->Prop):∀l:List (Int×List UInt8),cZ w N I5 (BN l) (l.map Qq)
 | []=>rfl
 |x::l=>⟨[.int .i64 x.1,.string ⟨x.2.toArray⟩],BN l,rfl,⟨rfl,[.int .i64 x.1],[.string ⟨x.2.toArray⟩],rfl,rfl,rfl,[.string ⟨x.2.toArray⟩],[],rfl,rfl,rfl⟩,it_row w N l⟩
theorem aBz{w:World}{base:Nat}{v:Value}{x:vB}(h:w.ownsRow base 326 2 v x.2.length (BN x.2)):Rd w (fun k=>base<=k) uX [.int .u32 x.1,v] (Gh x):=by
 refine⟨rfl,[.int .u32 x.1],[v],rfl,rfl,rfl,[v],[],rfl,?_,rfl⟩;have hown':w.jL (fun g=>base<=g) 326 I5.size v (C.ls (x.2.map Qq)).toList.length (BN x.2):=by
  rw[gU,bJ];exact h
 refine zK (c:=.ls (x.2.map Qq)) hown' (it_row _ _ _) (fun g hg=>?_);rcases hown'.2 with⟨rfl,_⟩|⟨g',cap,cur,rfl,hb,_⟩
 .cases hg
 cases hg;exact hb
theorem azG:(prog.info? 259).map (fun i=>(i.zero,i.size,i.bytes))=some (some (.agg #[.int .u32 0,.slice none 0 0]),2,32):=by kernel_rfl
theorem GR{w:World}{base:Nat}{e:TypeId}{size n:Nat}{v:Value}{xs:List Value}(h:w.ownsRow base e size v n xs):∃a c,v=.slice a n c:=by
 rcases h.2 with⟨e,h0⟩|⟨g,c,cur,e,_⟩
 .exact ⟨none,0,by rw[e,h0]⟩
 exact ⟨_,_,e⟩
structure Wp (W:World) (rb:Nat) (sv:Value) (b:List UInt8) (R:List vB×Nat×Int) (wr:World) (k q:Nat) (out:List vB) (v:Value) (xs:List Value):Prop where
 rd:mK wr rb sv q
 le:q<=b.length
 go:vZ b k q out=R
 row:wr.ownsRow W.heap.size 259 2 v out.length xs
 rds:cZ wr (fun j=>W.heap.size<=j/\v.ownBlock≠some j) uX xs (out.map Gh)
 gr:W.grownBy wr (some rb)
set_option maxHeartbeats 8000000 in
theorem auL(W:World)(aX:KW prog W)(rb:Nat)(hkr:∀g,wC prog g->g<rb)(a:Option Addr)(cap:Nat)(b:List UInt8)(hb:b.length<=70000)(hb4:b.length%4=0)(m:Nat)(hm:m<=31)(R:List vB×Nat×Int)(hR:vZ b m 0 []=R)(h:mK W rb (.slice a b.length cap) 0)(hB:uG W rb a cap b):
  Calls prog 139 #[.int .i64 (m:Nat),.func (.func 140) #[.pointer (some ⟨rb,0,none⟩)] #[]] W fun e W'=>∃v xs,e=.returned (.tuple #[v,.int .i64 R.2.2])/\W'.ownsRow W.heap.size 259 2 v R.1.length xs/\cZ W' (fun j=>W.heap.size<=j/\v.ownBlock≠some j) uX xs (R.1.map Gh)/\mK W' rb (.slice a b.length cap) R.2.1/\W.grownBy W' (some rb):=by
 have hlt:=h.lt;obtain⟨i0,hi,hz0,hz1,hz2⟩:=yN azG;have st0:Wp W rb (.slice a b.length cap) b R W m 0 [] (.slice none 0 0) []:=⟨h,cu _,hR,kF _ _ _ _,rfl,World.grownBy.refl W _⟩;clear hR;go_enter func139,ntmps139
 go_wp2
 go_loopw [10,6] (fun P v wr=>∃(k i q:Nat) (out:List vB) (xs:List Value),P=.int .i64 (i:Int)/\k+i=m/\out.length<=i/\Wp W rb (.slice a b.length cap) b R wr k q out v xs) (fun P _ _=>m-(intOf P).toNat)
 case atStart=>exact⟨m,0,0,[],[],rfl,rfl,cu _,st0⟩
 case round=>
  clear st0;obtain⟨k,i,q,out,xs,rfl,hki,hoi,st⟩:=hrel;cases k with
  |zero=>
   have t1:¬(i:Int)<(m:Int):=by omega
   have hG:=st.go;unfold vZ at hG;subst hG;go_wp2
   refine fD (nN rfl _ _ _) rfl ?_;exact⟨_,rfl,_,st.row,st.rds,st.rd,st.gr⟩
  |succ k=>
   have t1:(i:Int)<(m:Int):=by omega
   obtain⟨va,vc,rfl⟩:=GR st.row;have hle:=st.le;have LQ:KW prog wr:=aX.keep fun g hg=>st.gr.block g (aX.lt hg) (by have:=hkr g hg;simp;omega);have hB2:uG wr rb a cap b:=hB.keep st.gr.size fun k hk hn=>st.gr.block k hk (by simpa using hn);obtain⟨⟨⟨src,its⟩,q',er⟩,hX⟩:∃X,xI b q=X:=⟨_,rfl⟩;have hc:=avw wr LQ rb hkr a cap b hb hb4 q hle _ hX st.rd hB2;have hok:=ajJ hb hb4 hle;have hG:=st.go;unfold vZ at hG;rw[hX]at hG hok;simp only at hG hok hc;have hgs:=st.gr.size;clear LQ hB2 hX;by_cases c3:er=0
   .rw[zq (fun h=>h c3)]at hG;have hok2:=hok.2 c3;subst c3;go_wp2_with (first
     |(go_at_call 140;refine hc.mono ?_;rintro e W3 ⟨vi,rfl,hown,kU,g3⟩;obtain⟨ia,ic,rfl⟩:=GR hown;have hr3:=st.row.kept g3 (.inr fun e=>by have:=(eP st.row e).1;omega))
     |(at_builtin;refine wpList_append_lies _ rfl _ _ 75 rfl W.heap.size 259 i0 _ 2 32 underlying75 hi hz0 hz1 hz2 rfl (by decide) (.slice va out.length vc) out.length xs rfl ((hr3.alloc _).alloc _) ⟨W3.heap.size+1,0,none⟩ 1 1 [.int .u32 src,.slice ia its.length ic] rfl rfl (by have:=Ri (W3.alloc (.cells #[.int .u32 src,.slice ia its.length ic] 259)) (.int .u32 src) (.slice ia its.length ic) 259;rwa[zo]at this) (by simp[Value.oneCell']) (by decide) (by simp only[maxLen];omega) (by omega) (by have:=g3.size;simp;omega) (W3.heap.size+2) (by simp) ?_;rintro g cap' W5 hown5 hgrow hat BP))
    have LH:∀k,k<W.heap.size->some k≠(Value.slice va out.length vc).ownBlock:=fun k hk e=>by have:=(eP st.row e.symm).1;omega
    have DC:∀k,k<W3.heap.size->some k≠(Value.slice va out.length vc).ownBlock->W5.heap[k]?=W3.heap[k]?:=fun k hk hn=>(hgrow.block k (by simp;omega) hn).trans ((iT _ _ _ (by simp;omega)).trans (iT _ _ _ hk));have hs5:W3.heap.size<=W5.heap.size:=by have:=hgrow.size;simp at this;omega
    have hs3:=g3.size;have Qm:Wp W rb (.slice a b.length cap) b R W5 k q' (out++ [(src,its)]) (.slice (some ⟨g,0,none⟩) (out.length+1) cap') (xs++ [.int .u32 src,.slice ia its.length ic]):=by
     have gg:=jY st.gr g3;refine⟨kU.keep (DC rb kU.lt (LH rb hlt)),hok.2 trivial,hG,by rw[cO];exact hown5,?_,⟨hgrow.os.trans gg.os,hgrow.tape.trans gg.tape,hgrow.output.trans gg.output,zw gg.size hs5,fun k hk hn=>(DC k (by omega) (LH k hk)).trans (gg.block k hk hn)⟩⟩;rw[gW];refine cZ.append (st.rds.mono (by omega) fun j hj hl=>⟨(DC j (by omega) (fun e=>hj.2 e.symm)).trans (g3.block j hl (by simp;omega)),hj.1,?_⟩) ⟨[.int .u32 src,.slice ia its.length ic],[],rfl,(aBz (x:=(src,its)) hown).mono hs5 fun j hj hl=>⟨DC j hl (fun e=>by have:=(eP st.row e.symm).2;omega),by omega,?_⟩,rfl⟩
     .simp only[Value.ownBlock,ne_eq,dP];rcases hat with ha|ha
      .exact fun e=>hj.2 (by rw[ha,e])
      omega
     .simp only[Value.ownBlock,ne_eq,dP];rcases hat with ha|ha
      .exact fun e=>by have:=(eP st.row ha).2;omega
      .omega
    go_roundw
    case rel=>exact⟨k,i+1,q',_,_,by simp,by omega,by simp;omega,Qm⟩
    case measure=>simp[intOf];omega
   rw[aC c3]at hG;subst hG;go_wp2_with (go_at_call 140;refine hc.mono ?_;rintro e W3 ⟨vi,rfl,hown,kU,g3⟩;obtain⟨ia,ic,rfl⟩:=GR hown)
   refine fD (nN rfl _ _ _) rfl ?_;exact⟨_,rfl,[],kF _ _ _ _,rfl,kU.keep (iT W3 _ rb kU.lt),xM (jY st.gr g3) _⟩
theorem agt{w:World}{base base':Nat}{e:TypeId}{size n:Nat}{v:Value}{xs:List Value}(h:w.ownsRow base e size v n xs)(hb:base'<=base):w.ownsRow base' e size v n xs:=by
 refine⟨h.1,?_⟩;rcases h.2 with h0|⟨g,c,cur,h1,h2,h3⟩
 .exact .inl h0
 exact .inr ⟨g,c,cur,h1,zw hb h2,h3⟩
theorem TV{w W3:World}{sv:Value}{t:TypeId}(g:(w.alloc (.cells #[sv,.int .i64 0] t)).grownBy W3 (some w.heap.size)):Below w.heap.size w W3:=
 ⟨g.os,g.tape,g.output,by have:=g.size;simp at this;omega,fun k hk=>(g.block k (by simp;omega) (by simp;omega)).trans (iT w _ k hk)⟩
abbrev at0:FuncId:=113
def Jm(n:Int)(b:List UInt8):List vB×Int:=
 if n<0\/31<n then([],1)else if 65528<b.length\/b.length%4≠0 then([],4)else
 if(vZ b n.toNat 0 []).2.2≠0 then([],(vZ b n.toNat 0 []).2.2)else if(vZ b n.toNat 0 []).2.1<b.length then([],4)else((vZ b n.toNat 0 []).1,0)
set_option maxHeartbeats 4000000 in
theorem av0(w:World)(aX:KW prog w)(N:Nat->Prop)(n:Int)(a:Option Addr)(cap:Nat)(b:List UInt8)(hb:b.length<=70000)(hr:bV w N aV (.slice a b.length cap) (B b))(R:List vB×Int)(hR:Jm n b=R):
  Calls prog 113 #[.int .i64 n,.slice a b.length cap] w fun e W'=>∃v xs,e=.returned (.tuple #[v,.int .i64 R.2])/\W'.ownsRow w.heap.size 259 2 v R.1.length xs/\cZ W' (fun j=>w.heap.size<=j/\v.ownBlock≠some j) uX xs (R.1.map Gh)/\Below w.heap.size w W':=by
 have hB1:Below w.heap.size w (w.alloc (.cells #[.slice a b.length cap,.int .i64 0] 255)):=(eD _ w).alloc (aS _) _;unfold Jm at hR;by_cases h1:n<0
 .rw[aC (.inl h1)]at hR;subst hR;clear aX hr;go_enter func113,ntmps113
  go_wp2
  refine fD (nN rfl _ _ _) rfl ?_;first|exact⟨_,[],rfl,kF _ _ _ _,rfl,eD _ _⟩|exact⟨_,rfl,[],kF _ _ _ _,rfl,eD _ _⟩
 by_cases h2:31<n
 .rw[aC (.inr h2)]at hR;subst hR;clear aX hr;go_enter func113,ntmps113
  go_wp2
  refine fD (nN rfl _ _ _) rfl ?_;first|exact⟨_,[],rfl,kF _ _ _ _,rfl,eD _ _⟩|exact⟨_,rfl,[],kF _ _ _ _,rfl,eD _ _⟩
 rw[zq (by omega)]at hR;have hr4:((b.length:Int)).tmod 4=((b.length%4:Nat):Int):=by rw[Int.tmod_eq_emod_of_nonneg (by omega)];omega
 by_cases h3:65528<b.length
 .rw[aC (.inl h3)]at hR;subst hR;clear aX hr;have t1:(65528:Int)<(b.length:Int):=by omega
  go_enter func113,ntmps113
  go_wp2
  refine fD (nN rfl _ _ _) rfl ?_;first|exact⟨_,[],rfl,kF _ _ _ _,rfl,eD _ _⟩|exact⟨_,rfl,[],kF _ _ _ _,rfl,eD _ _⟩
 have t1:¬(65528:Int)<(b.length:Int):=by omega
 by_cases h4:b.length%4=0
 .rw[zq (by omega)]at hR;have t2:((b.length:Int)%4 !=0)=false:=by simp;omega
  obtain⟨m,rfl⟩:∃m:Nat,n=m:=⟨n.toNat,by omega⟩;rw[dF]at hR;obtain⟨⟨out,q,er⟩,hX⟩:∃X,vZ b m 0 []=X:=⟨_,rfl⟩;rw[hX]at hR;simp only at hR;have Ms:mK (w.alloc (.cells #[.slice a b.length cap,.int .i64 0] 255)) w.heap.size (.slice a b.length cap) 0:=mZ w _;have hBd:uG (w.alloc (.cells #[.slice a b.length cap,.int .i64 0] 255)) w.heap.size a cap b:=by
   obtain⟨vs,h5,e⟩:=hr;obtain⟨a',cap',rfl,h6,h7,h8⟩:=h5;have e2:Value.slice a b.length cap=.slice a' (B b).toList.length cap':=e;injection e2 with e3 _ e4;subst e3 e4;refine Rd.mono (s:=.sl (.int .u8)) (by simp) (fun c hc hl=>⟨iT w _ c hl,hc.2⟩) (w:=w) (N:=fun k=>N k/\k<w.heap.size) ⟨a,cap,by simp[B,ofBytes],h6,h7,fun hne=>?_⟩;obtain⟨bk,off,e3,hN,hlt,hrow⟩:=h8 hne;exact⟨bk,off,e3,⟨hN,hlt⟩,hlt,hrow⟩
  have ht:=auL _ (aX.below hB1) w.heap.size (fun g hg=>aX.lt hg) a cap b hb h4 m (by omega) _ hX Ms hBd;clear aX hr hBd hX;by_cases e0:er=0
  .rw[zq (fun h=>h e0)]at hR;subst e0;by_cases e1:q<b.length
   .rw[aC e1]at hR;subst hR;have t3:(q:Int)<(b.length:Int):=by omega
    go_enter func113,ntmps113
    go_wp2_with (go_at_call 139;refine ht.mono ?_;rintro e W3 ⟨v,xs,rfl,hown,hrow,kU,g3⟩;obtain⟨va,vc,rfl⟩:=GR hown;have c1:=kU.cell1)
    all_goals
     refine fD (nN rfl _ _ _) rfl ?_;have hbl:=TV g3;first|exact⟨_,[],rfl,kF _ _ _ _,rfl,hbl⟩|exact⟨_,rfl,[],kF _ _ _ _,rfl,hbl⟩
   rw[zq e1]at hR;subst hR;have t3:¬(q:Int)<(b.length:Int):=by omega
   go_enter func113,ntmps113
   go_wp2_with (go_at_call 139;refine ht.mono ?_;rintro e W3 ⟨v,xs,rfl,hown,hrow,kU,g3⟩;obtain⟨va,vc,rfl⟩:=GR hown;have c1:=kU.cell1)
   all_goals
    refine fD (nN rfl _ _ _) rfl ?_;have hbl:=TV g3;first|exact⟨_,xs,rfl,agt hown (by simp),hrow.mono (aS _) (fun j hj _=>⟨rfl,by have:=hj.1;simp at this;omega,hj.2⟩),hbl⟩|exact⟨_,rfl,xs,agt hown (by simp),hrow.mono (aS _) (fun j hj _=>⟨rfl,by have:=hj.1;simp at this;omega,hj.2⟩),hbl⟩
  .rw[aC e0]at hR;subst hR;go_enter func113,ntmps113
   go_wp2_with (go_at_call 139;refine ht.mono ?_;rintro e W3 ⟨v,xs,rfl,hown,hrow,kU,g3⟩;obtain⟨va,vc,rfl⟩:=GR hown;have c1:=kU.cell1)
   all_goals
    refine fD (nN rfl _ _ _) rfl ?_;have hbl:=TV g3;first|exact⟨_,[],rfl,kF _ _ _ _,rfl,hbl⟩|exact⟨_,rfl,[],kF _ _ _ _,rfl,hbl⟩
 rw[aC (.inr h4)]at hR;subst hR;clear aX hr;have t2:((b.length:Int)%4 !=0)=true:=by simp;omega
 go_enter func113,ntmps113
 go_wp2
 refine fD (nN rfl _ _ _) rfl ?_;first|exact⟨_,[],rfl,kF _ _ _ _,rfl,eD _ _⟩|exact⟨_,rfl,[],kF _ _ _ _,rfl,eD _ _⟩
theorem az7{n:Int}{b:List UInt8}(hb:b.length<=70000):(∀y∈(Jm n b).1,DV y)/\(Jm n b).1.length<=31:=by
 unfold Jm;have z:(∀y∈([]:List vB),DV y)/\([]:List vB).length<=31:=⟨by simp,by decide⟩;split
 .exact z
 split
 .exact z
 split
 .exact z
 split
 .exact z
 exact aiH hb (by omega) n.toNat 0 [] (cu _) (by simp) (by simp;omega)
theorem aqu(n:Int)(b:List UInt8)(hb:b.length<=70000):∃(c:C) (e:Int),PC prog at0 [(I64,.int n),(aV,B b)] [(.sl uX,c),(I64,.int e)]/\Tm (.sl uX) c:=by
 have hk:=az7 (n:=n) hb;obtain⟨R,hR⟩:∃R,Jm n b=R:=⟨_,rfl⟩;rw[hR]at hk;refine⟨.ls (R.1.map Gh),R.2,PC.qX (by decide) ⟨⟨_,func113,by kernel_rfl,by kernel_rfl⟩,fun w N vs aX hrd=>?_⟩,_,rfl,by rw[bJ];omega,fun x hx=>?_⟩
 .obtain ⟨_,_,rfl,⟨_,rfl,rfl⟩,v,_,rfl,hr,rfl⟩:=hrd;obtain⟨a,cap,rfl⟩:∃a cap,v=.slice a b.length cap:=by
   obtain⟨vs,⟨a,cap,rfl,_⟩,rfl⟩:=hr;exact⟨a,cap,by simp[Sh.mk,Sh.isAgg,B,ofBytes]⟩
  refine(av0 w aX N n a cap b hb hr R hR).mono ?_;rintro e w' ⟨v,xs,rfl,hown,hrow,hbe⟩;refine⟨_,rfl,⟨[v,.int .i64 R.2],⟨_,_,rfl,⟨[v],?_,rfl⟩,_,_,rfl,⟨_,rfl,rfl⟩,rfl⟩,rfl⟩,hbe⟩;have hown':w'.jL (fun g=>w.heap.size<=g) 259 uX.size v (C.ls (R.1.map Gh)).toList.length xs:=by
   rw[gU,bJ];exact hown
  refine zK (c:=.ls (R.1.map Gh)) hown' (hrow.mono (aS _) fun j hj _=>⟨rfl,.inr hj.1⟩) (fun g hg=> .inr ?_);rcases hown'.2 with⟨rfl,_⟩|⟨g',cap,cur,rfl,hb,_⟩
  .cases hg
  .cases hg;exact hb
 obtain ⟨y,hy,rfl⟩:=gP.1 hx;obtain⟨h1,h2,h3⟩:=hk.1 y hy;refine⟨_,_,rfl,⟨_,rfl,h1⟩,_,_,rfl,⟨_,rfl,by simpa using h2,fun z hz=>?_⟩,rfl⟩;obtain⟨u,hu,rfl⟩:=gP.1 hz;obtain⟨h4,h5⟩:=h3 u hu;exact⟨_,_,rfl,nZ (by omega),_,_,rfl,OT h5,rfl⟩
end Go.Vc
namespace Go.Vc
open Go Go.Proofs Go.Plain Go.RowKit Go.Shelf Tryz
attribute [local go_sem] Oper.semAt_some
def nU(W:World)(B:Nat)(t:TypeId)(l r:List Value)(v:Value):Prop:=W.heap[B]?=some (.cells (l++v::r).toArray t (0,0))
theorem nU.lt{W:World}{B:Nat}{t:TypeId}{l r:List Value}{v:Value}(h:nU W B t l r v):B<W.heap.size:=(iX.1 h).1
theorem nU.kept{W W':World}{B:Nat}{t:TypeId}{l r:List Value}{v:Value}{row:Option Nat}(h:nU W B t l r v)(hg:W.grownBy W' row)(hne:some B≠row):nU W' B t l r v:=(hg.block B h.lt hne).trans h
theorem nU.set{W:World}{B:Nat}{t:TypeId}{l r:List Value}{v:Value}(h:nU W B t l r v)(v':Value){i:Nat}(hi:l.length=i):nU (W.setCell ⟨B,i,none⟩ v') B t l r v':=by
 subst hi;unfold nU at h |-;simp[World.setCell,zn,h]
theorem nU.not_row{W:World}{B:Nat}{t e:TypeId}{l r:List Value}{v u:Value}(h:nU W B t l r v)(hte:t≠e){base size k:Nat}{xs:List Value}(hr:W.ownsRow base e size u k xs):some B≠u.ownBlock:=by
 rcases hr.2 with⟨rfl,_⟩|⟨g,cap,cur,rfl,_,hgb,_⟩
 .simp[Value.ownBlock]
 intro e';obtain rfl:B=g:=by simpa[Value.ownBlock]using e'
 have:=(show W.heap[B]?=_ from h).symm.trans hgb;simp at this;exact hte this.2
theorem nU.appended{W w1:World}{n₀ B:Nat}{t e:TypeId}{l r:List Value}{size:Nat}{v v':Value}{k m:Nat}{xs ys:List Value}{tmp:Obj}{i:Nat}(hi:l.length=i)
  (hv:nU W B t l r v) (hte:t≠e) (hrow:W.ownsRow n₀ e size v k xs) (hn₀:n₀<=W.heap.size) (hB:n₀<=B)
  (hown':w1.ownsRow n₀ e size v' m ys) (hgrow:(W.alloc tmp).grownBy w1 v.ownBlock):
  nU w1 B t l r v/\nU (w1.setCell ⟨B,i,none⟩ v') B t l r v'/\(w1.setCell ⟨B,i,none⟩ v').ownsRow n₀ e size v' m ys/\KeepsOthers W (w1.setCell ⟨B,i,none⟩ v')/\Below n₀ W (w1.setCell ⟨B,i,none⟩ v'):=by
 have hv1:nU w1 B t l r v:=(hv.kept (Am W tmp none) (by simp)).kept hgrow (hv.not_row hte hrow);refine⟨hv1,hv1.set v' hi,hown'.kept (uq w1 B i v') (.inr (hv1.not_row hte hown').symm),?_,?_⟩
 .refine ((KeepsOthers.alloc W tmp).trans (KeepsOthers.of_grownBy hgrow fun j o ej hj=>?_)).trans (KeepsOthers.setCell _ _ _);rcases(hrow.alloc tmp).2 with⟨rfl,_⟩|⟨g,cap,cur,rfl,_,hgb,_⟩
  .simp[Value.ownBlock]at ej
  .obtain rfl:g=j:=by simpa[Value.ownBlock]using ej
   rw[hgb]at hj;cases hj;rfl
 refine (((eD n₀ W).alloc hn₀ tmp).grown hgrow (by simp;omega) fun j ej=>?_).setCell (p:=⟨B,i,none⟩) hB v';rcases hrow.2 with⟨rfl,_⟩|⟨g,cap,cur,rfl,hb,_,_⟩
 .simp[Value.ownBlock]at ej
 obtain rfl:g=j:=by simpa[Value.ownBlock]using ej
 exact hb
theorem avl{β:Type}(n₀ B:Nat)(t e:TypeId)(l r:List Value)(size:Nat)(k:β->Nat)(f:β->List Value):Own (fun s W=>∃v,nU W B t l r v/\W.ownsRow n₀ e size v (k s) (f s)):=by
 rintro s X Y row ⟨v,hv,hr⟩ hg hrow;refine⟨v,hv.kept hg (fun e'=>?_),hr.kept hg ?_⟩
 .obtain ⟨o,ho,hc⟩:=hrow B e'.symm;rw[show X.heap[B]?=_ from hv]at ho;cases ho;cases hc
 rcases hr.2 with⟨rfl,_⟩|⟨g,cap,cur,rfl,_,hgb,_⟩
 .exact .inl rfl
 refine .inr fun e'=>?_;obtain⟨o,ho,hc⟩:=hrow g (by simpa[Value.ownBlock]using e'.symm);rw[hgb]at ho;cases ho;cases hc
theorem ad8(w:World)(aX:KW prog w)(N:Nat->Prop)(v:Value)(b:List UInt8)(hb:b.length<=70000)(hr:bV w N aV v (B b)):
  Calls prog 141 #[v] w fun e W'=>e=.returned (.bool (decide (65528<b.length\/b.length%4≠0)))/\Below w.heap.size w W':=by
 have h:=(PC.oF (by decide) (YD b (by omega))).2 w N [v] aX ⟨_,_,rfl,hr,rfl⟩;refine h.mono ?_;rintro e w' ⟨v,rfl,⟨vs,⟨v1,r1,rfl,⟨_,h1,rfl⟩,rfl⟩,rfl⟩,hb⟩;simp only[Rd]at h1;subst h1;exact⟨rfl,hb⟩
theorem atv(w:World)(aX:KW prog w)(N:Nat->Prop)(v:Value)(b s:List UInt8)(er:Int)(hp:PC prog JG [(aV,B b)] [(.str,.str s),(I64,.int er)])(hr:bV w N aV v (B b)):
  Calls prog 143 #[v] w fun e W'=>e=.returned (.tuple #[.string ⟨s.toArray⟩,.int .i64 er])/\Below w.heap.size w W':=by
 have h:=(PC.oF (by decide) hp).2 w N [v] aX ⟨_,_,rfl,hr,rfl⟩;refine h.mono ?_;rintro e w' ⟨v,rfl,⟨vs,⟨v1,r1,rfl,⟨_,h1,rfl⟩,v2,r2,rfl,⟨_,h2,rfl⟩,rfl⟩,rfl⟩,hb⟩;simp only[Rd]at h1 h2;subst h1 h2;exact⟨rfl,hb⟩
theorem Te{w w1:World}(hb1:Below (w.alloc (.cells mU 77)).heap.size (w.alloc (.cells mU 77)) w1):
  w1.heap[w.heap.size]?=some (.cells mU 77 (0,0))/\w1.cell? ⟨w.heap.size,0,none⟩=some (.slice none 0 0)/\w1.cell? ⟨w.heap.size,1,none⟩=some (.bool false)/\w1.cell? ⟨w.heap.size,2,none⟩=some (.string ⟨#[]⟩)/\∀j,w1.frozen? ⟨w.heap.size,j,none⟩=false:=by
 have g0:w1.heap[w.heap.size]?=some (.cells mU 77 (0,0)):=(hb1.block _ (by simp)).trans (mZ w _);refine⟨g0,?_,?_,?_,fun j=>iY g0 j⟩<;>rw[fA g0]<;>rfl
theorem azM(w:World)(aX:KW prog w)(N:Nat->Prop)(n:Int)(a:Option Addr)(cap:Nat)(b:List UInt8)(hb:b.length<=70000)(hr:bV w N aV (.slice a b.length cap) (B b))(er:Int)
  (h:if n<0\/31<n then er=1 else if 65528<b.length\/b.length%4≠0 then er=4 else(b.length:Int)<4*n/\er=2):
  CallsIn Fence.wide 3 prog 114 #[.int .i64 n,.slice a b.length cap] w fun e W'=>e=.returned (.tuple #[.agg #[.slice none 0 0,.bool false,.string ⟨#[]⟩],.int .i64 er])/\Below w.heap.size w W':=by
 have hw:=ad8 (w.alloc (.cells #[.slice none 0 0,.bool false,.string ⟨#[]⟩] 77)) (aX.below ((eD _ w).alloc (aS _) _)) N (.slice a b.length cap) b hb (hr.mono (by simp) fun c hc hlt=>⟨iT w _ c hlt,hc⟩);clear aX hr;refine callsIn_of_wp_marks func114 rfl trivial ?_ rfl;simp only[ntmps114,ni,bR,eB,Nat.reduceAdd,Nat.reduceSub,qD,qC,qF,qB,iw,kS];have hB1:Below w.heap.size w (w.alloc (.cells mU 77)):=(eD _ w).alloc (aS _) _;by_cases h1:n<0
 .rw[aC (.inl h1)]at h;subst h;gi_wp2
  exact⟨_,nX (cs:=mU) rfl _ _ w.heap.size 77 (0,0) _ rfl (mZ w _) underlying77 rfl (by kernel_rfl) _ rfl,rfl,hB1⟩
 by_cases h2:31<n
 .rw[aC (.inr h2)]at h;subst h;gi_wp2
  exact⟨_,nX (cs:=mU) rfl _ _ w.heap.size 77 (0,0) _ rfl (mZ w _) underlying77 rfl (by kernel_rfl) _ rfl,rfl,hB1⟩
 rw[zq (by omega)]at h;by_cases h3:65528<b.length\/b.length%4≠0
 .rw[aC h3]at h;subst h;rw[iH h3]at hw;gi_wp2_with (refine⟨trivial,?_⟩;gi_at_call 141;refine(jN.2 hw).mono ?_;rintro e w1 ⟨rfl,hb1⟩;obtain⟨g0,f0,f1,f2,fz⟩:=Te hb1)
  change bodyPostM _ _ _ _ _ _ _ (lM w1 w.heap.size 0 [.slice none 0 0,.bool false,.string ⟨#[]⟩])
  obtain⟨hz1,hz2,_,_⟩:=wI (w:=w) (g:=w.heap.size) (aS _) [.slice none 0 0,.bool false,.string ⟨#[]⟩] 0 w1 mU g0 (hB1.trans (hb1.mono (by simp)));generalize lM w1 w.heap.size 0 [.slice none 0 0,.bool false,.string ⟨#[]⟩]=Wz at*;exact⟨_,nX (cs:=mU) rfl _ _ w.heap.size 77 (0,0) _ rfl hz1 underlying77 rfl (by kernel_rfl) _ rfl,rfl,hz2⟩
 rw[zq h3]at h;obtain⟨h4,rfl⟩:=h;rw[gQ h3]at hw;gi_wp2_with (refine⟨trivial,?_⟩;gi_at_call 141;refine(jN.2 hw).mono ?_;rintro e w1 ⟨rfl,hb1⟩;obtain⟨g0,f0,f1,f2,fz⟩:=Te hb1)
 change bodyPostM _ _ _ _ _ _ _ (lM w1 w.heap.size 0 [.slice none 0 0,.bool false,.string ⟨#[]⟩])
 obtain⟨hz1,hz2,_,_⟩:=wI (w:=w) (g:=w.heap.size) (aS _) [.slice none 0 0,.bool false,.string ⟨#[]⟩] 0 w1 mU g0 (hB1.trans (hb1.mono (by simp)));generalize lM w1 w.heap.size 0 [.slice none 0 0,.bool false,.string ⟨#[]⟩]=Wz at*;exact⟨_,nX (cs:=mU) rfl _ _ w.heap.size 77 (0,0) _ rfl hz1 underlying77 rfl (by kernel_rfl) _ rfl,rfl,hz2⟩
theorem arV(w : World)(x : Value)(t : TypeId) : ∀ j u, [x][j]? = some u -> (w.alloc (.cells #[x] t)).cell? ((⟨w.heap.size, 0, none⟩ : Addr).add j) = some u := by
  intro j u hj;have h := mZ w (.cells #[x] t);match j, hj with
  | 0, hj => obtain rfl : x = u := by simpa using hj
             show(match(w.alloc (.cells #[x] t)).heap[w.heap.size]? with | some (.cells c _ _) => _ | _ => none) = _;rw [h];rfl
theorem aw5:(prog.info? 24).map (fun i=>(i.zero,i.size,i.bytes))=some (some (.int .u32 0),1,4):=by kernel_rfl
def Qj(m:Nat)(b s:List UInt8)(er:Int):List Int×Bool×List UInt8×Int:=
 if b.length=4*m then(qo (b.take (4*m)),false,[],0)else if er≠0 then([],false,[],er)else(qo (b.take (4*m)),true,s,0)
theorem ag9{W W2:World}{B:Nat}(h:W.heap[B]?=some (.cells mU 77 (0,0)))(hb:Below W.heap.size W W2):
  (W2.cell? ⟨B,0,none⟩=some (.slice none 0 0)/\W2.cell? ⟨B,1,none⟩=some (.bool false)/\W2.cell? ⟨B,2,none⟩=some (.string ⟨#[]⟩)/\∀j,W2.frozen? ⟨B,j,none⟩=false)/\W2.heap[B]?=some (.cells mU 77 (0,0)):=by
 have h2:=(hb.block _ (kH h)).trans h;refine⟨⟨?_,?_,?_,iY h2⟩,h2⟩<;>rw[fA h2]<;>rfl
theorem ayg{W W2:World}{B:Nat}{v:Value}(h:nU W B 77 [] [.bool false,.string ⟨#[]⟩] v)(hb:Below W.heap.size W W2):
  (W2.cell? ⟨B,0,none⟩=some v/\W2.cell? ⟨B,1,none⟩=some (.bool false)/\W2.cell? ⟨B,2,none⟩=some (.string ⟨#[]⟩)/\∀j,W2.frozen? ⟨B,j,none⟩=false)/\nU W2 B 77 [] [.bool false,.string ⟨#[]⟩] v:=by
 have h2:nU W2 B 77 [] [.bool false,.string ⟨#[]⟩] v:=(hb.block _ h.lt).trans h;refine⟨⟨?_,?_,?_,iY h2⟩,h2⟩<;>rw[fA h2]<;>rfl
set_option maxHeartbeats 4000000 in
theorem ayf(w:World)(aX:KW prog w)(N:Nat->Prop)(m:Nat)(hm:m<=31)(a:Option Addr)(cap:Nat)(b:List UInt8)(hb:b.length<=65528)(hb4:b.length%4=0)(hml:4*m<=b.length)(hr:bV w N aV (.slice a b.length cap) (B b))
  (s:List UInt8) (er:Int) (hp:0<(b.drop (4*m)).length->PC prog JG [(aV,B (b.drop (4*m)))] [(.str,.str s),(I64,.int er)]) (R:List Int×Bool×List UInt8×Int) (hR:Qj m b s er=R):
  CallsIn Fence.wide 3 prog 114 #[.int .i64 (m:Nat),.slice a b.length cap] w fun e W'=>∃v,e=.returned (.tuple #[.agg #[v,.bool R.2.1,.string ⟨R.2.2.1.toArray⟩],.int .i64 R.2.2.2])/\W'.ownsRow w.heap.size 24 1 v R.1.length (R.1.map (Value.int .u32 ·))/\Below w.heap.size w W':=by
 have hw:=ad8 (w.alloc (.cells #[.slice none 0 0,.bool false,.string ⟨#[]⟩] 77)) (aX.below ((eD _ w).alloc (aS _) _)) N (.slice a b.length cap) b (by omega) (hr.mono (by simp) fun c hc hlt=>⟨iT w _ c hlt,hc⟩);rw[gQ (by omega)]at hw;have hB1:Below w.heap.size w (w.alloc (.cells mU 77)):=(eD _ w).alloc (aS _) _;have i1:¬(m:Int)<0:=by omega
 have i2:¬(31:Int)<m:=by omega
 have i3:¬(b.length:Int)<4*(m:Int):=by omega
 obtain⟨hcap,hcm⟩:b.length<=cap/\cap<=maxLen:=by
  obtain⟨vs,⟨a',cap',e,h2,h3,_⟩,e2⟩:=hr;subst e;simp[Sh.mk,Sh.isAgg,B,ofBytes]at e2 h2;omega
 refine callsIn_of_wp_marks func114 rfl trivial ?_ rfl;simp only[ntmps114,ni,bR,eB,Nat.reduceAdd,Nat.reduceSub,qD,qC,qF,qB,iw,kS];gi_wp2_with (first
  |(refine⟨trivial,?_⟩;gi_at_call 141;refine(jN.2 hw).mono ?_;rintro e w1 ⟨rfl,hb1⟩;obtain⟨g0,f0,f1,f2,fz⟩:=Te hb1)
  |(refine⟨trivial,?_⟩;gi_at_call 142;refine(auy 2 _ _ ⟨_,_,_,rfl⟩).mono ?_;rintro e w2 ⟨rfl,rfl⟩))
 have bS:nU (w1.alloc (.cells mU 77)) w1.heap.size 77 [] [.bool false,.string ⟨#[]⟩] (.slice none 0 0):=mZ w1 _;have bN:=Boxed.new (w1.alloc (.cells mU 77)) 22 (.slice a (4*m) cap);rw[zo]at bN;have hlt:w.heap.size<w1.heap.size:=by have:=hb1.size;simp at this;omega
 have hb2:Below w.heap.size w w1:=hB1.trans (hb1.mono (by simp));have hB3:Below w1.heap.size w1 ((w1.alloc (.cells mU 77)).alloc (.cells #[.slice a (4*m) cap] 22)):=((eD _ w1).alloc (aS _) _).alloc (by simp) _;have hB4:=hb2.trans (hB3.mono (by omega));have hl4:(b.take (4*m)).length=4*m:=by simp;omega
 have hsv:bV w N aV (.slice a (4*m) cap) (B (b.take (4*m))):=by
  have:=Ua hr (4*m) (by simpa using hml);rwa[wE]at this
 obtain⟨i0,hi,hz0,hz1,hz2⟩:=yN aw5;refine wpIn_rangeFunc_ownG (α:=Int) rfl (by decide) (gf:=183) (lb:= #[.pointer (some ⟨w1.heap.size+1,0,none⟩)]) rfl trivial (enters_of func183 (by kernel_rfl) rfl)
  (encs:=fun x=> #[.int .u32 x]) (Kp:=fun A A'=>Below w.heap.size A A'/\(Boxed A (w1.heap.size+1) 22 (.slice a (4*m) cap)->Boxed A' (w1.heap.size+1) 22 (.slice a (4*m) cap)))
  (S:=fun ys=>ys=qo (b.take (4*m))) (Sp:=fun _=>True) (N:=(b.take (4*m)).length/4)
  (fun l J Jx W hW hJ _ hY h0=>as4 l (w1.heap.size+1) w.heap.size N _ (b.take (4*m)) (by omega) (by omega) w aX rfl hsv J Jx 2 (by decide)
   (fun A hA pre A' hj hb=>hJ pre A A' none hj ⟨hb.os,hb.tape,hb.output,hb.size,fun k hk _=>hb.block k hk⟩ (fun r e=>by cases e)) hY W (hB4.trans (hW.mono (by simp;omega)))
   (bN.kept (W':=W) (row:=none) ⟨hW.os,hW.tape,hW.output,hW.size,fun k hk _=>hW.block k hk⟩ (by simp)) h0)
  (fun h k=>⟨h.1.trans k.1,fun x=>k.2 (h.2 x)⟩)
  (fun W l o o' hl ho hc _=>⟨belowK_b (w:=w) (aS _) W l o o' (by simp at hl;omega) ho hc (by assumption),fun hx=>?_⟩)
  (eD _ _) (fun _=>rfl)
  (fun pre W=>(∃v,nU W w1.heap.size 77 [] [.bool false,.string ⟨#[]⟩] v/\W.ownsRow w.heap.size 24 1 v pre.length (pre.map (Value.int .u32 ·)))/\W.heap[w.heap.size]?=some (.cells mU 77 (0,0))/\Boxed W (w1.heap.size+1) 22 (.slice a (4*m) cap)/\Below w.heap.size w W)
  (fun _ _ _=>False) ?hI (fun _ _ _ _ _ hs _ _=>hs)
  ⟨⟨_,bS.kept (Am _ _ none) (by simp),kF _ _ _ _⟩,(hB3.block _ hlt).trans g0,bN,hB4⟩
  (fun x=> {tmps:= #[.int .i64 (m:Nat),.slice a b.length cap,undef,undef,.pointer (some ⟨w.heap.size,0,none⟩),.int .i64 0,.pointer (some ⟨w1.heap.size,0,none⟩),.int .u32 x,undef,undef,undef,.int .i64 (m:Nat),.bool false,.bool false,.int .i64 (m:Nat),.bool false,.bool false,undef,.slice a b.length cap,.bool false,undef,.slice a b.length cap,.int .i64 b.length,.int .i64 (m:Nat),.int .i64 (4*(m:Nat)),.bool (decide ((b.length:Int)<4*(m:Nat))),undef,.slice a b.length cap,.int .i64 (m:Nat),.int .i64 (4*(m:Nat)),.slice a (4*m) cap,.func (.func 183) #[] #[.pointer (some ⟨w1.heap.size+1,0,none⟩)],.int .u32 x,undef,undef,undef,undef,undef,undef,undef,undef,undef,undef,undef,undef,undef,undef,undef,undef,undef,undef,undef,undef,undef,undef,undef,undef,undef,undef,undef],defers:=[]}) ?assign ?body ?done ?stop
 case hI=>
  refine OwnFrom.and (Own.from (avl w.heap.size w1.heap.size 77 24 [] [.bool false,.string ⟨#[]⟩] 1 (fun pre:List Int=>pre.length) (fun pre=>pre.map (Value.int .u32 ·))) _) (OwnFrom.and ?_ (OwnFrom.and ?_ (ownFrom_below (aS _) (by simp;omega))))
  .intro s A A' row hs hg hr;refine(hg.block _ (kH hs) (fun e=>?_)).trans hs;obtain⟨_,o,ho,hc⟩:=hr _ e.symm;rw[hs]at ho;cases ho;cases hc
  intro s A A' row hs hg hr;refine hs.kept hg (fun e=>?_);obtain⟨_,o,ho,hc⟩:=hr _ e.symm;rw[show A.heap[w1.heap.size+1]?=_ from hs]at ho;cases ho;cases hc
 case assign=>
  intro l x W K hK;gi_wp2
  exact hK
 case body=>
  rintro l pre x W ⟨⟨v,hv,hrow⟩,hO,hX,hB⟩ hlt2;have hc:W.cell? ⟨w1.heap.size,0,none⟩=some v:=by rw[fA hv];rfl
  rw[hl4]at hlt2;clear aX hw hr hsv;gi_wp2_with (gi_at_builtin;refine wpListIn_append_own _ rfl _ _ 39 rfl w.heap.size 24 i0 (.int .u32 0) 1 4 underlying39 hi hz0 hz1 hz2 rfl (by decide) _ _ _ rfl (hrow.alloc _) ⟨W.heap.size,0,none⟩ 1 1 [.int .u32 x] rfl rfl (arV _ _ _) (by simp[Value.oneCell']) (by simp only[maxLen];omega) (by omega) (by have:=hB.size;simp;omega) ?_;intro v' w1' hown' hgrow _;obtain⟨g',cap',rfl⟩:=ownsRow_succ hown';obtain⟨hv1,hv2,hr2,hk2,hb2'⟩:=nU.appended (i:=0) rfl hv (by decide) hrow hB.size (Nat.le_of_lt hlt) hown' hgrow;have hc1:w1'.cell? ⟨w1.heap.size,0,none⟩=some v:=(by rw[fA hv1];rfl);have hf1:=iY hv1 0)
  have nO:some w.heap.size≠v.ownBlock:=fun e=>jO hrow hO (by decide) e.symm;have hX1:=((hX.alloc _).kept hgrow (hX.not_row (by decide) hrow)).kept (uq w1' w1.heap.size 0 (.slice (some ⟨g',0,none⟩) (pre.length+1) cap')) (by simp);refine⟨hk2.from _,⟨hb2',fun _=>hX1⟩,⟨_,hv2,?_⟩,?_,hX1,hB.trans hb2'⟩
  .rw[gW,cO];exact hr2
  rw[gu _ _ _ _ (by simp;omega),hgrow.block _ (by have:=kH hO;simp;omega) nO,iT _ _ _ (kH hO)];exact hO
 case done=>
  rintro D ys W hD rfl ⟨⟨v,hv,hrow⟩,hO,hX,hB⟩ hK;obtain⟨va,vc,rfl⟩:∃va vc,v=.slice va (qo (b.take (4*m))).length vc:=by
   rcases hrow.2 with⟨rfl,h0⟩|⟨g,c,cur,rfl,_⟩
   .exact ⟨none,0,by rw[h0]⟩
   .exact ⟨_,_,rfl⟩
  have e0:W.cell? ⟨w1.heap.size,0,none⟩=some (.slice va (qo (b.take (4*m))).length vc):=by rw[fA hv];rfl
  have e1:W.cell? ⟨w1.heap.size,1,none⟩=some (.bool false):=by rw[fA hv];rfl
  have e2:W.cell? ⟨w1.heap.size,2,none⟩=some (.string ⟨#[]⟩):=by rw[fA hv];rfl
  have f0:W.cell? ⟨w.heap.size,0,none⟩=some (.slice none 0 0):=by rw[fA hO];rfl
  have f1:W.cell? ⟨w.heap.size,1,none⟩=some (.bool false):=by rw[fA hO];rfl
  have f2:W.cell? ⟨w.heap.size,2,none⟩=some (.string ⟨#[]⟩):=by rw[fA hO];rfl
  have fz:=fun j=>iY hO j;have fx:=fun j=>iY hv j;unfold Qj at hR;by_cases c0:b.length=4*m
  .rw[aC c0]at hR;subst hR;have c1:((b.length:Int)-4*(m:Int))=0:=by omega
   clear aX hw hr hsv hp;gi_wp2
   all_goals
    change bodyPostM _ _ _ _ _ _ _ (lM W w.heap.size 0 [.slice va (qo (b.take (4*m))).length vc,.bool false,.string ⟨#[]⟩])
    obtain⟨hz1,hz2,hz3,AJ⟩:=wI (w:=w) (g:=w.heap.size) (aS _) [.slice va (qo (b.take (4*m))).length vc,.bool false,.string ⟨#[]⟩] 0 W mU hO hB;have hr2:=gK hrow fun g hg=>hz3 g (fun e=>jO hrow hO (by decide) (by rw[hg,e]));have hK2:=(hz3 D (by simp at hD;omega)).trans hK;generalize lM W w.heap.size 0 [.slice va (qo (b.take (4*m))).length vc,.bool false,.string ⟨#[]⟩]=Wz at*;have hp:=grownBy_putObj' Wz D (.deferred none);refine⟨by simp,.inl ⟨_,_,rfl,run_takeDeferred hK2,?_⟩⟩;refine⟨_,nX (cs:= #[.slice va (qo (b.take (4*m))).length vc,.bool false,.string ⟨#[]⟩]) rfl _ _ w.heap.size 77 (0,0) _ rfl ((hp.block w.heap.size (kH hz1) (by simp at hD |-;omega)).trans hz1) underlying77 rfl (by kernel_rfl) _ rfl,_,rfl,?_,?_⟩
    .exact ownsRow_putObj hr2 (.deferred none) hK2 rfl
    .exact hz2.trans ⟨hp.os,hp.tape,hp.output,hp.size,fun k hk=>hp.block k (by have:=hz2.size;omega) (by simp at hD |-;omega)⟩
  rw[zq c0]at hR;have hcm2:¬cap=4*m:=by omega
  have c1:¬((b.length:Int)-4*(m:Int))=0:=by omega
  have c2:¬(b.length-4*m:Nat)=0:=by omega
  have hrd:=ahd (hr.mono hB.size fun c hc hlt=>⟨hB.block c hlt,hc⟩) (4*m) (by simpa using hml);rw[zq hcm2,xL,Nat.mul_one]at hrd;have hrs:=atv W (aX.below hB) N _ (b.drop (4*m)) s er (hp (by simp;omega)) hrd;clear aX hw hr hsv hp hrd;have nx:w.heap.size≠w1.heap.size:=by omega
  have WK:=kH hO;have hlx:=hv.lt;have hlD:=kH hK;by_cases ce:er=0
  .rw[zq (fun h=>h ce)]at hR;subst hR ce;gi_wp2_with (refine⟨trivial,?_⟩;gi_at_call 143;refine(jN.2 hrs).mono ?_;rintro e W2 ⟨rfl,hb5⟩;obtain⟨⟨e0,e1,e2,ex⟩,hv2⟩:=ayg hv hb5;obtain⟨⟨f0,f1,f2,fz⟩,hO2⟩:=ag9 hO hb5)
   have hO3:((W2.setCell ⟨w1.heap.size,1,none⟩ (.bool true)).setCell ⟨w1.heap.size,2,none⟩ (.string ⟨s.toArray⟩)).heap[w.heap.size]?=some (.cells mU 77 (0,0)):=by
    rw[gu _ _ _ _ (by simpa using nx),gu _ _ _ _ (by simpa using nx)];exact hO2
   have hB5:Below w.heap.size w ((W2.setCell ⟨w1.heap.size,1,none⟩ (.bool true)).setCell ⟨w1.heap.size,2,none⟩ (.string ⟨s.toArray⟩)):=A9 (A9 (hB.trans (hb5.mono (by omega))) (by omega) _ _) (by omega) _ _;have hr3:=gK (W':=(W2.setCell ⟨w1.heap.size,1,none⟩ (.bool true)).setCell ⟨w1.heap.size,2,none⟩ (.string ⟨s.toArray⟩)) hrow fun g hg=>by
    have ne:g≠w1.heap.size:=fun e=>hv.not_row (by decide) hrow (by rw[hg,e]);rw[gu _ _ _ _ (by simpa using ne),gu _ _ _ _ (by simpa using ne)];exact hb5.block g (eP hrow hg).2
   have hK3:((W2.setCell ⟨w1.heap.size,1,none⟩ (.bool true)).setCell ⟨w1.heap.size,2,none⟩ (.string ⟨s.toArray⟩)).heap[D]?=some (.deferred (some [])):=by
    rw[gu _ _ _ _ (by simp at hD |-;omega),gu _ _ _ _ (by simp at hD |-;omega)];exact(hb5.block D hlD).trans hK
   generalize (W2.setCell ⟨w1.heap.size,1,none⟩ (.bool true)).setCell ⟨w1.heap.size,2,none⟩ (.string ⟨s.toArray⟩)=W3 at*;change bodyPostM _ _ _ _ _ _ _ (lM W3 w.heap.size 0 [.slice va (qo (b.take (4*m))).length vc,.bool true,.string ⟨s.toArray⟩])
   obtain⟨hz1,hz2,hz3,AJ⟩:=wI (w:=w) (g:=w.heap.size) (aS _) [.slice va (qo (b.take (4*m))).length vc,.bool true,.string ⟨s.toArray⟩] 0 W3 mU hO3 hB5;have hr2:=gK hr3 fun g hg=>hz3 g (fun e=>jO hr3 hO3 (by decide) (by rw[hg,e]));have hK2:=(hz3 D (by simp at hD;omega)).trans hK3;generalize lM W3 w.heap.size 0 [.slice va (qo (b.take (4*m))).length vc,.bool true,.string ⟨s.toArray⟩]=Wz at*;have hp:=grownBy_putObj' Wz D (.deferred none);refine⟨by simp,.inl ⟨_,_,rfl,run_takeDeferred hK2,?_⟩⟩;refine⟨_,nX (cs:= #[.slice va (qo (b.take (4*m))).length vc,.bool true,.string ⟨s.toArray⟩]) rfl _ _ w.heap.size 77 (0,0) _ rfl ((hp.block w.heap.size (kH hz1) (by simp at hD |-;omega)).trans hz1) underlying77 rfl (by kernel_rfl) _ rfl,_,rfl,?_,?_⟩
   .exact ownsRow_putObj hr2 (.deferred none) hK2 rfl
   .exact hz2.trans ⟨hp.os,hp.tape,hp.output,hp.size,fun k hk=>hp.block k (by have:=hz2.size;omega) (by simp at hD |-;omega)⟩
  rw[aC ce]at hR;subst hR;gi_wp2_with (refine⟨trivial,?_⟩;gi_at_call 143;refine(jN.2 hrs).mono ?_;rintro e W2 ⟨rfl,hb5⟩;obtain⟨⟨f0,f1,f2,fz⟩,hO2⟩:=ag9 hO hb5)
  change bodyPostM _ _ _ _ _ _ _ (lM W2 w.heap.size 0 [.slice none 0 0,.bool false,.string ⟨#[]⟩])
  obtain⟨hz1,hz2,hz3,AJ⟩:=wI (w:=w) (g:=w.heap.size) (aS _) [.slice none 0 0,.bool false,.string ⟨#[]⟩] 0 W2 mU hO2 (hB.trans (hb5.mono (by omega)));have hK2:=(hz3 D (by simp at hD;omega)).trans ((hb5.block D hlD).trans hK);generalize lM W2 w.heap.size 0 [.slice none 0 0,.bool false,.string ⟨#[]⟩]=Wz at*;have hp:=grownBy_putObj' Wz D (.deferred none);refine⟨by simp,.inl ⟨_,_,rfl,run_takeDeferred hK2,?_⟩⟩;refine⟨_,nX (cs:=mU) rfl _ _ w.heap.size 77 (0,0) _ rfl ((hp.block w.heap.size (kH hz1) (by simp at hD |-;omega)).trans hz1) underlying77 rfl (by kernel_rfl) _ rfl,_,rfl,kF _ _ _ _,?_⟩;exact hz2.trans ⟨hp.os,hp.tape,hp.output,hp.size,fun k hk=>hp.block k (by have:=hz2.size;omega) (by simp at hD |-;omega)⟩
 case stop=>
  rintro D c pre W _ _ h _;exact h.elim
 .refine hx.kept (grownBy_putObj' W l o') (fun e=>?_);cases e;rw[show W.heap[w1.heap.size+1]?=_ from hx]at ho;cases ho;cases hc
theorem afU{w:World}{N:Nat->Prop}{v:Value}{b:List UInt8}(h:bV w N aV v (B b)):∃a cap,v=.slice a b.length cap:=by
 obtain⟨vs,⟨a,cap,rfl,_⟩,rfl⟩:=h;exact⟨a,cap,by simp[Sh.mk,Sh.isAgg,B,ofBytes]⟩
theorem u32_row(w:World)(N:Nat->Prop):∀l:List Int,cZ w N U32 (l.map (Value.int .u32 ·)) (l.map C.int)
 | []=>rfl
 |x::l=>⟨[.int .u32 x],l.map (Value.int .u32 ·),rfl,rfl,u32_row w N l⟩
theorem as9(n:Int)(hn: -9223372036854775808<=n/\n<=9223372036854775807)(b:List UInt8)(hb:b.length<=70000):∃(c:C) (e:Int),PC prog aqr [(I64,.int n),(aV,B b)] [(BK,c),(I64,.int e)]/\Tm BK c:=by
 by_cases hg:(0<=n/\n<=31)/\(b.length<=65528/\b.length%4=0)/\4*n<=b.length
 .obtain ⟨⟨h1,h2⟩,⟨h3,h4⟩,h5⟩:=hg;obtain⟨m,rfl⟩:∃m:Nat,n=m:=⟨n.toNat,by omega⟩;obtain⟨s,er,hp,hs⟩:∃(s:List UInt8) (er:Int),(0<(b.drop (4*m)).length->PC prog JG [(aV,B (b.drop (4*m)))] [(.str,.str s),(I64,.int er)])/\s.length<=70000:=by
   by_cases h:0<(b.drop (4*m)).length
   .obtain ⟨s,e,hp,hs⟩:=auE _ h (by simp;omega);exact⟨s,e,fun _=>hp,hs⟩
   .exact ⟨[],0,fun h'=>absurd h' h,by decide⟩
  obtain⟨R,hR⟩:∃R,Qj m b s er=R:=⟨_,rfl⟩;have hrl:R.1.length<=70000/\(∀x∈R.1,0<=x/\x<=4294967295)/\R.2.2.1.length<=70000:=by
   have key:(qo (b.take (4*m))).length<=70000/\∀x∈qo (b.take (4*m)),0<=x/\x<=4294967295:=by
    unfold qo;refine⟨by simp;omega,fun x hx=>?_⟩;obtain⟨i,_,rfl⟩:=gP.1 hx;have:num (b.take (4*m)) (4*i) 4<4294967296:=qL _ _ 4;omega
   rw[<-hR];unfold Qj;split
   .exact ⟨key.1,key.2,cu _⟩
   .split
    .exact ⟨cu _,by simp,cu _⟩
    .exact ⟨key.1,key.2,hs⟩
  refine⟨.ls [.ls (R.1.map C.int),.bool R.2.1,.str R.2.2.1],R.2.2.2,PC.qX (by decide) ⟨⟨_,func114,by kernel_rfl,by kernel_rfl⟩,fun w N vs aX hrd=>?_⟩,_,_,rfl,⟨_,rfl,by simpa using hrl.1,fun x hx=>?_⟩,_,_,rfl,⟨_,rfl⟩,_,_,rfl,⟨_,rfl,hrl.2.2⟩,rfl⟩
  .obtain ⟨_,_,rfl,⟨_,rfl,rfl⟩,v,_,rfl,hr,rfl⟩:=hrd;obtain⟨a,cap,rfl⟩:=afU hr;refine(jN.1 (ayf w aX N m (by omega) a cap b h3 h4 (by omega) hr s er hp R hR)).mono ?_;rintro e w' ⟨v,rfl,hown,hbe⟩;refine⟨_,rfl,⟨[.agg #[v,.bool R.2.1,.string ⟨R.2.2.1.toArray⟩],.int .i64 R.2.2.2],⟨_,_,rfl,⟨[v,.bool R.2.1,.string ⟨R.2.2.1.toArray⟩],?_,rfl⟩,_,_,rfl,⟨_,rfl,rfl⟩,rfl⟩,rfl⟩,hbe⟩;refine⟨rfl,[v],[.bool R.2.1,.string ⟨R.2.2.1.toArray⟩],rfl,?_,rfl,[.bool R.2.1],[.string ⟨R.2.2.1.toArray⟩],rfl,rfl,rfl,[.string ⟨R.2.2.1.toArray⟩],[],rfl,rfl,rfl⟩;have hown':w'.jL (fun g=>w.heap.size<=g) 24 U32.size v (C.ls (R.1.map C.int)).toList.length (R.1.map (Value.int .u32 ·)):=by
    rw[gU,bJ];exact hown
   refine zK (c:=.ls (R.1.map C.int)) hown' (u32_row _ _ _) (fun g hg=> .inr ?_);rcases hown'.2 with⟨rfl,_⟩|⟨g',cap,cur,rfl,hb,_⟩
   .cases hg
   cases hg;exact hb
  .obtain ⟨y,hy,rfl⟩:=gP.1 hx;exact⟨y,rfl,hrl.2.1 y hy⟩
 obtain ⟨er,h⟩:∃er:Int,if n<0\/31<n then er=1 else if 65528<b.length\/b.length%4≠0 then er=4 else(b.length:Int)<4*n/\er=2:=by
  by_cases k1:n<0\/31<n
  .exact ⟨1,by rw[aC k1]⟩
  .by_cases k2:65528<b.length\/b.length%4≠0
   .exact ⟨4,by rw[zq k1,aC k2]⟩
   .exact ⟨2,by rw[zq k1,zq k2];exact⟨by omega,rfl⟩⟩
 refine⟨Ws,er,PC.qX (by decide) ⟨⟨_,func114,by kernel_rfl,by kernel_rfl⟩,fun w N vs aX hrd=>?_⟩,_,_,rfl,iN _,_,_,rfl,⟨_,rfl⟩,_,_,rfl,⟨_,rfl,by decide⟩,rfl⟩;obtain⟨_,_,rfl,⟨_,rfl,rfl⟩,v,_,rfl,hr,rfl⟩:=hrd;obtain⟨a,cap,rfl⟩:=afU hr;refine(jN.1 (azM w aX N n a cap b hb hr er h)).mono ?_;rintro e w' ⟨rfl,hbe⟩;refine⟨_,rfl,⟨[.agg mU,.int .i64 er],⟨_,_,rfl,⟨mU.toList,?_,rfl⟩,_,_,rfl,⟨_,rfl,rfl⟩,rfl⟩,rfl⟩,hbe⟩;refine⟨rfl,[.slice none 0 0],[.bool false,.string ⟨#[]⟩],rfl,⟨none,0,rfl,by simp,by simp[maxLen],by simp⟩,rfl,[.bool false],[.string ⟨#[]⟩],rfl,rfl,rfl,[.string ⟨#[]⟩],[],rfl,rfl,rfl⟩
end Go.Vc
namespace Go.Vc
open Go Go.Proofs Go.Plain Tryz
inductive It where
 |sN
 |arr (a:Ar)
 |rat (r:Rm)
def It.k:It->Int| .sN=>3|_=>5
def It.p:It->Nat| .rat _=>8|_=>0
def It.fk:It->Int| .sN=>0| .arr _=>2| .rat _=>5
def It.a:It->Ar| .arr a=>a|_=>Ar.zero
def It.r:It->Rm| .rat r=>r|_=>Rm.zero
abbrev It.C(x:It):C:=RtC x.k x.p (FeC x.fk x.a x.r)
def It.ok:It->Prop| .sN=>True| .arr a=>a.right/\a.ok| .rat r=>r.right/\r.ok
def It.car:It->kZ| .sN=>⟨203,0,[],0⟩| .arr a=>⟨205,15,ajR++a.bytes,0⟩| .rat r=>⟨206,15,ajR++r.bytes,8⟩
theorem aaj(f c:Int):PC prog arO [(I64,.int f),(I64,.int c)] [(I64,.int (kindOf f c))]:=by
 refine PC.qX (by decide) ⟨⟨_,func111,by kernel_rfl,by kernel_rfl⟩,fun w N vs aX hrd=>?_⟩;obtain⟨_,_,rfl,⟨_,rfl,rfl⟩,_,_,rfl,⟨_,rfl,rfl⟩,rfl⟩:=hrd;refine(atU w aX f c).mono ?_;rintro e w' ⟨rfl,hbe⟩;exact⟨_,rfl,⟨[.int .i64 (kindOf f c)],⟨_,_,rfl,⟨_,rfl,rfl⟩,rfl⟩,rfl⟩,hbe⟩
end Go.Vc
