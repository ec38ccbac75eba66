/-
  Contracts of functions of the program, each out of its condition or by a walk, and plain lemmas.
-/
import Derived.Test.YtaehhpempnelhaaGreatDoorQTx7
set_option maxRecDepth 100000
namespace Go.Vc
open Go Go.Proofs Go.Plain Go.RowKit Go.Shelf Tryz
attribute [local go_sem] Oper.semAt_some
theorem aiX(W:World)(aX:KW prog W)(N:Nat->Prop)(sv:Value)(b:List UInt8)(hbl:b.length<=70000)(k:Nat)(hk:4*k+4<=b.length)(hsv:bV W N aV sv (B b)):
  Calls prog 145 #[sv,.int .i64 (4*(k:Int)),.int .i64 4] W fun e w'=>e=.returned (.tuple #[.int .u64 (num b (4*k) 4:Int),.int .i64 0])/\Below W.heap.size W w':=by
 have h:=(PC.oF (by decide) (sP b (4*(k:Int)) 4 (by omega))).2 W N [sv,.int .i64 (4*(k:Int)),.int .i64 4] aX
  ⟨_,_,rfl,hsv,_,_,rfl,⟨_,rfl,rfl⟩,_,_,rfl,⟨_,rfl,rfl⟩,rfl⟩
 refine h.mono ?_;have e0:qx b.length (4*(k:Int)) 4=0:=by rw[zi];omega
 have ek:(4*(k:Int)).toNat=4*k:=by omega
 have e1:mX b (4*(k:Int)) 4=num b (4*k) 4:=by rw[mX,aC e0];unfold cut num;rw[ek];rfl
 rintro e w' ⟨v,rfl,⟨vs,⟨v1,r1,rfl,⟨_,h1,rfl⟩,v2,r2,rfl,⟨_,h2,rfl⟩,rfl⟩,rfl⟩,hb⟩;simp only[Rd]at h1 h2;subst h1 h2;refine⟨?_,hb⟩;simp only[e0,e1,dV];rfl
theorem as5(l Bn n₀:Nat)(N:Nat->Prop)(sv:Value)(b:List UInt8)(hb4:b.length%4=0)(hbl:b.length<=70000)(w0:World)(aX:KW prog w0)(hn₀:n₀=w0.heap.size)(hsv:bV w0 N aV sv (B b))
  (J Jx:List Int->World->Prop) (n:Nat) (h1:1<=n)
  (hJ:∀W:World,n₀<=W.heap.size->∀pre W',J pre W->Below W.heap.size W W'->J pre W')
  (hY:∀pre x W,J pre W->pre.length<b.length/4->YieldAt Fence.wide (n-1) prog l #[.int .u32 x] W fun e W'=>
   (e=.returned (.bool true)/\J (pre++ [x]) W'/\(Below n₀ W W'/\(Boxed W Bn 22 sv->Boxed W' Bn 22 sv)))\/(e=.returned (.bool false)/\Jx (pre++ [x]) W'))
  (W:World) (hW:Below n₀ w0 W) (Xb:Boxed W Bn 22 sv) (h0:J [] W):
  CallsIn Fence.wide n prog 244 #[.func (.yield l) #[] #[],.pointer (some ⟨Bn,0,none⟩)] W fun e W'=>(∃v,e=.returned v)/\
   ((∃ys,ys=(List.range (b.length/4)).map (fun i=>((num b (4*i) 4:Nat):Int))/\J ys W')\/(∃pre,True/\Jx pre W')):=by
 refine sI func244 rfl trivial ?_ rfl;obtain⟨a,cap,rfl⟩:∃a cap,sv=.slice a b.length cap:=by
  obtain⟨vs,⟨a,cap,rfl,_⟩,rfl⟩:=hsv;exact⟨a,cap,by simp[Sh.mk,Sh.isAgg,B,ofBytes]⟩
 simp only[ntmps244,ni,bR,eB,Nat.reduceAdd,Nat.reduceSub,qD,qC,qF,qB,iw,kS];gi_wp2
 gi_loopw [3] (fun p wr=>∃k:Nat,p=.int .i64 (4*(k:Int))/\4*k<=b.length/\J ((List.range k).map (fun i=>((num b (4*i) 4:Nat):Int))) wr/\Below n₀ w0 wr/\Boxed wr Bn 22 (.slice a b.length cap))
  (fun p _=>b.length-(intOf p).toNat)
 case atStart=>
  exact⟨0,rfl,cu _,h0,hW,Xb⟩
 case round=>
  obtain⟨k,rfl,hk,hJs,hB,hX⟩:=hrel;have hc:=hX.cell;have hw4:IntKind.i64.wrap (4*(k:Int)+4)=4*(k:Int)+4:=lY (by omega);by_cases hkl:4*k+4<=b.length
  .have hg:=aiX wr (aX.below (hn₀▸hB)) N _ b hbl k hkl (hsv.mono hB.size fun c hc hlt=>⟨hB.block c (by omega),hc⟩);have hBs:=hB.size;have hm:(num b (4*k) 4:Int)%4294967296=(num b (4*k) 4:Int):=by have:num b (4*k) 4<4294967296:=qL b _ 4;omega
   gi_wp2_with (refine⟨trivial,?_⟩;gi_at_call 145;refine(jN.2 hg).mono ?_;rintro e w' ⟨rfl,hbel⟩;obtain⟨fn,tmps,assign,body,hy,hR⟩:=hY _ (num b (4*k) 4:Int) w' (hJ wr (by omega) _ w' hJs hbel) (by simp;omega))
   refine hR.mono ?_;rintro e W3 (⟨rfl,hJ3,hk3,hk4⟩|⟨rfl,hJx3⟩)
   .have Qt:=hk4 (hX.kept ⟨hbel.os,hbel.tape,hbel.output,hbel.size,fun k hk _=>hbel.block k hk⟩ (row:=none) (by simp));gi_wp2
    go_roundw
    case rel=>
     refine⟨k+1,by simp;omega,by omega,?_,(hB.trans (hbel.mono (by omega))).trans hk3,Qt⟩;rw[F4,gW];exact hJ3
    case measure=>
     simp[intOf];omega
   .gi_wp2
    refine fD (results_none rfl _ _ _) rfl ?_;exact⟨⟨_,rfl⟩,.inr ⟨_,trivial,hJx3⟩⟩
  gi_wp2
  go_end0
  refine⟨⟨_,rfl⟩,.inl ⟨_,?_,hJs⟩⟩;rw[show k=b.length/4 by omega]
theorem auz(n:Nat)(sv:Value)(w:World)(hs:∃a m c,sv=.slice a m c):
  CallsIn Fence.wide n prog 228 #[sv] w fun e w'=>e=.returned (.func (.func 244) #[] #[.pointer (some ⟨w.heap.size,0,none⟩)])/\w'=w.alloc (.cells #[sv] 22):=by
 obtain⟨a,m,c,rfl⟩:=hs;refine sI func228 rfl trivial ?_ rfl;simp only[ntmps228,ni,bR,eB,Nat.reduceAdd,Nat.reduceSub,qD,qC,qF,qB,iw,kS];gi_wp2
 go_ret
 exact⟨rfl,rfl⟩
theorem as4(l Bn n₀:Nat)(N:Nat->Prop)(sv:Value)(b:List UInt8)(hb4:b.length%4=0)(hbl:b.length<=70000)(w0:World)(aX:KW prog w0)(hn₀:n₀=w0.heap.size)(hsv:bV w0 N aV sv (B b))
  (J Jx:List Int->World->Prop) (n:Nat) (h1:1<=n)
  (hJ:∀W:World,n₀<=W.heap.size->∀pre W',J pre W->Below W.heap.size W W'->J pre W')
  (hY:∀pre x W,J pre W->pre.length<b.length/4->YieldAt Fence.wide (n-1) prog l #[.int .u32 x] W fun e W'=>
   (e=.returned (.bool true)/\J (pre++ [x]) W'/\(Below n₀ W W'/\(Boxed W Bn 22 sv->Boxed W' Bn 22 sv)))\/(e=.returned (.bool false)/\Jx (pre++ [x]) W'))
  (W:World) (hW:Below n₀ w0 W) (Xb:Boxed W Bn 22 sv) (h0:J [] W):
  CallsIn Fence.wide n prog 183 #[.func (.yield l) #[] #[],.pointer (some ⟨Bn,0,none⟩)] W fun e W'=>(∃v,e=.returned v)/\
   ((∃ys,ys=(List.range (b.length/4)).map (fun i=>((num b (4*i) 4:Nat):Int))/\J ys W')\/(∃pre,True/\Jx pre W')):=by
 refine sI func183 rfl trivial ?_ rfl;obtain⟨a,cap,rfl⟩:∃a cap,sv=.slice a b.length cap:=by
  obtain⟨vs,⟨a,cap,rfl,_⟩,rfl⟩:=hsv;exact⟨a,cap,by simp[Sh.mk,Sh.isAgg,B,ofBytes]⟩
 simp only[ntmps183,ni,bR,eB,Nat.reduceAdd,Nat.reduceSub,qD,qC,qF,qB,iw,kS];gi_wp2
 gi_loopw [3] (fun p wr=>∃k:Nat,p=.int .i64 (4*(k:Int))/\4*k<=b.length/\J ((List.range k).map (fun i=>((num b (4*i) 4:Nat):Int))) wr/\Below n₀ w0 wr/\Boxed wr Bn 22 (.slice a b.length cap))
  (fun p _=>b.length-(intOf p).toNat)
 case atStart=>
  exact⟨0,rfl,cu _,h0,hW,Xb⟩
 case round=>
  obtain⟨k,rfl,hk,hJs,hB,hX⟩:=hrel;have hc:=hX.cell;have hw4:IntKind.i64.wrap (4*(k:Int)+4)=4*(k:Int)+4:=lY (by omega);by_cases hkl:4*k+4<=b.length
  .have hg:=aiX wr (aX.below (hn₀▸hB)) N _ b hbl k hkl (hsv.mono hB.size fun c hc hlt=>⟨hB.block c (by omega),hc⟩);have hBs:=hB.size;have hm:(num b (4*k) 4:Int)%4294967296=(num b (4*k) 4:Int):=by have:num b (4*k) 4<4294967296:=qL b _ 4;omega
   gi_wp2_with (refine⟨trivial,?_⟩;gi_at_call 145;refine(jN.2 hg).mono ?_;rintro e w' ⟨rfl,hbel⟩;obtain⟨fn,tmps,assign,body,hy,hR⟩:=hY _ (num b (4*k) 4:Int) w' (hJ wr (by omega) _ w' hJs hbel) (by simp;omega))
   refine hR.mono ?_;rintro e W3 (⟨rfl,hJ3,hk3,hk4⟩|⟨rfl,hJx3⟩)
   .have Qt:=hk4 (hX.kept ⟨hbel.os,hbel.tape,hbel.output,hbel.size,fun k hk _=>hbel.block k hk⟩ (row:=none) (by simp));gi_wp2
    go_roundw
    case rel=>
     refine⟨k+1,by simp;omega,by omega,?_,(hB.trans (hbel.mono (by omega))).trans hk3,Qt⟩;rw[F4,gW];exact hJ3
    case measure=>
     simp[intOf];omega
   .gi_wp2
    refine fD (results_none rfl _ _ _) rfl ?_;exact⟨⟨_,rfl⟩,.inr ⟨_,trivial,hJx3⟩⟩
  gi_wp2
  go_end0
  refine⟨⟨_,rfl⟩,.inl ⟨_,?_,hJs⟩⟩;rw[show k=b.length/4 by omega]
theorem auy(n:Nat)(sv:Value)(w:World)(hs:∃a m c,sv=.slice a m c):
  CallsIn Fence.wide n prog 142 #[sv] w fun e w'=>e=.returned (.func (.func 183) #[] #[.pointer (some ⟨w.heap.size,0,none⟩)])/\w'=w.alloc (.cells #[sv] 22):=by
 obtain⟨a,m,c,rfl⟩:=hs;refine sI func142 rfl trivial ?_ rfl;simp only[ntmps142,ni,bR,eB,Nat.reduceAdd,Nat.reduceSub,qD,qC,qF,qB,iw,kS];gi_wp2
 go_ret
 exact⟨rfl,rfl⟩
theorem azd:(prog.info? 373).map (fun i=>(i.zero,i.size,i.bytes))=some (some (.agg #[.int .u16 0,.int .u16 0]),2,4):=by kernel_rfl
def wo(b:List UInt8):Int:=if 65520<b.length\/b.length%4≠0 then 4 else if b.length=0 then 2 else 0
theorem agw{b:List UInt8}:wo b=0↔b.length<=65520/\b.length%4=0/\b.length≠0:=by
 unfold wo;split
 .refine ⟨fun h=>absurd h (by decide),fun h=>by omega⟩
 split
 .refine ⟨fun h=>absurd h (by decide),fun h=>by omega⟩
 refine ⟨fun _=>by omega,fun _=>rfl⟩
def qo(b:List UInt8):List Int:=(List.range (b.length/4)).map fun i=>((num b (4*i) 4:Nat):Int)
def yT(b:List UInt8):List Int:=if wo b=0 then qo b else []
def Bj(x:Int):List Value:=[.int .u16 (x/65536%65536),.int .u16 (x%65536)]
theorem azc(w:World)(aX:KW prog w)(N:Nat->Prop)(sv:Value)(b:List UInt8)(hsv:bV w N aV sv (B b))(hbl:b.length<=140737488355328):
  CallsIn Fence.wide 3 prog 189 #[sv] w fun e W'=>∃v,e=.returned (.tuple #[v,.int .i64 (wo b)])/\W'.ownsRow w.heap.size 373 2 v (yT b).length ((yT b).flatMap Bj)/\Below w.heap.size w W':=by
 obtain⟨a,cap,rfl⟩:∃a cap,sv=.slice a b.length cap:=by
  obtain⟨vs,⟨a,cap,rfl,_⟩,rfl⟩:=hsv;exact⟨a,cap,by simp[Sh.mk,Sh.isAgg,B,ofBytes]⟩
 obtain⟨i0,hi,hz0,hz1,hz2⟩:=yN azd;refine callsIn_of_wp_marks func189 rfl trivial ?_ rfl;simp only[ntmps189,ni,bR,eB,Nat.reduceAdd,Nat.reduceSub,qD,qC,qF,qB,iw,kS];gi_wp2_with (refine⟨trivial,?_⟩;gi_at_call 228;refine(auz 2 _ _ ⟨_,_,_,rfl⟩).mono ?_;rintro e w' ⟨rfl,rfl⟩)
 .have e:wo b=4:=by unfold wo;rw[aC];simp_all;omega
  refine⟨_,nN rfl _ _ _,.slice none 0 0,by rw[e];rfl,?_,eD _ _⟩;rw[yT,zq (by rw[e];decide)];exact kF _ _ _ _
 .have e:wo b=2:=by unfold wo;rw[zq,aC]<;>simp_all<;>omega
  refine⟨_,nN rfl _ _ _,.slice none 0 0,by rw[e];rfl,?_,eD _ _⟩;rw[yT,zq (by rw[e];decide)];exact kF _ _ _ _
 .have e:wo b=0:=by
   have g1:= ‹(b.length:Int)<=65520/\((b.length:Int)%4 !=0)=false›;have g2:= ‹((b.length:Int)==0)=false›;have g3:=g1.2;simp only[bne_eq_false_iff_eq]at g3;simp only[Gb,ne_eq]at g2;rw[agw];omega
  obtain⟨q1,q2,q3⟩:=agw.1 e;have bO:=Boxed.new w 80 (.slice none 0 0);have bN:=Boxed.new (w.alloc (.cells #[.slice none 0 0] 80)) 22 (.slice a b.length cap);rw[zo]at bN;have hB0:Below w.heap.size w ((w.alloc (.cells #[.slice none 0 0] 80)).alloc (.cells #[.slice a b.length cap] 22)):=((eD _ w).alloc (aS _) _).alloc (by simp) _;refine wpIn_rangeFunc_ownG (α:=Int) rfl (by decide) (gf:=244) (lb:= #[.pointer (some ⟨w.heap.size+1,0,none⟩)]) rfl trivial (enters_of func244 (by kernel_rfl) rfl)
   (encs:=fun x=> #[.int .u32 x]) (Kp:=fun A A'=>Below w.heap.size A A'/\(Boxed A (w.heap.size+1) 22 (.slice a b.length cap)->Boxed A' (w.heap.size+1) 22 (.slice a b.length cap)))
   (S:=fun ys=>ys=(List.range (b.length/4)).map (fun i=>((num b (4*i) 4:Nat):Int))) (Sp:=fun _=>True) (N:=b.length/4)
   (fun l J Jx W hW hJ _ hY h0=>as5 l (w.heap.size+1) w.heap.size N _ b q2 (by omega) w aX rfl hsv J Jx 2 (by decide)
    (fun A hA pre A' hj hb=>hJ pre A A' none hj ⟨hb.os,hb.tape,hb.output,hb.size,fun k hk _=>hb.block k hk⟩ (fun r e=>by cases e)) hY W (hB0.trans (hW.mono (by simp;omega)))
    (bN.kept (W':=W) (row:=none) ⟨hW.os,hW.tape,hW.output,hW.size,fun k hk _=>hW.block k hk⟩ (by simp)) h0)
   (fun h k=>⟨h.1.trans k.1,fun x=>k.2 (h.2 x)⟩)
   (fun W l o o' hl ho hc _=>⟨belowK_b (w:=w) (aS _) W l o o' (by simp at hl;omega) ho hc (by assumption),fun hx=>?_⟩)
   (eD _ _) (fun _=>rfl)
   (fun pre W=>(∃v,Boxed W w.heap.size 80 v/\W.ownsRow w.heap.size 373 2 v pre.length (pre.flatMap Bj)/\True)/\Boxed W (w.heap.size+1) 22 (.slice a b.length cap)/\Below w.heap.size w W)
   (fun _ _ _=>False) ?hI (fun _ _ _ _ _ hs _ _=>hs)
   ⟨⟨_,bO.alloc _,kF _ _ _ _,trivial⟩,bN,hB0⟩
   (fun x=> {tmps:= #[.slice a b.length cap,undef,.slice none 0 0,.int .i64 0,.pointer (some ⟨w.heap.size,0,none⟩),.int .u32 x,.slice a b.length cap,.int .i64 b.length,.bool (decide (65520<(b.length:Int))),.bool (decide (65520<(b.length:Int))),.slice a b.length cap,.int .i64 b.length,.int .i64 (b.length%4),.bool false,.bool (decide (65520<(b.length:Int))),.slice a b.length cap,.int .i64 b.length,.bool false,.slice a b.length cap,.func (.func 244) #[] #[.pointer (some ⟨w.heap.size+1,0,none⟩)],.int .u32 x,undef,undef,undef,undef,undef,undef,undef,undef,undef,undef],defers:=[]}) ?assign ?body ?done ?stop
  case hI=>
   refine OwnFrom.and (Own.from (holdsRow_own w.heap.size w.heap.size 80 373 2 (fun pre:List Int=>pre.length) (fun pre=>pre.flatMap Bj) (fun _ _=>True)) _) (OwnFrom.and ?_ (ownFrom_below (aS _) (by simp;omega)));intro s A A' row hs hg hr;refine hs.kept hg (fun e=>?_);obtain⟨_,o,ho,hc⟩:=hr _ e.symm;rw[show A.heap[w.heap.size+1]?=_ from hs]at ho;cases ho;cases hc
  case assign=>
   intro l x W K hK;gi_wp2
   exact hK
  case body=>
   rintro l pre x W ⟨⟨v,hv,hrow,_⟩,hX,hB⟩ hlt;have hc:=hv.cell;gi_wp2_with (gi_at_builtin;refine wpListIn_append_own _ rfl _ _ 80 rfl w.heap.size 373 i0 (.agg #[.int .u16 0,.int .u16 0]) 2 4 underlying80 hi hz0 hz1 hz2 rfl (by decide) _ _ _ rfl (hrow.alloc _) ⟨W.heap.size,0,none⟩ 1 1 (Bj x) rfl rfl (Ri _ _ _ _) (by simp[Bj,Value.oneCell']) (by simp only[maxLen];omega) (by omega) (by have:=hB.size;simp;omega) ?_;intro v' w1 hown' hgrow _;obtain⟨g',cap',rfl⟩:=ownsRow_succ hown';obtain⟨hv1,hv2,hr2,hk2,hb2⟩:=hv.appended (by decide) hrow hB.size (aS _) hown' hgrow;have hc1:=hv1.cell;have hf1:=hv1.frozen)
   have hX1:=((hX.alloc _).kept hgrow (hX.not_row (by decide) hrow)).kept (grownBy_setCell' w1 w.heap.size (.slice (some ⟨g',0,none⟩) (pre.length+1) cap')) (by simp);refine⟨hk2.from _,⟨hb2,fun _=>hX1⟩,⟨_,hv2,?_,trivial⟩,hX1,hB.trans hb2⟩;rw[List.flatMap_append,cO,List.flatMap_singleton];exact hr2
  case done=>
   rintro D ys W hD rfl ⟨⟨v,hv,hrow,_⟩,hX,hB⟩ hK;have hc:=hv.cell;gi_wp2
   refine⟨by simp,.inl ⟨_,_,rfl,run_takeDeferred hK,?_⟩⟩;refine⟨_,nN rfl _ _ _,v,by rw[e];rfl,?_,hB.trans (belowK_b (w:=w) (aS _) W D _ _ (by simp at hD;omega) hK rfl rfl)⟩;have hr:=ownsRow_putObj hrow (.deferred none) hK rfl;rw[yT,aC e];unfold qo;simpa using hr
  case stop=>
   rintro D c pre W _ _ h _;exact h.elim
  .refine hx.kept (grownBy_putObj' W l o') (fun e=>?_);cases e;rw[show W.heap[w.heap.size+1]?=_ from hx]at ho;cases ho;cases hc
 have e:wo b=4:=by unfold wo;rw[aC];simp_all;omega
 refine⟨_,nN rfl _ _ _,.slice none 0 0,by rw[e];rfl,?_,eD _ _⟩;rw[yT,zq (by rw[e];decide)];exact kF _ _ _ _
abbrev at5:FuncId:=189
abbrev Qp(x:Int):C:=.ls [.int (x/65536%65536),.int (x%65536)]
theorem nk_row(w:World)(N:Nat->Prop):∀l:List Int,cZ w N yF (l.flatMap Bj) (l.map Qp)
 | []=>rfl
 |x::l=>⟨Bj x,l.flatMap Bj,rfl,⟨rfl,[.int .u16 (x/65536%65536)],[.int .u16 (x%65536)],rfl,rfl,rfl,[.int .u16 (x%65536)],[],rfl,rfl,rfl⟩,nk_row w N l⟩
theorem aqx(b:List UInt8)(hb:b.length<=70000):∃(c:C) (e:Int),PC prog at5 [(aV,B b)] [(.sl yF,c),(I64,.int e)]/\Tm (.sl yF) c:=by
 refine⟨.ls ((yT b).map Qp),wo b,PC.qX (by decide) ⟨⟨_,func189,by kernel_rfl,by kernel_rfl⟩,fun w N vs aX hvs=>?_⟩,_,rfl,?_,fun x hx=>?_⟩
 .obtain ⟨v,r,rfl,hv,rfl⟩:=hvs;refine(jN.1 (azc w aX N v b hv (by omega))).mono ?_;rintro e W' ⟨v,rfl,hown,hbel⟩;refine⟨_,rfl,⟨[v,.int .i64 (wo b)],⟨_,_,rfl,⟨[v],?_,rfl⟩,_,_,rfl,⟨_,rfl,rfl⟩,rfl⟩,rfl⟩,hbel⟩;have hown':W'.jL (fun g=>w.heap.size<=g) 373 yF.size v (C.ls ((yT b).map Qp)).toList.length ((yT b).flatMap Bj):=by
   rw[gU,bJ];exact hown
  refine zK (c:=.ls ((yT b).map Qp)) hown' (nk_row _ _ _) (fun g hg=> .inr ?_);rcases hown'.2 with⟨rfl,_⟩|⟨g',cap,cur,rfl,hb,_⟩
  .cases hg
  cases hg;exact hb
 .rw[bJ];unfold yT qo;split
  .simp;omega
  .simp
 obtain ⟨n,_,rfl⟩:=gP.1 hx;have h2:∀m:Int,0<=m%65536/\m%65536<=65535:=fun m=>by omega
 exact⟨_,_,rfl,⟨_,rfl,h2 _⟩,_,_,rfl,⟨_,rfl,h2 _⟩,rfl⟩
end Go.Vc
namespace Go.Vc
open Go Go.Proofs Go.Plain Tryz
theorem aA8{c:C}(h:Tm wZ c):∃r:Rm,c=vk r/\r.ok:=by
 obtain⟨_,_,rfl,h1,t⟩:=h;obtain⟨_,_,rfl,h2,t⟩:=fQ t;obtain⟨_,_,rfl,h3,t⟩:=fQ t;obtain rfl:=sZ t;obtain⟨e,rfl,_⟩:=h1;obtain⟨m,rfl,hm⟩:=om rfl h2;obtain⟨l,rfl,_,hl⟩:=h3;obtain⟨l',rfl,h'⟩:=O6 (f:=fun n:Nat=>C.int (n:Int)) fun x hx=>om rfl (hl x hx);exact⟨⟨e,m,l'⟩,rfl,hm,h'⟩
structure Fe where
 k:Int
 f:Nat
 o:Nat
 ps:List C
 a:Ar
 es:List C
 r:Rm
abbrev qI(x:Fe):C:=.ls [.int x.k,.int (x.f:Nat),.int (x.o:Nat),.ls x.ps,AP x.a,.ls x.es,vk x.r]
def Fe.ok(x:Fe):Prop:=x.f<4294967296/\x.o<4294967296/\Tm (.sl yF) (.ls x.ps)/\x.a.ok/\Tm (.sl xg) (.ls x.es)/\x.r.ok
theorem ajW{c:C}(h:Tm lu c):∃x:Fe,c=qI x/\x.ok:=by
 obtain⟨_,_,rfl,h1,t⟩:=h;obtain⟨_,_,rfl,h2,t⟩:=fQ t;obtain⟨_,_,rfl,h3,t⟩:=fQ t;obtain⟨_,_,rfl,h4,t⟩:=fQ t;obtain⟨_,_,rfl,h5,t⟩:=fQ t;obtain⟨_,_,rfl,h6,t⟩:=fQ t;obtain⟨_,_,rfl,h7,t⟩:=fQ t;obtain rfl:=sZ t;obtain⟨k,rfl,_⟩:=h1;obtain⟨f,rfl,hf⟩:=om rfl h2;obtain⟨o,rfl,ho⟩:=om rfl h3;obtain⟨a,rfl,ha⟩:=ajZ h5;obtain⟨r,rfl,hr⟩:=aA8 h7;obtain⟨ps,rfl,_⟩:=id h4;obtain⟨es,rfl,_⟩:=id h6;exact⟨⟨k,f,o,ps,a,es,r⟩,rfl,hf,ho,h4,ha,h6,hr⟩
abbrev IfP:Sh:=.dB 273 (.sl yF)
abbrev IfE:Sh:=.dB 276 (.sl xg)
abbrev IfA:Sh:=.dB 340 .je
theorem aoX(x:Fe):∃b:Bool,PC prog ac1 [(lu,qI x)] [(.bool,.bool b)]:=by
 obtain⟨rs,⟨b,rfl⟩,hp⟩:=tot (Post:=fun rs=>∃b:Bool,rs=[(.bool,.bool b)]) (cs:=[qI x]) apv rfl rfl (by
  simp only[abb,aJ];exact⟨fun _=>⟨_,rfl⟩,fun _=>⟨fun _=>⟨_,rfl⟩,fun _=>⟨fun _=>⟨_,rfl⟩,fun _=>⟨_,rfl⟩⟩⟩⟩)
 exact⟨b,hp⟩
theorem aAa(x:Fe)(h:x.k=1):PC prog Gw [(lu,qI x)] [(IfP,.ls x.ps),(.bool,.bool true)]:=by
 apply JE rfl;simp only[Gp,aJ];exact⟨fun _=>trivial,fun h'=>absurd h h'⟩
theorem az8(x:Fe)(h:x.k=2):PC prog Gw [(lu,qI x)] [(IfT,.ls [AP x.a]),(.bool,.bool true)]:=by
 apply JE rfl;simp only[Gp,aJ];exact⟨fun h'=>by omega,fun _=>⟨fun _=>trivial,fun h'=>absurd h h'⟩⟩
theorem aAb(x:Fe)(h:x.k=4):PC prog Gw [(lu,qI x)] [(IfE,.ls x.es),(.bool,.bool true)]:=by
 apply JE rfl;simp only[Gp,aJ];exact⟨fun h'=>by omega,fun _=>⟨fun h'=>by omega,fun _=>⟨fun h'=>by omega,fun _=>⟨fun _=>trivial,fun h'=>absurd h h'⟩⟩⟩⟩
theorem az9(x:Fe)(h:x.k=5):PC prog Gw [(lu,qI x)] [(IfR,.ls [vk x.r]),(.bool,.bool true)]:=by
 apply JE rfl;simp only[Gp,aJ];exact⟨fun h'=>by omega,fun _=>⟨fun h'=>by omega,fun _=>⟨fun h'=>by omega,fun _=>⟨fun h'=>by omega,fun _=>⟨fun _=>trivial,fun h'=>absurd h h'⟩⟩⟩⟩⟩
theorem aAc(x:Fe)(h:x.k≠1/\x.k≠2/\x.k≠4/\x.k≠5):∃b:Bool,PC prog Gw [(lu,qI x)] [(IfA,.ls []),(.bool,.bool b)]:=by
 refine⟨decide (x.k=3),JE rfl ?_⟩;simp only[Gp,aJ];refine⟨fun h'=>absurd h' h.1,fun _=>⟨fun h'=>absurd h' h.2.1,fun _=>⟨fun h'=>by simp[h'],fun h'=>⟨fun h''=>absurd h'' h.2.2.1,fun _=>⟨fun h''=>absurd h'' h.2.2.2,fun _=>by simp[h']⟩⟩⟩⟩⟩
theorem aBU(x:Fe)(h:x.ok):∃(b:List UInt8) (e:Int),PC prog Ye [(.sl yF,.ls x.ps)] [(aV,B b),(I64,.int e)]/\b.length<=600000:=by
 obtain⟨b,e,hp,hb⟩:=aoV x.ps h.2.2.1;refine⟨b,e,amc rfl ?_,hb⟩;simp only[XW,aJ,aG];exact⟨_,_,hp,rfl⟩
theorem aBV(x:Fe)(h:x.ok):∃(b:List UInt8) (e:Int),PC prog XP [(.sl xg,.ls x.es)] [(aV,B b),(I64,.int e)]/\b.length<=600000:=by
 obtain⟨b,e,hp,hb⟩:=anR x.es h.2.2.2.2.1;refine⟨b,e,al0 rfl ?_,hb⟩;simp only[XC,aJ,aG];exact⟨_,_,hp,rfl⟩
theorem aBS(x:Fe)(h:x.ok):∃(b:List UInt8) (e:Int),PC prog XO [(.jc uY .je,.ls [AP x.a])] [(aV,B b),(I64,.int e)]/\b.length<=600000:=by
 obtain⟨b,e,hp,hb⟩:=am8 x.a h.2.2.2.1;refine⟨b,e,alZ rfl ?_,by omega⟩;simp only[XB,aJ,aG];exact⟨_,_,hp,rfl⟩
theorem aBT(x:Fe)(h:x.ok):∃(b:List UInt8) (e:Int),PC prog Yk [(.jc wZ .je,.ls [vk x.r])] [(aV,B b),(I64,.int e)]/\b.length<=600000:=by
 refine⟨Lx x.r,PY x.r,amh rfl ?_,?_⟩
 .simp only[X8,aJ,aG];exact⟨_,_,aqZ x.r h.2.2.2.2.2,rfl⟩
 unfold Lx;split
 next hr=>have:=x.r.MP;have:=hr.2.2.2;omega
 decide
theorem aBW:∃(b:List UInt8) (e:Int),PC prog X5 [(.je,.ls [])] [(aV,B b),(I64,.int e)]/\b.length<=600000:=by
 refine⟨[],0,al4 rfl ?_,by decide⟩;simp only[XJ,aJ];rfl
theorem aoY(x:Fe)(h:x.ok):∃(b:List UInt8) (e:Int),PC prog abP [(lu,qI x)] [(aV,B b),(I64,.int e)]/\b.length<=700000:=by
 obtain⟨cl,hcl⟩:=aoX x;have w1:=u64_in (show x.f<18446744073709551616 by have:=h.1;omega);have w2:=u64_in (show x.o<18446744073709551616 by have:=h.2.1;omega);have p1:=xV x.f 4 (by decide);have p2:=xV x.o 4 (by decide);have bp:∀{b:List UInt8},b.length<=600000->(List.flatten [gH x.f 4,gH x.o 4,b]).length<=700000:=fun {b} hb=>by simp only[List.flatten_cons,List.flatten_nil,cO,eB];omega
 have post:∀{b:List UInt8},b.length<=600000->∃(b':List UInt8) (e':Int),[(aV,B (List.flatten [gH x.f 4,gH x.o 4,b])),(I64,C.int 0)]=[(aV,B b'),(I64,C.int e')]/\b'.length<=700000:=fun hb=>⟨_,_,rfl,bp hb⟩;have LD:=vC x.f 4 (by have:=h.1;omega);have LC:=vC x.o 4 (by have:=h.2.1;omega);have bad:∃(b':List UInt8) (e':Int),[(aV,C.ls []),(I64,C.int 1)]=[(aV,B b'),(I64,C.int e')]/\b'.length<=700000:=⟨[],_,rfl,by decide⟩;by_cases kt:x.k=2
 .obtain ⟨m,e,hm,hb⟩:=aBS x h;obtain⟨rs,⟨b,e,rfl,hq⟩,hp⟩:=tot (Post:=fun rs=>∃(b:List UInt8) (e:Int),rs=[(aV,B b),(I64,.int e)]/\b.length<=700000) (cs:=[qI x]) an7 rfl rfl (by
   simp only[Z4,aJ,aG,w1,w2];exact⟨_,_,az8 x kt,_,fun _=>hcl,fun _=>bad,fun _=>⟨_,_,hm,fun _=>bad,fun _=>⟨_,_,LD,_,_,LC,_,uo [gH x.f 4,gH x.o 4,m] (by simp) (by have:=bp hb;omega),post hb⟩⟩⟩)
  exact⟨b,e,hp,hq⟩
 by_cases kp:x.k=1
 .obtain ⟨m,e,hm,hb⟩:=aBU x h;obtain⟨rs,⟨b,e,rfl,hq⟩,hp⟩:=tot (Post:=fun rs=>∃(b:List UInt8) (e:Int),rs=[(aV,B b),(I64,.int e)]/\b.length<=700000) (cs:=[qI x]) an9 rfl rfl (by
   simp only[Z6,aJ,aG,w1,w2];exact⟨_,_,aAa x kp,_,fun _=>hcl,fun _=>bad,fun _=>⟨_,_,hm,fun _=>bad,fun _=>⟨_,_,LD,_,_,LC,_,uo [gH x.f 4,gH x.o 4,m] (by simp) (by have:=bp hb;omega),post hb⟩⟩⟩)
  exact⟨b,e,hp,hq⟩
 by_cases ke:x.k=4
 .obtain ⟨m,e,hm,hb⟩:=aBV x h;obtain⟨rs,⟨b,e,rfl,hq⟩,hp⟩:=tot (Post:=fun rs=>∃(b:List UInt8) (e:Int),rs=[(aV,B b),(I64,.int e)]/\b.length<=700000) (cs:=[qI x]) aoa rfl rfl (by
   simp only[Z7,aJ,aG,w1,w2];exact⟨_,_,aAb x ke,_,fun _=>hcl,fun _=>bad,fun _=>⟨_,_,hm,fun _=>bad,fun _=>⟨_,_,LD,_,_,LC,_,uo [gH x.f 4,gH x.o 4,m] (by simp) (by have:=bp hb;omega),post hb⟩⟩⟩)
  exact⟨b,e,hp,hq⟩
 by_cases kr:x.k=5
 .obtain ⟨m,e,hm,hb⟩:=aBT x h;obtain⟨rs,⟨b,e,rfl,hq⟩,hp⟩:=tot (Post:=fun rs=>∃(b:List UInt8) (e:Int),rs=[(aV,B b),(I64,.int e)]/\b.length<=700000) (cs:=[qI x]) an8 rfl rfl (by
   simp only[Z5,aJ,aG,w1,w2];exact⟨_,_,az9 x kr,_,fun _=>hcl,fun _=>bad,fun _=>⟨_,_,hm,fun _=>bad,fun _=>⟨_,_,LD,_,_,LC,_,uo [gH x.f 4,gH x.o 4,m] (by simp) (by have:=bp hb;omega),post hb⟩⟩⟩)
  exact⟨b,e,hp,hq⟩
 obtain⟨ok,hs⟩:=aAc x ⟨kp,kt,ke,kr⟩;obtain⟨m,e,hm,hb⟩:=aBW;obtain⟨rs,⟨b,e,rfl,hq⟩,hp⟩:=tot (Post:=fun rs=>∃(b:List UInt8) (e:Int),rs=[(aV,B b),(I64,.int e)]/\b.length<=700000) (cs:=[qI x]) aob rfl rfl (by
  simp only[Z8,aJ,aG,w1,w2];exact⟨_,_,hs,_,fun _=>hcl,fun _=>bad,fun _=>⟨_,_,hm,fun _=>bad,fun _=>⟨_,_,LD,_,_,LC,_,uo [gH x.f 4,gH x.o 4,m] (by simp) (by have:=bp hb;omega),post hb⟩⟩⟩)
 exact⟨b,e,hp,hq⟩
theorem U0(r:Rm)(h:r.ok)(he: -9223372036854775808<=r.exp/\r.exp<=9223372036854775807)(hl:r.srcs.length<=70000):Tm wZ (vk r):=by
 refine⟨_,_,rfl,nZ he,_,_,rfl,⟨_,rfl,?_⟩,_,_,rfl,⟨_,rfl,by simpa using hl,fun x hx=>?_⟩,rfl⟩
 .have:=h.1;show(0:Int)<=_/\_<=(4294967295:Int);omega
 obtain ⟨n,hn,rfl⟩:=gP.1 hx;have:=h.2 n hn;refine⟨_,rfl,?_⟩;show(0:Int)<=_/\_<=(4294967295:Int);omega
theorem aAe(b:List UInt8):(AA b).ok/\(-9223372036854775808<=(AA b).exp/\(AA b).exp<=9223372036854775807)/\(AA b).srcs.length<=70000:=by
 unfold AA;split
 .obtain ⟨h1,h2,_⟩:=Rm.axE b;exact⟨h2,by have:=h1.1;omega,by have:=h1.2.2.2;omega⟩
 exact ⟨⟨by decide,by simp[Rm.zero]⟩,by decide,by decide⟩
theorem aB2(b:List UInt8)(hb:b.length<=70000):∃(c:C) (e:Int),PC prog Gx [(I64,.int 1),(aV,B b)] [(IfP,c),(I64,.int e)]/\Tm (.sl yF) c:=by
 obtain⟨c,e,hp,hc⟩:=aqx b hb;refine⟨c,e,JF rfl ?_,hc⟩;simp only[Gq,aJ,aG];exact⟨⟨_,_,hp,rfl⟩,fun h=>absurd trivial h⟩
theorem aB0(b:List UInt8)(hb:b.length<=70000):∃(a:Ar) (e:Int),PC prog Gx [(I64,.int 2),(aV,B b)] [(IfT,.ls [AP a]),(I64,.int e)]/\Tm uY (AP a):=by
 obtain⟨c,e,hp,hc⟩:=anS b hb;obtain⟨a,rfl,_⟩:=ajZ hc;refine⟨a,e,JF rfl ?_,hc⟩;simp only[Gq,aJ,aG];exact⟨fun h=>absurd h (by decide),fun _=>⟨⟨_,_,hp,rfl⟩,fun h=>absurd trivial h⟩⟩
theorem aB3(b:List UInt8)(hb:b.length<=70000):∃(c:C) (e:Int),PC prog Gx [(I64,.int 4),(aV,B b)] [(IfE,c),(I64,.int e)]/\Tm (.sl xg) c:=by
 obtain⟨c,e,hp,hc⟩:=aoW b hb;refine⟨c,e,JF rfl ?_,hc⟩;simp only[Gq,aJ,aG];exact⟨fun h=>absurd h (by decide),fun _=>⟨fun h=>absurd h (by decide),fun _=>⟨⟨_,_,hp,rfl⟩,fun h=>absurd trivial h⟩⟩⟩
theorem aB1(b:List UInt8)(hb:b.length<=70000):∃(r:Rm) (e:Int),PC prog Gx [(I64,.int 5),(aV,B b)] [(IfR,.ls [vk r]),(I64,.int e)]/\Tm wZ (vk r):=by
 have hr:=asr b (by omega);obtain⟨h1,h2,h3⟩:=aAe b;refine⟨AA b,rP b,JF rfl ?_,U0 _ h1 h2 h3⟩;simp only[Gq,aJ,aG];exact⟨fun h=>absurd h (by decide),fun _=>⟨fun h=>absurd h (by decide),fun _=>⟨fun h=>absurd h (by decide),fun _=>⟨⟨_,_,hr,rfl⟩,fun h=>absurd trivial h⟩⟩⟩⟩
theorem aB4(k:Int)(h:k≠1/\k≠2/\k≠4/\k≠5)(b:List UInt8):∃(e:Int),PC prog Gx [(I64,.int k),(aV,B b)] [(IfA,.ls []),(I64,.int e)]:=by
 refine⟨if 0<b.length then 4 else 0,JF rfl ?_⟩;simp only[Gq,aJ,aG,bD];exact⟨fun h'=>absurd h' h.1,fun _=>⟨fun h'=>absurd h' h.2.1,fun _=>⟨fun h'=>absurd h' h.2.2.1,fun _=>⟨fun h'=>absurd h' h.2.2.2,fun _=>⟨fun h'=>by rw[aC (by omega)],fun h'=>by rw[zq (by omega)]⟩⟩⟩⟩⟩
theorem EX:Tm lu (qI ⟨0,0,0,[],Ar.zero,[],Rm.zero⟩):=⟨_,_,rfl,nZ (by decide),_,_,rfl,⟨0,rfl,by decide,by decide⟩,_,_,rfl,⟨0,rfl,by decide,by decide⟩,_,_,rfl,iN _,_,_,rfl,Hw,_,_,rfl,iN _,_,_,rfl,U0 Rm.zero ⟨by decide,by simp[Rm.zero]⟩ (by decide) (by decide),rfl⟩
theorem aqz(k : Int)(hk : -9223372036854775808 <= k /\ k <= 9223372036854775807)(b : List UInt8)(hb : b.length <= 70000) : ∃(c : C) (e : Int), PC prog ac2 [(I64,.int k), (aV, B b)] [(lu, c), (I64,.int e)] /\ Tm lu c := by
  have Z : ∀ e : Int, ∃(c : C) (e' : Int), [(lu, qI ⟨0, 0, 0, [], Ar.zero, [], Rm.zero⟩), (I64, C.int e)] = [(lu, c), (I64, C.int e')] /\ Tm lu c := fun e => ⟨_, e, rfl, EX⟩;have z1 : Tm wZ (vk Rm.zero) := U0 Rm.zero ⟨by decide, by simp [Rm.zero]⟩ (by decide) (by decide);have mk : ∀{f o : Int} {p a e r : C}, Tm (.sl yF) p -> Tm uY a -> Tm (.sl xg) e -> Tm wZ r -> Tm lu (.ls [.int k,.int (IntKind.u32.wrap f),.int (IntKind.u32.wrap o), p, a, e, r]) := fun h1 h2 h3 h4 => ⟨_, _, rfl, nZ hk, _, _, rfl, EI .u32 _, _, _, rfl, EI .u32 _, _, _, rfl, h1, _, _, rfl, h2, _, _, rfl, h3, _, _, rfl, h4, rfl⟩;have cut : 8 <= b.length -> C.ls (List.drop 8 (List.take b.length (ofBytes b))) = B (b.drop 8) := fun _ => (FX b 8).symm;have hcd := acp k;have g1 := sP b 0 4 (by omega);have g2 := sP b 4 4 (by omega);have hd : (b.drop 8).length <= 70000 := by simp; omega
  by_cases kp : k = 1
  . subst kp
    obtain⟨m, em, hm, hc⟩ := aB2 (b.drop 8) hd;obtain⟨rs, ⟨c, e, rfl, hq⟩, hp⟩ := tot (Post := fun rs => ∃(c : C) (e : Int), rs = [(lu, c), (I64,.int e)] /\ Tm lu c) (cs := [.int 1, B b]) apy rfl rfl (by
      simp only [abf, aJ, aG, bD];refine⟨_, _, _, hcd, fun _ => Z _, fun _ => ⟨fun _ => Z _, fun _ => ⟨fun _ => Z _, fun h8 => ⟨by omega, by omega, ?_⟩⟩⟩⟩;rw [dF, show Int.toNat 8 = 8 from rfl, cut (by omega)];exact⟨_, _, hm, fun _ => Z _, fun _ => ⟨_, _, g1, _, _, g2, _, _, rfl, mk hc Hw (iN _) z1⟩⟩)
    exact⟨c, e, hp, hq⟩
  by_cases ke : k = 4
  . subst ke
    obtain⟨m, em, hm, hc⟩ := aB3 (b.drop 8) hd;obtain⟨rs, ⟨c, e, rfl, hq⟩, hp⟩ := tot (Post := fun rs => ∃(c : C) (e : Int), rs = [(lu, c), (I64,.int e)] /\ Tm lu c) (cs := [.int 4, B b]) apz rfl rfl (by
      simp only [abg, aJ, aG, bD];refine⟨_, _, _, hcd, fun _ => Z _, fun _ => ⟨fun _ => Z _, fun _ => ⟨fun _ => Z _, fun h8 => ⟨by omega, by omega, ?_⟩⟩⟩⟩;rw [dF, show Int.toNat 8 = 8 from rfl, cut (by omega)];exact⟨_, _, hm, fun _ => Z _, fun _ => ⟨_, _, g1, _, _, g2, _, _, rfl, mk  (iN _) Hw hc z1⟩⟩)
    exact⟨c, e, hp, hq⟩
  by_cases kt : k = 2
  . subst kt
    obtain⟨m, em, hm, hc⟩ := aB0 (b.drop 8) hd;obtain⟨rs, ⟨c, e, rfl, hq⟩, hp⟩ := tot (Post := fun rs => ∃(c : C) (e : Int), rs = [(lu, c), (I64,.int e)] /\ Tm lu c) (cs := [.int 2, B b]) apw rfl rfl (by
      simp only [abd, aJ, aG, bD];refine⟨_, _, _, hcd, fun _ => Z _, fun _ => ⟨fun _ => Z _, fun _ => ⟨fun _ => Z _, fun h8 => ⟨by omega, by omega, ?_⟩⟩⟩⟩;rw [dF, show Int.toNat 8 = 8 from rfl, cut (by omega)];exact⟨_, _, hm, fun _ => Z _, fun _ => ⟨_, _, g1, _, _, g2, _, _, rfl, mk (iN _) hc (iN _) z1⟩⟩)
    exact⟨c, e, hp, hq⟩
  by_cases kr : k = 5
  . subst kr
    obtain⟨m, em, hm, hc⟩ := aB1 (b.drop 8) hd;obtain⟨rs, ⟨c, e, rfl, hq⟩, hp⟩ := tot (Post := fun rs => ∃(c : C) (e : Int), rs = [(lu, c), (I64,.int e)] /\ Tm lu c) (cs := [.int 5, B b]) apx rfl rfl (by
      simp only [abe, aJ, aG, bD];refine⟨_, _, _, hcd, fun _ => Z _, fun _ => ⟨fun _ => Z _, fun _ => ⟨fun _ => Z _, fun h8 => ⟨by omega, by omega, ?_⟩⟩⟩⟩;rw [dF, show Int.toNat 8 = 8 from rfl, cut (by omega)];exact⟨_, _, hm, fun _ => Z _, fun _ => ⟨_, _, g1, _, _, g2, _, _, rfl, mk (iN _) Hw (iN _) hc⟩⟩)
    exact⟨c, e, hp, hq⟩
  obtain⟨em, hm⟩ := aB4 k ⟨kp, kt, ke, kr⟩ (b.drop 8);obtain⟨rs, ⟨c, e, rfl, hq⟩, hp⟩ := tot (Post := fun rs => ∃(c : C) (e : Int), rs = [(lu, c), (I64,.int e)] /\ Tm lu c) (cs := [.int k, B b]) apA rfl rfl (by
    simp only [abh, aJ, aG, bD];refine⟨_, _, _, hcd, fun _ => Z _, fun _ => ⟨fun _ => Z _, fun _ => ⟨fun _ => Z _, fun h8 => ⟨by omega, by omega, ?_⟩⟩⟩⟩;rw [dF, show Int.toNat 8 = 8 from rfl, cut (by omega)];exact⟨_, _, hm, fun _ => Z _, fun _ => ⟨_, _, g1, _, _, g2, _, _, rfl, mk (iN _) Hw (iN _) z1⟩⟩)
  exact⟨c, e, hp, hq⟩
abbrev I5:Sh:=.jc I64 (.jc .str .je)
abbrev uX:Sh:=.jc U32 (.jc (.sl I5) .je)
theorem ajV{c:C}(h:Tm I5 c):∃(t:Int) (s:List UInt8),c=.ls [.int t,.str s]/\s.length<=70000:=by
 obtain⟨_,_,rfl,h1,t⟩:=h;obtain⟨_,_,rfl,h2,t⟩:=fQ t;obtain rfl:=sZ t;obtain⟨n,rfl,_⟩:=h1;obtain⟨s,rfl,hs⟩:=h2;exact⟨n,s,rfl,hs⟩
theorem ajX{c:C}(h:Tm uX c):∃(v:Nat) (l:List C),c=.ls [.int (v:Nat),.ls l]/\v<4294967296/\Tm (.sl I5) (.ls l):=by
 obtain⟨_,_,rfl,h1,t⟩:=h;obtain⟨_,_,rfl,h2,t⟩:=fQ t;obtain rfl:=sZ t;obtain⟨v,rfl,hv⟩:=om rfl h1;obtain⟨l,rfl,hl⟩:=id h2;exact⟨v,l,rfl,hv,h2⟩
theorem okB{c:Prop}[Decidable c]{x y:Bool}:∃b:Bool,[(Sh.bool,if c then C.bool x else C.bool y)]=[(Sh.bool,C.bool b)]:=⟨if c then x else y,by rw[Oa]⟩
theorem aqw(t:Int)(s:List UInt8)(hs:s.length<=70000):∃b:Bool,PC prog Y2 [(I5,.ls [.int t,.str s])] [(.bool,.bool b)]:=by
 obtain⟨rs,⟨b,rfl⟩,hp⟩:=tot (Post:=fun rs=>∃b:Bool,rs=[(.bool,.bool b)]) (cs:=[.ls [.int t,.str s]]) amx rfl rfl (by
  simp only[Yu,aJ];exact⟨_,fun _=>MU s (by omega),okB⟩)
 exact⟨b,hp⟩
theorem aB5(n:Nat)(h:n<9223372036854775807):arith .quo .i64 (n:Int) 4=((n/4:Nat):Int):=by
 rw[afY _ _ _ (by omega),lY (by omega)];omega
theorem aoR(l:List C)(h:Tm (.sl uX) (.ls l)):∃b:Bool,PC prog acF [(.sl uX,.ls l)] [(.bool,.bool b)]/\(b=true->l.length<=31):=by
 have hl:=Bt h;obtain⟨rs,⟨b,rfl,hb⟩,hp⟩:=tot (Post:=fun rs=>∃b:Bool,rs=[(.bool,.bool b)]/\(b=true->l.length<=31)) (cs:=[.ls l]) ao7 rfl rfl (by
  simp only[aaO,aJ];refine⟨fun _=>⟨_,rfl,fun h=>(by cases h)⟩,fun hn=>?_⟩;refine VC.jw (fun s:Nat×Nat=> [.bool false,.int s.1,.int s.2]) (fun s=>s.2<=l.length/\s.1<=s.2*5000000000) (fun s=>l.length-s.2) (0,0) rfl ⟨cu _,aS _⟩ fun s hi=>?_;obtain⟨z,i⟩:=s;simp only at hi;simp only[aJ,aG];refine⟨fun hc=>⟨by omega,by omega,by omega,?_⟩,fun _=>⟨_,rfl,fun _=>by omega⟩⟩;obtain⟨v,its,e,hv,ht⟩:=ajX (Fv h (show i<l.length by omega));have hlt:=Bt ht;refine VC.jw (fun s:Nat×Nat=> [.bool false,.int s.1,.int s.2]) (fun s=>s.2<=its.length/\s.1<=z+4+s.2*70002) (fun s=>its.length-s.2) (z+4,0) (by simp only[kM];rfl) ⟨cu _,by simp only;omega⟩ fun s hj=>?_;obtain⟨y,j⟩:=s;simp only at hj;simp only[aJ,aG,dF,e,aB5 y (by omega)];refine⟨fun hc=>?_,fun hc=>⟨by omega,by omega,by omega,(y/4*4+4,i+1),by simp,⟨by simp only;omega,by simp only;omega⟩,by simp only;omega⟩⟩;obtain⟨t,s,e2,hs⟩:=ajV (Fv ht (show j<its.length by omega));obtain⟨b,hb⟩:=aqw t s hs;rw[e2];simp only[iP,jE,Pf];refine⟨by omega,by omega,_,hb,fun _=>⟨_,rfl,fun h=>(by cases h)⟩,fun _=>⟨by omega,by omega,by omega,(y+(2+s.length),j+1),by simp,⟨by simp only;omega,by simp only;omega⟩,by simp only;omega⟩⟩)
 exact⟨b,hp,hb⟩
theorem aBm(n:Nat):arith .rem .i64 (4-((n%4:Nat):Int)) 4=(((4-n%4)%4:Nat):Int):=by
 rw[NA _ _ _ (by omega)];omega
theorem aty(b:List UInt8)(hb:b.length<=1000000000000):PC prog aeB [(aV,B b)] [(aV,B (yh b))]:=by
 apply aso rfl;simp only[RD,aJ,aG,bD,P5 _ (show b.length<9223372036854775807 by omega),aBm];refine⟨by omega,by omega,by omega,by omega,by omega,?_⟩;rw[<-Ck,dF];congr 3
 rw[RJ,mO (by simp),Aw];have e:List.drop 0 (ofBytes b)=ofBytes b:=rfl;rw[e,QU];congr 1
 unfold yh jr;simp only[vY,iw,qV,Nat.sub_zero,kD,List.drop_replicate];rw[mO (by omega),xA]
theorem TT(b:List UInt8):(yh b).length<=b.length+3:=by unfold yh;simp;omega
theorem aoQ(l:List C)(h:Tm (.sl uX) (.ls l)):∃(b:List UInt8) (e:Int),PC prog acE [(.sl uX,.ls l)] [(aV,B b),(I64,.int e)]/\b.length<=200000000000:=by
 have hl:=Bt h;obtain⟨r,hr,hr2⟩:=aoR l h;obtain⟨rs,⟨b,e,rfl,hb⟩,hp⟩:=tot (Post:=fun rs=>∃(b:List UInt8) (e:Int),rs=[(aV,B b),(I64,.int e)]/\b.length<=200000000000) (cs:=[.ls l]) ao6 rfl rfl (by
  simp only[aaN,aJ,aG];refine⟨_,hr,fun _=>⟨[],_,rfl,by decide⟩,fun hc=>?_⟩;have hn:=hr2 (by simpa using hc);refine VC.jw (fun s:List UInt8×Nat=> [B s.1,.int s.2]) (fun s=>s.2<=l.length/\s.1.length<=s.2*5000000000) (fun s=>l.length-s.2) ([],0) rfl ⟨cu _,aS _⟩ fun s hi=>?_;obtain⟨o,i⟩:=s;simp only at hi;simp only[aJ,aG,bD,dF];refine⟨fun hc=>⟨by omega,by omega,?_⟩,fun _=>⟨o,0,rfl,by omega⟩⟩;obtain⟨v,its,e,hv,ht⟩:=ajX (Fv h (show i<l.length by omega));have hlt:=Bt ht;have hpl:=xV v 4 (by decide);rw[e];simp only[iP,dV,u64_in (show v<18446744073709551616 by omega)];refine⟨_,_,vC v 4 (by omega),?_⟩;simp only[gU,bD];refine⟨by omega,?_⟩;refine VC.jw (fun s:List UInt8×Nat=> [B s.1,.int s.2]) (fun s=>s.2<=its.length/\s.1.length<=o.length+8+s.2*70002) (fun s=>its.length-s.2) (o++gH v 4,0) (by simp only[kM];simp[ofBytes]) ⟨cu _,by simp;omega⟩ fun s hj=>?_;obtain⟨p,j⟩:=s;simp only at hj;simp only[aJ,aG,dF,e,bD,Tx];refine⟨fun hc=>?_,fun hc=>?_⟩
  .obtain ⟨t,s,e2,hs⟩:=ajV (Fv ht (show j<its.length by omega));rw[e2];simp only[iP,jE,dV,Pf];refine⟨by omega,by omega,by simp;omega,by omega,by omega,(p++([Cn t,Cn s.length]++s),j+1),by simp[ofBytes],⟨by simp only;omega,by simp;omega⟩,by simp only;omega⟩
  .have hf:=TT (p++ [0]);have hf2:(p++ [0]).length=p.length+1:=by simp
   rw[show ofBytes p++ [C.int 0]=ofBytes (p++ [0]) by simp[ofBytes]];refine⟨by simp;omega,_,aty (p++ [0]) (by omega),by omega,(yh (p++ [0]),i+1),rfl,⟨by simp only;omega,by simp only;omega⟩,by simp only;omega⟩)
 exact⟨b,e,hp,hb⟩
structure By where
 l:List Nat
 s:Bool
 r:List UInt8
abbrev Eo(x:By):C:=.ls [Ns x.l,.bool x.s,.str x.r]
def By.ok(x:By):Prop:=x.l.length<=70000/\(∀n∈x.l,n<4294967296)/\x.r.length<=70000
theorem ajY{c:C}(h:Tm BK c):∃x:By,c=Eo x/\x.ok:=by
 obtain⟨_,_,rfl,h1,t⟩:=h;obtain⟨_,_,rfl,h2,t⟩:=fQ t;obtain⟨_,_,rfl,h3,t⟩:=fQ t;obtain rfl:=sZ t;obtain⟨l,rfl,hn,hl⟩:=h1;obtain⟨s,rfl⟩:=h2;obtain⟨r,rfl,hr⟩:=h3;obtain⟨l',rfl,h'⟩:=O6 (f:=fun n:Nat=>C.int (n:Int)) fun x hx=>om rfl (hl x hx);exact⟨⟨l',s,r⟩,rfl,by simpa using hn,h',hr⟩
theorem ar6(x:By)(h:x.ok):∃b:Bool,PC prog ZG [(BK,Eo x)] [(.bool,.bool b)]:=by
 obtain⟨rs,⟨b,rfl⟩,hp⟩:=tot (Post:=fun rs=>∃b:Bool,rs=[(.bool,.bool b)]) (cs:=[Eo x]) amS rfl rfl (by
  simp only[YR,aJ];exact⟨_,fun _=>MU x.r (by have:=h.2.2;omega),fun _=>⟨_,rfl⟩,fun _=>⟨_,rfl⟩⟩)
 exact⟨b,hp⟩
theorem ar4(x:By)(h:x.ok):∃(b:List UInt8) (e:Int),PC prog ZE [(BK,Eo x)] [(aV,B b),(I64,.int e)]/\b.length<=200000000000:=by
 obtain⟨r,hr⟩:=ar6 x h;obtain⟨h1,h2,h3⟩:=h;obtain⟨rs,⟨b,e,rfl,hb⟩,hp⟩:=tot (Post:=fun rs=>∃(b:List UInt8) (e:Int),rs=[(aV,B b),(I64,.int e)]/\b.length<=200000000000) (cs:=[Eo x]) amQ rfl rfl (by
  simp only[YP,aJ,aG];refine⟨_,hr,fun _=>⟨[],_,rfl,by decide⟩,fun _=>?_⟩;refine VC.jw (fun s:List UInt8×Nat=> [B s.1,.int s.2]) (fun s=>s.2<=x.l.length/\s.1.length<=s.2*8) (fun s=>x.l.length-s.2) ([],0) rfl ⟨cu _,aS _⟩ fun s hi=>?_;obtain⟨o,i⟩:=s;simp only at hi;simp only[aJ,aG,bD,bJ,dF,Tx];refine⟨fun hc=>?_,fun _=>⟨fun _=>?_,fun _=>?_⟩⟩
  .have hil:i<x.l.length:=by omega
   have hv:=h2 _ (Hg hil);have hpl:=xV (x.l.getD i 0) 4 (by decide);rw[GZ _ _ hil];simp only[dV,u64_in (show x.l.getD i 0<18446744073709551616 by omega)];refine⟨by omega,by omega,_,_,vC _ 4 (by omega),?_⟩;simp only[gU,bD];exact⟨by omega,by omega,(o++gH (x.l.getD i 0) 4,i+1),by simp[ofBytes],⟨by simp only;omega,by simp only[cO];omega⟩,by simp only;omega⟩
  .have hq:=MV (o++([Cn x.r.length]++x.r)) (by simp;omega);have hf:=TT (o++([Cn x.r.length]++x.r));have hl:(o++([Cn x.r.length]++x.r)).length=o.length+(1+x.r.length):=by simp;omega
   rw[show ofBytes o++ [C.int ((Cn x.r.length).toNat:Nat)]++ofBytes x.r=ofBytes (o++([Cn x.r.length]++x.r)) by simp[ofBytes]];refine⟨by simp;omega,by simp;omega,_,hq,_,_,rfl,by omega⟩
  .have hf:=TT o;exact⟨_,MV o (by omega),_,_,rfl,by omega⟩)
 exact⟨b,e,hp,hb⟩
theorem auE(b:List UInt8)(h0:0<b.length)(hb:b.length<=70000):∃(s:List UInt8) (e:Int),PC prog JG [(aV,B b)] [(.str,.str s),(I64,.int e)]/\s.length<=70000:=by
 obtain⟨rs,⟨s,e,rfl,hs⟩,hp⟩:=tot (Post:=fun rs=>∃(s:List UInt8) (e:Int),rs=[(.str,.str s),(I64,.int e)]/\s.length<=70000) (cs:=[B b]) an0 rfl rfl (by
  have hx:=(b.getD 0 0).toNat_lt;simp only[ZT,aJ,aG,bD,mR,show Int.toNat 0=0 from rfl,lY (show-9223372036854775808<=((b.getD 0 0).toNat:Int)/\((b.getD 0 0).toNat:Int)<9223372036854775808 by omega)];generalize (b.getD 0 0).toNat=n at*;have er:=aco (1+n) (by omega);rw[show(((1+n:Nat)):Int)=1+(n:Int) by omega]at er;refine⟨by omega,by omega,fun _=>⟨[],_,rfl,by decide⟩,fun hn=>⟨_,er,fun _=>⟨[],_,rfl,by decide⟩,fun _=>⟨by omega,by omega,?_⟩⟩⟩;rw[show(1+(n:Int)).toNat=1+n by omega,show Int.toNat 1=1 from rfl,wE,xL,Er];have hl:((b.take (1+n)).drop 1).length<=70000:=by simp;omega
  exact⟨_,MU _ (by omega),fun _=>⟨[],_,rfl,by decide⟩,fun _=>⟨_,_,rfl,hl⟩⟩)
 exact⟨s,e,hp,hs⟩
theorem aoU(r:Int):∃b:Bool,PC prog Jz [(I32,.int r)] [(.bool,.bool b)]:=by
 obtain⟨rs,⟨b,rfl⟩,hp⟩:=tot (Post:=fun rs=>∃b:Bool,rs=[(.bool,.bool b)]) (cs:=[.int r]) ami rfl rfl (by
  simp only[Yh,aJ];exact⟨_,rfl⟩)
 exact⟨b,hp⟩
theorem aqy(s:List UInt8)(_:s.length<=70000)(c:C)(tr:Bool):∃n:Int,PC prog X9 [(.str,.str s),(.fH Jz,c),(.bool,.bool tr)] [(I64,.int n)]:=by
 obtain⟨rs,⟨n,rfl⟩,hp⟩:=tot (Post:=fun rs=>∃n:Int,rs=[(I64,.int n)]) (cs:=[.str s,c,.bool tr]) al6 rfl rfl (by
  simp only[XQ];refine VC.jw (fun p:Nat=> [.int 0,.int (p:Int)]) (fun p=>p<=s.length) (fun p=>s.length-p) 0 rfl (cu _) fun p hi=>?_;simp only[aJ,aG,dF];refine⟨fun hc=>?_,fun _=>⟨_,rfl⟩⟩;have hp:p<s.length:=by omega
  have hw:=Bb (s.drop p);have hle:=Db (OD hp);rw[lW]at hle;rw[KV];have hwd:((Lib.decodeL (s.drop p)).2:Nat)=bQ (s.drop p):=rfl;rw[hwd];obtain⟨b,hb⟩:=aoU ((Lib.decodeL (s.drop p)).1:Nat);refine⟨by omega,by omega,_,hb,fun _=>⟨_,rfl⟩,fun _=>⟨p+bQ (s.drop p),?_,by omega,by omega⟩⟩;rw[aC (show((p:Nat):Int)<((s.length:Nat):Int) by omega)];congr 3)
 exact⟨n,hp⟩
theorem abq(s:List UInt8)(hs:s.length<=70000):∃b:Bool,PC prog Y5 [(.str,.str s)] [(.bool,.bool b)]:=by
 obtain⟨n,hn⟩:=aqy s hs (.ls []) true;have h2:PC prog Ya [(.str,.str s),(.fH Jz,.ls [])] [(I64,.int n)]:=by
  apply al7 rfl;simp only[XR,aJ,aG];exact⟨_,hn,rfl⟩
 have h3:PC prog XF [(.str,.str s),(.fH Jz,.ls [])] [(.bool,.bool (decide (0<=n)))]:=by
  apply alV rfl;simp only[Xy,aJ,aG];exact⟨_,h2,rfl⟩
 obtain⟨rs,⟨b,rfl⟩,hp⟩:=tot (Post:=fun rs=>∃b:Bool,rs=[(.bool,.bool b)]) (cs:=[.str s]) amB rfl rfl (by
  simp only[Yx,aJ];exact⟨_,fun _=>h3,⟨_,rfl⟩⟩)
 exact⟨b,hp⟩
structure Ap where
 u:Int
 s:Nat
 n:List UInt8
 d:List UInt8
abbrev Ep(x:Ap):C:=.ls [.int x.u,.int (x.s:Nat),.str x.n,B x.d]
def Ap.ok(x:Ap):Prop:=x.s<4294967296/\x.n.length<=70000/\x.d.length<=70000
theorem aj0{c:C}(h:Tm yH c):∃x:Ap,c=Ep x/\x.ok:=by
 obtain⟨_,_,rfl,h1,t⟩:=h;obtain⟨_,_,rfl,h2,t⟩:=fQ t;obtain⟨_,_,rfl,h3,t⟩:=fQ t;obtain⟨_,_,rfl,h4,t⟩:=fQ t;obtain rfl:=sZ t;obtain⟨u,rfl,_⟩:=h1;obtain⟨s,rfl,hs⟩:=om rfl h2;obtain⟨n,rfl,hn⟩:=h3;obtain⟨d,rfl,hd⟩:=Vn h4;exact⟨⟨u,s,n,d⟩,rfl,hs,hn,hd⟩
theorem ar7(x:Ap)(h:x.ok):∃b:Bool,PC prog ZH [(yH,Ep x)] [(.bool,.bool b)]:=by
 obtain⟨r,hr⟩:=abq x.n h.2.1;obtain⟨rs,⟨b,rfl⟩,hp⟩:=tot (Post:=fun rs=>∃b:Bool,rs=[(.bool,.bool b)]) (cs:=[Ep x]) amT rfl rfl (by
  simp only[YS,aJ];exact⟨_,fun _=>hr,fun _=>⟨_,rfl⟩,fun _=>⟨_,rfl⟩⟩)
 exact⟨b,hp⟩
theorem ar5(x:Ap)(h:x.ok):∃(b:List UInt8) (e:Int),PC prog ZF [(yH,Ep x)] [(aV,B b),(I64,.int e)]/\b.length<=200000000000:=by
 obtain⟨r,hr⟩:=ar7 x h;obtain⟨h1,h2,h3⟩:=h;have hpl:=xV x.s 4 (by decide);have hl:(List.flatten [gH x.s 4,x.n,x.d]).length<=200000:=by simp;omega
 obtain⟨rs,⟨b,e,rfl,hb⟩,hp⟩:=tot (Post:=fun rs=>∃(b:List UInt8) (e:Int),rs=[(aV,B b),(I64,.int e)]/\b.length<=200000000000) (cs:=[Ep x]) amR rfl rfl (by
  simp only[YQ,aJ,aG,u64_in (show x.s<18446744073709551616 by omega)];exact⟨_,hr,fun _=>⟨[],_,rfl,by decide⟩,fun _=>⟨_,_,vC x.s 4 (by omega),by omega,_,uo [gH x.s 4,x.n,x.d] (by simp) (by omega),_,_,rfl,by omega⟩⟩)
 exact⟨b,e,hp,hb⟩
theorem OT{s:List UInt8}(h:s.length<=70000):Tm .str (.str s):=⟨_,rfl,h⟩
theorem EY:Tm yH ApZ:=⟨_,_,rfl,nZ (by decide),_,_,rfl,⟨0,rfl,by decide,by decide⟩,_,_,rfl,OT (by decide),_,_,rfl,iN _,rfl⟩
theorem ata(n:Int)(hn: -9223372036854775808<=n/\n<=9223372036854775807)(b:List UInt8)(hb:b.length<=70000):∃(c:C) (e:Int),PC prog aaw [(I64,.int n),(aV,B b)] [(yH,c),(I64,.int e)]/\Tm yH c:=by
 have hl:((b.take 8).drop 4).length<=70000:=by simp;omega
 obtain⟨r,hr⟩:=abq _ hl;obtain⟨rs,⟨c,e,rfl,hc⟩,hp⟩:=tot (Post:=fun rs=>∃(c:C) (e:Int),rs=[(yH,c),(I64,.int e)]/\Tm yH c) (cs:=[.int n,B b]) ank rfl rfl (by
  have Z:=EY;simp only[Zi,aJ,aG,bD];refine⟨fun _=>⟨_,_,rfl,Z⟩,fun _=>⟨_,YD b (by omega),fun _=>⟨_,_,rfl,Z⟩,fun _=>⟨fun _=>⟨_,_,rfl,Z⟩,fun h8=>⟨by omega,?_⟩⟩⟩⟩;rw[show Int.toNat 8=8 from rfl,show Int.toNat 4=4 from rfl,wE,xL,Er];refine⟨_,hr,fun _=>⟨_,_,rfl,Z⟩,fun _=>⟨_,_,sP b 0 4 (by omega),by omega,by omega,by simp;omega,_,_,rfl,_,_,rfl,nZ hn,_,_,rfl,EI .u32 _,_,_,rfl,OT hl,_,_,rfl,?_,rfl⟩⟩;rw[dF];exact UZ hb 8)
 exact⟨c,e,hp,hc⟩
theorem ahd{w:World}{N:Nat->Prop}{a:Option Addr}{n cap:Nat}{l:List C}(h:bV w N aV (.slice a n cap) (.ls l))(k:Nat)(hk:k<=l.length):bV w N aV (.slice (if cap=k then a else a.map (·.add (k*1))) (n-k) (cap-k)) (.ls (l.drop k)):=by
 obtain⟨vs,⟨a',cap',rfl,h2,h3,h4⟩,e⟩:=h;simp only[C.lF]at*;have e2:Value.slice a n cap=.slice a' l.length cap':=by simpa[Sh.mk,Sh.isAgg]using e
 cases e2;refine⟨[.slice (if cap=k then a else a.map (·.add (k*1))) (l.length-k) (cap-k)],⟨if cap=k then a else a.map (·.add (k*1)),cap-k,by rw[C.lF,lW],?_,by omega,fun hne=>?_⟩,rfl⟩
 .simp only[C.lF,lW];omega
 obtain ⟨b,off,rfl,hN,hlt,hr⟩:=h4 (by intro h0;rw[C.lF,h0]at hne;simp at hne);have hk2:k<l.length:=by
  rcases Nat.lt_or_ge k l.length with h|h
  .exact h
  .rw[C.lF,DZ h]at hne;exact absurd rfl hne
 rw[zq (by omega)];refine⟨b,off+k*1,by simp[Addr.add],hN,hlt,fun i c hc=>?_⟩;rw[C.lF,yK]at hc;have:=hr (k+i) c hc;have e3:off+(k+i)*Sh.size (.int .u8)=off+k*1+i*Sh.size (.int .u8):=by simp[Sh.size];omega
 rw[e3]at this;exact this
end Go.Vc
namespace Go.Vc
open Go Go.Proofs Go.RowKit Go.Plain Tryz
def mK(W:World)(rb:Nat)(sv:Value)(p:Nat):Prop:=W.heap[rb]?=some (.cells #[sv,.int .i64 (p:Nat)] 255 (0,0))
theorem mK.lt{W:World}{rb:Nat}{sv:Value}{p:Nat}(h:mK W rb sv p):rb<W.heap.size:=(iX.1 h).1
theorem mK.cell0{W:World}{rb:Nat}{sv:Value}{p:Nat}(h:mK W rb sv p):W.cell? ⟨rb,0,none⟩=some sv:=by rw[fA h];rfl
theorem mK.cell1{W:World}{rb:Nat}{sv:Value}{p:Nat}(h:mK W rb sv p):W.cell? ⟨rb,1,none⟩=some (.int .i64 (p:Nat)):=by rw[fA h];rfl
theorem mK.set{W:World}{rb:Nat}{sv:Value}{p:Nat}(h:mK W rb sv p)(q:Nat):mK (W.setCell ⟨rb,1,none⟩ (.int .i64 (q:Nat))) rb sv q:=by
 unfold mK at h |-;simp[World.setCell,zn,h]
theorem mK.keep{W W':World}{rb:Nat}{sv:Value}{p:Nat}(h:mK W rb sv p)(hk:W'.heap[rb]?=W.heap[rb]?):mK W' rb sv p:=by unfold mK at h |-;rw[hk];exact h
def uG(W:World)(rb:Nat)(a:Option Addr)(cap:Nat)(b:List UInt8):Prop:=Rd W (fun k=>k<rb) (.sl (.int .u8)) [.slice a b.length cap] (B b)
theorem uG.keep{W W':World}{rb:Nat}{a:Option Addr}{cap:Nat}{b:List UInt8}(h:uG W rb a cap b)(hs:W.heap.size<=W'.heap.size)(hk:∀k,k<W.heap.size->k≠rb->W'.heap[k]?=W.heap[k]?):uG W' rb a cap b:=
 Rd.mono (s:=.sl (.int .u8)) hs (fun c hc hlt=>⟨hk c hlt (by omega),hc⟩) h
theorem uG.at{W:World}{rb:Nat}{a:Option Addr}{cap:Nat}{b:List UInt8}(h:uG W rb a cap b){i:Nat}(hi:i<b.length):∃k o,a=some ⟨k,o,none⟩/\k<rb/\k<W.heap.size/\W.cell? ⟨k,o+i,none⟩=some (.int .u8 (at_ b i:Nat)):=by
 obtain⟨a',cap',e,_,_,h4⟩:=h;simp only[kE,Value.slice.injEq,lC]at e;obtain⟨rfl,-,rfl⟩:=e;obtain⟨k,o,rfl,hN,hlt,hr⟩:=h4 (by simp[B,ofBytes];rintro rfl;simp at hi);refine⟨k,o,rfl,hN,hlt,?_⟩;obtain⟨us,_,h6,h7⟩:=hr i (.int (at_ b i:Nat)) (by
  simp only[C.lF,ofBytes,ow,nL hi,yL,at_,F7,F8])
 simp only[Rd]at h7;subst h7;have:=h6 0 _ rfl;simpa[Sh.size]using this
theorem agz(s:List UInt8)(hs:s.length<=1000000)(w:World)(aX:KW prog w):
  Calls prog 185 #[.string ⟨s.toArray⟩] w fun e w'=>e=.returned (.bool (wX s))/\Below w.heap.size w w':=by
 have h:=((MU s hs).oF (by decide)).2 w (fun _=>True) [.string ⟨s.toArray⟩] aX ⟨_,_,rfl,⟨[.string ⟨s.toArray⟩],rfl,rfl⟩,rfl⟩;refine h.mono ?_;rintro e w' ⟨v,rfl,⟨vs,⟨v1,r1,rfl,⟨_,h1,rfl⟩,rfl⟩,rfl⟩,hb⟩;simp only[Rd]at h1;subst h1;exact⟨rfl,hb⟩
theorem sQ{a w:World}{row:Option Nat}(h:a.grownBy w row):a.grownBy w.drew row:=⟨h.os,h.tape,h.output,h.size,h.block⟩
theorem ax4{W:World}{N:Nat->Prop}{a:Option Addr}{n cap:Nat}{b:List UInt8}(h:bV W N aV (.slice a n cap) (B b)):(convert 22 9 (.slice a n cap)).run prog W=.ok (.string ⟨b.toArray⟩) W:=by
 obtain⟨vs,hr,e⟩:=h;obtain⟨a',cap',rfl,_⟩:=id hr;have e2:Value.slice a n cap=.slice a' (B b).toList.length cap':=e;rw[e2,run_convert_bytes_string W _ _ 5 _ _ _ underlying22 underlying5 underlying9,afe hr];simp[Er]
def sM(b:List UInt8)(p:Nat):Int×List UInt8×Nat×Int:=
 if b.length<p+2 then(0,[],p,2)else if b.length<p+2+at_ b (p+1)then(0,[],p,2)else
 if wX ((b.drop (p+2)).take (at_ b (p+1)))=false then(0,[],p,6)else((at_ b p:Nat),(b.drop (p+2)).take (at_ b (p+1)),p+2+at_ b (p+1),0)
theorem Hf{W:World}{g:Nat}{x y:Value}{t:TypeId}(h:W.heap[g]?=some (.cells #[x,y] t (0,0)))(a b:Value):
  ((W.setCell ⟨g,0,none⟩ a).setCell ⟨g,1,none⟩ b).heap[g]?=some (.cells #[a,b] t (0,0))/\(∀k,k≠g->((W.setCell ⟨g,0,none⟩ a).setCell ⟨g,1,none⟩ b).heap[k]?=W.heap[k]?)/\
   ∀(w:World) (row:Option Nat),w.grownBy W row->w.heap.size<=g->w.grownBy ((W.setCell ⟨g,0,none⟩ a).setCell ⟨g,1,none⟩ b) row:=by
 have hk:∀k,k≠g->((W.setCell ⟨g,0,none⟩ a).setCell ⟨g,1,none⟩ b).heap[k]?=W.heap[k]?:=fun k hk=>by rw[gu _ _ _ _ (by simpa using hk),gu _ _ _ _ (by simpa using hk)]
 refine⟨?_,hk,fun w row hg hs=>⟨hg.os,hg.tape,hg.output,by simpa[World.setCell]using hg.size,fun k h1 h2=>(hk k (by omega)).trans (hg.block k h1 h2)⟩⟩;simp[World.setCell,zn,h]
theorem TP{W W2:World}{B:Nat}{n:Int}{t:ByteArray}(h:W.heap[B]?=some (.cells #[.int .i64 n,.string t] 326 (0,0)))(hb:Below W.heap.size W W2):
  (W2.cell? ⟨B,0,none⟩=some (.int .i64 n)/\W2.cell? ⟨B,1,none⟩=some (.string t)/\∀j,W2.frozen? ⟨B,j,none⟩=false)/\W2.heap[B]?=some (.cells #[.int .i64 n,.string t] 326 (0,0)):=by
 have h2:=(hb.block _ (kH h)).trans h;refine⟨⟨?_,?_,iY h2⟩,h2⟩<;>rw[fA h2]<;>rfl
set_option maxHeartbeats 4000000 in
theorem awD(W:World)(aX:KW prog W)(rb:Nat)(_:∀g,wC prog g->g<rb)(a:Option Addr)(cap:Nat)(b:List UInt8)(hb:b.length<=70000)(p:Nat)(hp:p<=b.length)(R:Int×List UInt8×Nat×Int)(hR:sM b p=R)(h:mK W rb (.slice a b.length cap) p)(hB:uG W rb a cap b):
  Calls prog 182 #[.pointer (some ⟨rb,0,none⟩)] W fun e W'=>e=.returned (.tuple #[.agg #[.int .i64 R.1,.string ⟨R.2.1.toArray⟩],.int .i64 R.2.2.2])/\mK W' rb (.slice a b.length cap) R.2.2.1/\W.grownBy W' (some rb):=by
 have hlt:=h.lt;have c0:=h.cell0;have c1:=h.cell1;have fz:=fun j=>iY h j;unfold sM at hR;by_cases k1:b.length<p+2
 .rw[aC k1]at hR;subst hR;clear aX hB;have t1:(b.length:Int)-(p:Int)<2:=by omega
  go_enter func182,ntmps182
  go_wp2
  go_region
  go_wp2
  refine fD (nX (cs:= #[.int .i64 0,.string ⟨#[]⟩]) rfl _ _ W.heap.size 326 (0,0) _ rfl (by exact mZ W _) underlying326 rfl (by kernel_rfl) _ rfl) rfl ?_;exact⟨rfl,h.keep (iT W _ rb hlt),by first|exact sQ (xM (World.grownBy.refl W (some rb)) (.cells #[.int .i64 0,.string ⟨#[]⟩] 326))|exact sQ (sQ (xM (World.grownBy.refl W (some rb)) (.cells #[.int .i64 0,.string ⟨#[]⟩] 326)))⟩
 rw[zq k1]at hR;have t1:¬(b.length:Int)-(p:Int)<2:=by omega
 obtain⟨kb,o,rfl,aCl,hkb2,cx⟩:=hB.at (show p+1<b.length by omega);have hx:=gN b (p+1);by_cases k2:b.length<p+2+at_ b (p+1)
 .rw[aC k2]at hR;subst hR;clear aX hB;have t2:(b.length:Int)-((p:Int)+2)<(at_ b (p+1):Int):=by omega
  generalize at_ b (p+1)=z at*;go_enter func182,ntmps182
  go_wp2
  go_region
  go_wp2
  go_region
  go_wp2
  refine fD (nX (cs:= #[.int .i64 0,.string ⟨#[]⟩]) rfl _ _ W.heap.size 326 (0,0) _ rfl (by exact mZ W _) underlying326 rfl (by kernel_rfl) _ rfl) rfl ?_;exact⟨rfl,h.keep (iT W _ rb hlt),by first|exact sQ (xM (World.grownBy.refl W (some rb)) (.cells #[.int .i64 0,.string ⟨#[]⟩] 326))|exact sQ (sQ (xM (World.grownBy.refl W (some rb)) (.cells #[.int .i64 0,.string ⟨#[]⟩] 326)))⟩
 rw[zq k2]at hR;obtain⟨k',o',e',_,_,cy⟩:=hB.at (show p<b.length by omega);simp only[dP,Addr.mk.injEq,lC]at e';obtain⟨rfl,rfl⟩:=e';have hy:=gN b p;have hcap:b.length<=cap:=by
  obtain⟨_,_,e,h2,_⟩:=hB;simp only[kE,Value.slice.injEq,lC]at e;obtain⟨-,-,rfl⟩:=e;simpa using h2
 have t2:¬(b.length:Int)-((p:Int)+2)<(at_ b (p+1):Int):=by omega
 generalize at_ b (p+1)=z at*;generalize at_ b p=y at*;generalize hs:(b.drop (p+2)).take z=s at*;have hsl:s.length<=1000000:=by rw[<-hs];simp;omega
 have hcv:∀W2:World,W.heap.size<=W2.heap.size->(∀k,k<W.heap.size->W2.heap[k]?=W.heap[k]?)->(convert 22 9 (.slice (if cap=p+2 then some ⟨kb,o,none⟩else some ⟨kb,o+(p+2),none⟩) (p+2+z-(p+2)) (cap-(p+2)))).run prog W2=.ok (.string ⟨s.toArray⟩) W2:=by
  intro W2 h1 h2;have r1:bV W2 (fun _=>True) aV (.slice (some ⟨kb,o,none⟩) b.length cap) (B b):=⟨_,Rd.mono h1 (fun c hc hlt=>⟨h2 c hlt,trivial⟩) hB,rfl⟩;have r2:=ahd (Ua r1 (p+2+z) (by simp;omega)) (p+2) (by simp;omega);rw[wE,xL,List.drop_take,show p+2+z-(p+2)=z by omega,hs]at r2;have:=ax4 r2;rw[show p+2+z-(p+2)=z by omega];simpa[Addr.add]using this
 have aCr:=hcv ((W.alloc (.cells #[.int .i64 0,.string ⟨#[]⟩] 326)).alloc (.cells #[.int .i64 0,.string ⟨#[]⟩] 326)).drew.drew.drew (by simp[World.drew];omega) (fun k hk=>by show((W.alloc _).alloc _).heap[k]?=_;rw[iT _ _ _ (by simp;omega),iT _ _ _ hk]);have aCq:=hcv (W.alloc (.cells #[.int .i64 0,.string ⟨#[]⟩] 326)).drew.drew.drew (by simp[World.drew]) (fun k hk=>by show(W.alloc _).heap[k]?=_;rw[iT _ _ _ hk]);simp only[xA]at aCr aCq;clear hcv hB;obtain⟨Wz,yU⟩:∃Wz,((W.alloc (.cells #[.int .i64 0,.string ⟨#[]⟩] 326)).alloc (.cells #[.int .i64 (y:Nat),.string ⟨s.toArray⟩] 326)).drew.drew.drew=Wz:=⟨_,rfl⟩;have gz:W.grownBy Wz (some rb):=by rw[<-yU];exact sQ (sQ (sQ (xM (Am W _ _) _)))
 have hsz:Wz.heap.size=W.heap.size+2:=by rw[<-yU];simp[World.drew]
 have oz:∀k,k<W.heap.size->Wz.heap[k]?=W.heap[k]?:=fun k hk=>by rw[<-yU];show((W.alloc _).alloc _).heap[k]?=_;rw[iT _ _ _ (by simp;omega),iT _ _ _ hk]
 have hIz:Wz.heap[W.heap.size]?=some (.cells #[.int .i64 0,.string ⟨#[]⟩] 326 (0,0)):=by rw[<-yU];show((W.alloc _).alloc _).heap[_]?=_;rw[iT _ _ _ (by simp)];exact mZ W _
 have WO:Wz.heap[W.heap.size+1]?=some (.cells #[.int .i64 (y:Nat),.string ⟨s.toArray⟩] 326 (0,0)):=by rw[<-yU];have:=mZ (W.alloc (.cells #[.int .i64 0,.string ⟨#[]⟩] 326)) (.cells #[.int .i64 (y:Nat),.string ⟨s.toArray⟩] 326);rwa[zo]at this
 have hkz:KW prog Wz:=aX.keep fun g hg=>oz g (aX.lt hg);have Ed:=h.keep (oz rb hlt);have x0:Wz.cell? ⟨W.heap.size+1,0,none⟩=some (.int .i64 (y:Nat)):=by rw[fA WO];rfl
 have x1:Wz.cell? ⟨W.heap.size+1,1,none⟩=some (.string ⟨s.toArray⟩):=by rw[fA WO];rfl
 clear aX;by_cases hmay:wX s=false
 .rw[aC hmay]at hR;subst hR;go_enter func182,ntmps182
  go_wp2
  go_region
  go_wp2
  go_region
  go_wp2
  go_region
  go_wp2_with (go_at_call 185;refine(agz s hsl Wz hkz).mono ?_;rintro e W3 ⟨rfl,hb3⟩;obtain⟨⟨i0,i1,iz⟩,Gg⟩:=TP hIz hb3)
  all_goals
   obtain⟨z1,z2,z3⟩:=Hf Gg (.int .i64 0) (.string ⟨#[]⟩);have g3:W.grownBy W3 (some rb):=jY gz ⟨hb3.os,hb3.tape,hb3.output,hb3.size,fun k hk _=>hb3.block k hk⟩;have g4:=z3 W _ g3 (aS _);have qZ:=(Ed.keep (hb3.block rb (by omega))).keep (z2 rb (by omega));generalize (W3.setCell ⟨W.heap.size,0,none⟩ (.int .i64 0)).setCell ⟨W.heap.size,1,none⟩ (.string ⟨#[]⟩)=We at*;refine fD (nX (cs:= #[.int .i64 0,.string ⟨#[]⟩]) rfl _ We W.heap.size 326 (0,0) _ rfl z1 underlying326 rfl (by kernel_rfl) _ rfl) rfl ?_;first
    |exact⟨rfl,qZ,g4⟩
    |(rw[‹cap=p+2›]at qZ;exact⟨rfl,qZ,g4⟩)
 rw[zq hmay]at hR;have hmay:wX s=true:=by simpa using hmay
 subst hR;go_enter func182,ntmps182
 go_wp2
 go_region
 go_wp2
 go_region
 go_wp2
 go_region
 go_wp2_with (go_at_call 185;refine(agz s hsl Wz hkz).mono ?_;rintro e W3 ⟨rfl,hb3⟩;obtain⟨⟨i0,i1,iz⟩,Gg⟩:=TP hIz hb3;obtain⟨⟨j0,j1,jz⟩,Qt⟩:=TP WO hb3;have kU:=Ed.keep (hb3.block rb (by omega));have k1:=kU.cell1;have kz:=fun j=>iY kU j;rw[hmay])
 all_goals
  have g3:W.grownBy W3 (some rb):=jY gz ⟨hb3.os,hb3.tape,hb3.output,hb3.size,fun k hk _=>hb3.block k hk⟩;have qZ:=kU.set (p+2+z);have g4:=jY g3 (uq W3 rb 1 (.int .i64 ((p+2+z:Nat):Int)));have Jy:(W3.setCell ⟨rb,1,none⟩ (.int .i64 ((p+2+z:Nat):Int))).heap[W.heap.size]?=_:=(gu _ _ _ _ (by simp;omega)).trans Gg;rw[show(p:Int)+2+(z:Int)=((p+2+z:Nat):Int) by omega];generalize W3.setCell ⟨rb,1,none⟩ (.int .i64 ((p+2+z:Nat):Int))=W4 at*;obtain⟨z1,z2,z3⟩:=Hf Jy (.int .i64 (y:Nat)) (.string ⟨s.toArray⟩);have g5:=z3 W _ g4 (aS _);have Cu:=qZ.keep (z2 rb (by omega));generalize (W4.setCell ⟨W.heap.size,0,none⟩ (.int .i64 (y:Nat))).setCell ⟨W.heap.size,1,none⟩ (.string ⟨s.toArray⟩)=We at*;refine fD (nX (cs:= #[.int .i64 (y:Nat),.string ⟨s.toArray⟩]) rfl _ We W.heap.size 326 (0,0) _ rfl z1 underlying326 rfl (by kernel_rfl) _ rfl) rfl ?_;first
   |exact⟨rfl,Cu,g5⟩
   |(rw[‹cap=p+2›]at Cu;exact⟨rfl,Cu,g5⟩)
end Go.Vc
