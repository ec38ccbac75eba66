/-
  The strokes of a plan over bytes, walked: a plan that speaks of elements.
-/
import Derived.Test.YtaehhpempnelhaaGreatDoorQWc
import Derived.Laws.AppendOwnNone
import Derived.Maps.AppendAt
set_option maxRecDepth 100000
namespace Go.Vc
open Go Go.Proofs Go.Plain Go.RowKit Go.Shelf
theorem afF{P:Program}{w:World}{ops:Array Oper}{rest:List Oper}{o:Oper}{a:Act}{Q:Exit->Act->World->Prop}(hgd:o.guard=none)(s x:Operand)(t:TypeId)
  (ho:o.op= .call {callee:= .builtin .append,args:= #[s,x],argTypes:= #[t,t]})
  (base:Nat) (e:TypeId) (i:TypeInfo) (z:Value) (size bytes:Nat) (ht:P.underlying t=some (.slice e)) (hi:P.info? e=some i) (hz:i.zero=some z)
  (hsize:i.size=size) (hby:i.bytes=bytes) (hzs:z.cells.size=size) (hsz:0<size)
  (v:Value) (n:Nat) (xs:List Value) (hs:a.eval s=v) (hown:w.ownsRow base e size v n xs)
  (u:Value) (m:Nat) (news:List Value) (hx:a.eval x=u) (b2:Nat) (how:w.ownsRow b2 e size u m news) (h1:∀u∈news,u.oneCell'=true)
  (h63:n+m<=maxLen) (hbytes:(n+m)*bytes<=140737488355328) (hbase:base<=w.heap.size)
  (h:∀v' w',w'.ownsRow base e size v' (n+m) (xs++news)->w.grownBy w' v.ownBlock->(v'.ownBlock=v.ownBlock\/v'.ownBlock=some w.heap.size)->wpList P ops Q rest (a.put o.dst v') w'):wpList P ops Q (o::rest) a w:=by
 have aq5:=how;obtain ⟨hl,⟨rfl,rfl⟩|⟨g,cap,cur,rfl,_⟩⟩:=how
 .obtain rfl:news=[]:=jH (by omega);exact wpList_append_own_none hgd s x t ho base e i size ht hi v n xs hs hown hx (h v w (by simpa using hown) ⟨rfl,rfl,rfl,aI _,fun _ _ _=>rfl⟩ (.inl rfl))
 .exact wpList_append_own_at w hgd s x t ho base e i z size bytes ht hi hz hsize hby hzs hsz v n xs hs hown ⟨g,0,none⟩ m cap news hx hl (aq5.cells rfl) h1 h63 hbytes hbase fun v' w' r1 r2 _ r4=>h v' w' r1 r2 r4
theorem aqp{p:Pl}{k:Pk}(h3:fD p k=0):(behind p k).isSome:=by
 unfold fD at h3;split at h3
 .cases h3
 .split at h3
  .assumption
  .cases h3
set_option maxHeartbeats 1600000 in
theorem apG(W0:World)(aL:KW Tryz.prog W0)(pv bv:Value)(p:Pl)(b:List UInt8)(k:Pk)(hkk:Hid (bG b=k))(hp:bq W0 (fun b=>b<W0.heap.size) eu pv (eD p))(hb:bq W0 (fun b=>b<W0.heap.size) aQ bv (B b))(hbl:b.length<=1000000)(few:iE p)(num:gH p)(he:cZ b=0)(ko:k.ok)(hkb:k.ext.length<=1000000/\k.pay.length<=1000000/\k.pad<=1000000)(hcs:k.hd.bD.length<=15)(hk:jg p)(hf:fD p k=0)(hs:Hid ((0:Int)=if (fF (placesOf k) 9).isSome then 0 else 8))(ha:gU p):
  Calls Tryz.prog 119 #[pv,bv] W0 fun e W'=>∃v,e= .returned (.tuple #[v,.int .i64 0])/\Below W0.heap.size W0 W'/\∃xs,W'.ownsRow W0.heap.size 231 4 v (strokes p k).length xs/\jG W' (fun b=>v.ownBlock≠some b) p k.aD (strokes p k) xs:=by
 have hp0:=hp;obtain ⟨mv,ov,dv,av,rfl,_⟩:=uo hp;have hbX:=Below.alloc (Below.refl W0.heap.size W0) (aI _) (.cells #[.bool p.sm,.bool p.m,.bool p.st,.int .i64 p.ty,.bool p.sq,.int .u16 p.seq,.bool p.bL,.int .u32 p.time,.bool p.ss,.int .u32 p.aN,mv,ov,dv,av,.bool p.np] 29);have vS:=World.alloc_heap_new W0 (.cells #[.bool p.sm,.bool p.m,.bool p.st,.int .i64 p.ty,.bool p.sq,.int .u16 p.seq,.bool p.bL,.int .u32 p.time,.bool p.ss,.int .u32 p.aN,mv,ov,dv,av,.bool p.np] 29);have hrd:=BL _ (aL.below hbX) bv b (dw hb hbX) hbl;rw[show jR b=k from by unfold jR;rw[if_pos he];exact hkk,he] at hrd;have hpl:(placesOf k).length<=100000:=by have:=y8 k;omega
 obtain ⟨i0,hi0,hz0',hz1',hz2'⟩:=info_parts Nz;obtain ⟨y,hy⟩:∃y,behind p k=some y:=kK.1 (aqp hf);obtain ⟨hfx,hsp,hst⟩:=aju hy (alG hs) ha;have hxp:∀x:dJ,Hid (x=(fF (placesOf k) 9).getD dJ.zero)->x.p=qQ k:=fun x hx=>by
  rw[show x=_ from hx,hfx];rfl
 have hl0:=zD (jF p (iC k) (qQ k)) 2000000 (fun a=>BG p _ _ a few.1 few.2.1) (spots k.aD k.ext).1;have hl1:=Bl k.aD k.ext;have hl2:=ZV p;have hlen:(ou p).length+((spots k.aD k.ext).1.flatMap (jF p (iC k) (qQ k))).length<=maxLen:=by simp only[maxLen];omega
 have JG:((ou p).length+((spots k.aD k.ext).1.flatMap (jF p (iC k) (qQ k))).length)*32<=140737488355328:=by omega
 rw[hst];go_enter Tryz.func119,Tryz.ntmps119
 go_wp2_with (first
  |(go_at_call 13;refine hrd.mono ?_;rintro e w1 ⟨kv,rfl,hkv,hbe⟩;obtain ⟨ca,cc,ea,ec,ya,yc,rfl⟩:=BU hkv;have z1:=hbe.size;simp only[World.size_alloc] at z1;have hB:=Below.alloc (Below.refl w1.heap.size w1) (aI _) (.cells #[.bool k.hd.pad,.bool k.hd.ext,.bool k.hd.mark,.int .i64 k.hd.typ,.int .u16 k.hd.seq,.int .u32 k.hd.time,.int .u32 k.hd.aN,.slice ca k.hd.bD.length cc,.int .u16 (k.aD:Int),.slice ea k.ext.length ec,.slice ya k.pay.length yc,.int .i64 (k.pad:Int)] 43);have hK:=World.alloc_heap_new w1 (.cells #[.bool k.hd.pad,.bool k.hd.ext,.bool k.hd.mark,.int .i64 k.hd.typ,.int .u16 k.hd.seq,.int .u32 k.hd.time,.int .u32 k.hd.aN,.slice ca k.hd.bD.length cc,.int .u16 (k.aD:Int),.slice ea k.ext.length ec,.slice ya k.pay.length yc,.int .i64 (k.pad:Int)] 43);have S2:yY W0 (w1.alloc (.cells #[.bool k.hd.pad,.bool k.hd.ext,.bool k.hd.mark,.int .i64 k.hd.typ,.int .u16 k.hd.seq,.int .u32 k.hd.time,.int .u32 k.hd.aN,.slice ca k.hd.bD.length cc,.int .u16 (k.aD:Int),.slice ea k.ext.length ec,.slice ya k.pay.length yc,.int .i64 (k.pad:Int)] 43)) W0.heap.size w1.heap.size (.agg #[.bool p.sm,.bool p.m,.bool p.st,.int .i64 p.ty,.bool p.sq,.int .u16 p.seq,.bool p.bL,.int .u32 p.time,.bool p.ss,.int .u32 p.aN,mv,ov,dv,av,.bool p.np]) (.agg #[.bool k.hd.pad,.bool k.hd.ext,.bool k.hd.mark,.int .i64 k.hd.typ,.int .u16 k.hd.seq,.int .u32 k.hd.time,.int .u32 k.hd.aN,.slice ca k.hd.bD.length cc,.int .u16 (k.aD:Int),.slice ea k.ext.length ec,.slice ya k.pay.length yc,.int .i64 (k.pad:Int)]) bv #[.bool p.sm,.bool p.m,.bool p.st,.int .i64 p.ty,.bool p.sq,.int .u16 p.seq,.bool p.bL,.int .u32 p.time,.bool p.ss,.int .u32 p.aN,mv,ov,dv,av,.bool p.np] #[.bool k.hd.pad,.bool k.hd.ext,.bool k.hd.mark,.int .i64 k.hd.typ,.int .u16 k.hd.seq,.int .u32 k.hd.time,.int .u32 k.hd.aN,.slice ca k.hd.bD.length cc,.int .u16 (k.aD:Int),.slice ea k.ext.length ec,.slice ya k.pay.length yc,.int .i64 (k.pad:Int)] p b k:=⟨((aL.below hbX).below hbe).below hB,(hB.block _ (by omega)).trans ((hbe.block _ (by simp)).trans vS),hK,dw (dw (dw hp0 hbX) hbe) hB,dw hkv hB,dw (dw (dw hb hbX) hbe) hB,hbX.trans ((hbe.mono (by simp)).trans (hB.mono (by omega)))⟩;clear hB hK hkv hbe;obtain ⟨q0,q1,q2,q3,q4,q5,q6,q7,q8,q9,q10,q11,q12,q13,q14⟩:=fU S2.pl;obtain ⟨k0,k1,k2,k3,k4,k5,k6,k7,k8,k9,k10,k11⟩:=fV S2.pk)
  |(go_at_call 148;refine (EB _ S2.kw _ p S2.rp).mono ?_;rintro e w3 ⟨rfl,hb3⟩;have S3:=S2.below hb3;clear q0 q1 q2 q3 q4 q5 q6 q7 q8 q9 q10 q11 q12 q13 q14 k0 k1 k2 k3 k4 k5 k6 k7 k8 k9 k10 k11;obtain ⟨q0,q1,q2,q3,q4,q5,q6,q7,q8,q9,q10,q11,q12,q13,q14⟩:=fU S3.pl;obtain ⟨k0,k1,k2,k3,k4,k5,k6,k7,k8,k9,k10,k11⟩:=fV S3.pk)
  |(go_at_call 149;refine (E9 _ S3.kw _ _ p k S3.rp S3.rk few num ko hkb.1 hkb.2.1 hkb.2.2).mono ?_;rintro e w4 ⟨rfl,hb4⟩;have S4:=S3.below hb4;clear q0 q1 q2 q3 q4 q5 q6 q7 q8 q9 q10 q11 q12 q13 q14 k0 k1 k2 k3 k4 k5 k6 k7 k8 k9 k10 k11;obtain ⟨q0,q1,q2,q3,q4,q5,q6,q7,q8,q9,q10,q11,q12,q13,q14⟩:=fU S4.pl;obtain ⟨k0,k1,k2,k3,k4,k5,k6,k7,k8,k9,k10,k11⟩:=fV S4.pk)
  |(go_at_call 150;refine (F7 _ S4.kw _ b k hkk S4.rb hbl he).mono ?_;rintro e w5 ⟨lv,rfl,hlv,hb5⟩;have S5:=S4.below hb5;clear q0 q1 q2 q3 q4 q5 q6 q7 q8 q9 q10 q11 q12 q13 q14 k0 k1 k2 k3 k4 k5 k6 k7 k8 k9 k10 k11;obtain ⟨q0,q1,q2,q3,q4,q5,q6,q7,q8,q9,q10,q11,q12,q13,q14⟩:=fU S5.pl;obtain ⟨k0,k1,k2,k3,k4,k5,k6,k7,k8,k9,k10,k11⟩:=fV S5.pk;obtain ⟨la,lc,rfl⟩:=EL hlv)
  |(go_at_call 151;refine (DT w5 S5.kw _ _ _ p k S5.rp hlv num (by omega) (fun _ h=>h) k.aD).mono ?_;rintro e w6 ⟨v1,xs1,rfl,o6,AV,hb6⟩;have S6:=S5.below hb6;clear q0 q1 q2 q3 q4 q5 q6 q7 q8 q9 q10 q11 q12 q13 q14 k0 k1 k2 k3 k4 k5 k6 k7 k8 k9 k10 k11;obtain ⟨q0,q1,q2,q3,q4,q5,q6,q7,q8,q9,q10,q11,q12,q13,q14⟩:=fU S6.pl;obtain ⟨k0,k1,k2,k3,k4,k5,k6,k7,k8,k9,k10,k11⟩:=fV S6.pk;have wG:=dw hlv hb6)
  |(go_at_call 152;refine (Fa _ S6.kw _ _ wG hpl 9 _ hs).mono ?_;rintro e w7 ⟨x,rfl,hx,pF⟩;have jS:=pF.alloc pF.size (.cells #[.int .i64 x.f,.int .i64 (x.p:Int),.int .i64 (x.s:Int)] 56);have hx7:=World.alloc_heap_new w7 (.cells #[.int .i64 x.f,.int .i64 (x.p:Int),.int .i64 (x.s:Int)] 56);have S8:=S6.below jS;clear q0 q1 q2 q3 q4 q5 q6 q7 q8 q9 q10 q11 q12 q13 q14 k0 k1 k2 k3 k4 k5 k6 k7 k8 k9 k10 k11;obtain ⟨q0,q1,q2,q3,q4,q5,q6,q7,q8,q9,q10,q11,q12,q13,q14⟩:=fU S8.pl;obtain ⟨k0,k1,k2,k3,k4,k5,k6,k7,k8,k9,k10,k11⟩:=fV S8.pk)
  |(go_at_call 51;refine (EC _ S8.kw _ p S8.rp).mono ?_;rintro e w9 ⟨rfl,jq⟩;have S9:=S8.below jq;clear q0 q1 q2 q3 q4 q5 q6 q7 q8 q9 q10 q11 q12 q13 q14 k0 k1 k2 k3 k4 k5 k6 k7 k8 k9 k10 k11;obtain ⟨q0,q1,q2,q3,q4,q5,q6,q7,q8,q9,q10,q11,q12,q13,q14⟩:=fU S9.pl;obtain ⟨k0,k1,k2,k3,k4,k5,k6,k7,k8,k9,k10,k11⟩:=fV S9.pk;have wF:=(jq.block _ (by simp)).trans hx7;have J3:w9.cell? ⟨w7.heap.size,1,none⟩=some (.int .i64 (x.p:Int)):=by simp[World.cell?,wF])
  |(go_at_call 153;have h59:=hb6.trans ((jS.trans (jq.mono jS.size)).mono hb6.size);refine (ake w9 S9.kw (fun b=>b<w5.heap.size) _ _ p k x.p (S5.rp.mono h59.size (fun b hlt _=>⟨h59.block b hlt,hlt⟩)) (S5.rk.mono h59.size (fun b hlt _=>⟨h59.block b hlt,hlt⟩)) (fun b h=>zx h h59.size) ko.2 hkb.1 (by rw[hxp x hx];unfold qQ;omega) hsp few).mono ?_;rintro e w10 ⟨v2,xs2,rfl,oX,kX,aef⟩;rw[hxp x hx] at oX kX;have S10:=S9.below aef;have h610:=(jS.trans (jq.mono jS.size)).trans (aef.mono (jS.trans (jq.mono jS.size)).size);have o6':=EP (o6.kept (Dq h610) (Ea v1)) S5.bX.size;have z6:=h610.size;have z5:=h59.size;clear q0 q1 q2 q3 q4 q5 q6 q7 q8 q9 q10 q11 q12 q13 q14 k0 k1 k2 k3 k4 k5 k6 k7 k8 k9 k10 k11)
  |(at_builtin;refine afF rfl _ _ 227 rfl W0.heap.size 231 i0 _ 4 32 Tryz.underlying227 hi0 hz0' hz1' hz2' rfl (by decide) v1 _ xs1 rfl o6' v2 _ xs2 rfl _ oX kX.one hlen JG S10.bX.size ?_;intro v' w11 hown hgrow hat)
  |fail)
 refine bodyPost_ret (results_tmp2 rfl _ _ _) rfl ?_;have z69:=(jS.trans (jq.mono jS.size)).size;have FY:∀b,v1.ownBlock≠some b->b<w10.heap.size->w11.heap[b]?=w10.heap[b]?/\v'.ownBlock≠some b:=fun b hm hlt=>⟨hgrow.block b hlt (fun e=>hm e.symm),fun e=>by
  rcases hat with h|h
  .exact hm (h▸e)
  .rw[h] at e;cases e;omega⟩
 refine ⟨_,rfl,S10.bX.grown hgrow S10.bX.size (fun k e=>(o6'.lt k e).1),xs1++xs2,by rw[bg];exact hown,?_⟩;refine jG.append ((AV.mono h610.size (fun b hm hlt=>⟨h610.block b hlt,hm⟩)).mono hgrow.size (fun b hm hlt=>FY b hm.2 hlt)) (kX.mono hgrow.size (fun b hm hlt=>FY b (fun e=>?_) hlt));have:=o6.lt b e;rcases hm.2 with h|h<;>omega
theorem X9(W0:World)(aL:KW Tryz.prog W0)(pv bv:Value)(p:Pl)(b:List UInt8)(hp:bq W0 (fun b=>b<W0.heap.size) eu pv (eD p))(hb:bq W0 (fun b=>b<W0.heap.size) aQ bv (B b))(hbl:b.length<=1000000)(few:iE p)(num:gH p):
  Calls Tryz.prog 119 #[pv,bv] W0 fun e W'=>∃v,e= .returned (.tuple #[v,.int .i64 (jW p b)])/\Below W0.heap.size W0 W'/\
   (jW p b=0->∃xs,W'.ownsRow W0.heap.size 231 4 v (strokes p (bG b)).length xs/\jG W' (fun b=>v.ownBlock≠some b) p (bG b).aD (strokes p (bG b)) xs):=by
 by_cases he:cZ b=0
 .obtain ⟨kr,ko,kt,kl⟩:=Pk.same b he;have hkb:(bG b).ext.length<=1000000/\(bG b).pay.length<=1000000/\(bG b).pad<=1000000:=by
   have h1:=kr.2;have h2:=kr.1.2.2.2.1;unfold Pk.sum at h1;cases hx:(bG b).hd.ext with
   |true=>rw[hx,if_pos rfl] at h1;omega
   |false=>rw[(h2 hx).2];rw[hx] at h1;simp at h1 |-;omega
  have hcs:(bG b).hd.bD.length<=15:=by
   have:=kr.1.1;have:=this.2.2;omega
  have e1:jW p b=if jg p/\fD p (bG b)=0 then 0 else 9:=by unfold jW;rw[if_neg (fun h=>h he)]
  have cs:¬jg p\/(jg p/\(¬fD p (bG b)=0\/(fD p (bG b)=0/\((fF (placesOf (bG b)) 9).isSome=false\/((fF (placesOf (bG b)) 9).isSome=true/\(¬gU p\/gU p)))))):=by
   cases (fF (placesOf (bG b)) 9).isSome<;>by_cases h1:jg p<;>by_cases h2:fD p (bG b)=0<;>by_cases h3:gU p<;>simp[h1,h2,h3]
  rcases cs with hk|⟨hk,hf|⟨hf,hs|⟨hs,ha|ha⟩⟩⟩
  .rw[e1,if_neg (fun h=>hk h.1)];refine (apK W0 aL pv bv p b _ rfl hp hb hbl few num he ko hkb hcs hk trivial 0 rfl trivial).mono ?_;rintro e w ⟨v,h1,h2⟩;exact ⟨v,h1,h2,fun h=>absurd h (by decide)⟩
  .rw[e1,if_neg (fun h=>hf h.2)];refine (apJ W0 aL pv bv p b _ rfl hp hb hbl few num he ko hkb hcs hk hf 0 rfl trivial).mono ?_;rintro e w ⟨v,h1,h2⟩;exact ⟨v,h1,h2,fun h=>absurd h (by decide)⟩
  .rw[e1,if_pos ⟨hk,hf⟩];refine (apI W0 aL pv bv p b _ rfl hp hb hbl few num he ko hkb hcs hk hf (by rw[hs];rfl) trivial).mono ?_;rintro e w ⟨v,h1,h2,h3⟩;exact ⟨v,h1,h2,fun _=>h3⟩
  .rw[e1,if_pos ⟨hk,hf⟩];refine (apH W0 aL pv bv p b _ rfl hp hb hbl few num he ko hkb hcs hk hf (by rw[hs];rfl) ha).mono ?_;rintro e w ⟨v,h1,h2,h3⟩;exact ⟨v,h1,h2,fun _=>h3⟩
  .rw[e1,if_pos ⟨hk,hf⟩];refine (apG W0 aL pv bv p b _ rfl hp hb hbl few num he ko hkb hcs hk hf (by rw[hs];rfl) ha).mono ?_;rintro e w ⟨v,h1,h2,h3⟩;exact ⟨v,h1,h2,fun _=>h3⟩
 .have he2:(cZ b !=0)=true:=by simpa using he
  have e1:jW p b=cZ b:=by unfold jW;rw[if_pos he]
  rw[e1];have hp0:=hp;obtain ⟨mv,ov,dv,av,rfl,_⟩:=uo hp;have hbX:=Below.alloc (Below.refl W0.heap.size W0) (aI _) (.cells #[.bool p.sm,.bool p.m,.bool p.st,.int .i64 p.ty,.bool p.sq,.int .u16 p.seq,.bool p.bL,.int .u32 p.time,.bool p.ss,.int .u32 p.aN,mv,ov,dv,av,.bool p.np] 29);have hrd:=BL _ (aL.below hbX) bv b (dw hb hbX) hbl;go_enter Tryz.func119,Tryz.ntmps119
  go_wp2_with (go_at_call 13;refine hrd.mono ?_;rintro e w' ⟨kv,rfl,hkv,hbe⟩;obtain ⟨ca,cc,ea,ec,ya,yc,rfl⟩:=BU hkv)
  refine bodyPost_ret (results_tmp2 rfl _ _ _) rfl ?_;exact ⟨_,rfl,hbX.trans ((hbe.mono (by simp)).alloc (by have:=hbe.size;simp at this;omega) _),fun h=>absurd h he⟩
end Go.Vc
