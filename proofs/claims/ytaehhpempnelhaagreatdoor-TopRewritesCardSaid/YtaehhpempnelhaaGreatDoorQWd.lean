/-
  The strokes of a plan over bytes, walked: a plan that speaks of elements.
-/
import Derived.Test.YtaehhpempnelhaaGreatDoorQWc
import Derived.Laws.AppendOwnNone
import Derived.Maps.AppendAt
set_option maxRecDepth 100000
namespace Go.Vc
open Go Go.Proofs Go.Plain Go.RowKit Go.Shelf
theorem abD {P:Program} {w:World} {ops:Array Oper} {rest:List Oper} {o:Oper} {a:Act} {Q:Exit→Act→World→Prop} (hgd:o.guard=none) (s x:Operand) (t:TypeId)
  (ho:o.op= .call {callee:= .builtin .append,args:= #[s,x],argTypes:= #[t,t]})
  (base:Nat) (e:TypeId) (i:TypeInfo) (z:Value) (size bytes:Nat) (ht:P.underlying t=some (.slice e)) (hi:P.info? e=some i) (hz:i.zero=some z)
  (hsize:i.size=size) (hby:i.bytes=bytes) (hzs:z.cells.size=size) (hsz:0<size)
  (v:Value) (n:Nat) (xs:List Value) (hs:a.eval s=v) (hown:w.ownsRow base e size v n xs)
  (u:Value) (m:Nat) (news:List Value) (hx:a.eval x=u) (b2:Nat) (how:w.ownsRow b2 e size u m news) (h1:∀u∈news,u.oneCell'=true)
  (h63:n+m≤maxLen) (hbytes:(n+m)*bytes≤140737488355328) (hbase:base≤w.heap.size)
  (h:∀v' w',w'.ownsRow base e size v' (n+m) (xs++news)→w.grownBy w' v.ownBlock→(v'.ownBlock=v.ownBlock∨v'.ownBlock=some w.heap.size)→wpList P ops Q rest (a.put o.dst v') w'):wpList P ops Q (o::rest) a w:=by
 have akQ:=how;obtain ⟨hl,⟨rfl,rfl⟩|⟨g,cap,cur,rfl,_⟩⟩:=how
 ·obtain rfl:news=[]:=List.eq_nil_of_length_eq_zero (by omega);exact wpList_append_own_none hgd s x t ho base e i size ht hi v n xs hs hown hx (h v w (by simpa using hown) ⟨rfl,rfl,rfl,Nat.le_refl _,fun _ _ _=>rfl⟩ (.inl rfl))
 ·exact wpList_append_own_at w hgd s x t ho base e i z size bytes ht hi hz hsize hby hzs hsz v n xs hs hown ⟨g,0,none⟩ m cap news hx hl (akQ.cells rfl) h1 h63 hbytes hbase fun v' w' r1 r2 _ r4=>h v' w' r1 r2 r4
theorem akf {p:Pl} {k:Pk} (h3:dU p k=0):(behind p k).isSome:=by
 unfold dU at h3;split at h3
 ·cases h3
 ·split at h3
  ·assumption
  ·cases h3
set_option maxHeartbeats 1600000 in
theorem ajF (W0:World) (aN:KW Tryz.prog W0) (pv bv:Value) (p:Pl) (b:List UInt8) (k:Pk) (hkk:Hid (aL b=k)) (hp:bE W0 (fun b=>b<W0.heap.size) cu pv (cK p)) (hb:bE W0 (fun b=>b<W0.heap.size) aV bv (B b)) (hbl:b.length≤1000000) (few:fq p) (num:dO p) (he:aZ b=0) (ko:k.ok) (hkb:k.ext.length≤1000000∧k.pay.length≤1000000∧k.pad≤1000000) (hcs:k.hd.aI.length≤15) (hk:fA p) (hf:dU p k=0) (hs:Hid ((0:Int)=if (eG (placesOf k) 9).isSome then 0 else 8)) (ha:dP p):
  Calls Tryz.prog 119 #[pv,bv] W0 fun e W'=>∃v,e= .returned (.tuple #[v,.int .i64 0])∧Below W0.heap.size W0 W'∧∃xs,W'.ownsRow W0.heap.size 231 4 v (strokes p k).length xs∧iP W' (fun b=>v.ownBlock≠some b) p k.ak (strokes p k) xs:=by
 have hp0:=hp;obtain ⟨mv,ov,dv,av,rfl,_⟩:=qP hp;have hbX:=Below.alloc (Below.refl W0.heap.size W0) (Nat.le_refl _) (.cells #[.bool p.sm,.bool p.m,.bool p.st,.int .i64 p.ty,.bool p.sq,.int .u16 p.seq,.bool p.aY,.int .u32 p.time,.bool p.ss,.int .u32 p.aH,mv,ov,dv,av,.bool p.np] 29);have sH:=World.alloc_heap_new W0 (.cells #[.bool p.sm,.bool p.m,.bool p.st,.int .i64 p.ty,.bool p.sq,.int .u16 p.seq,.bool p.aY,.int .u32 p.time,.bool p.ss,.int .u32 p.aH,mv,ov,dv,av,.bool p.np] 29);have hrd:=zl _ (aN.below hbX) bv b (bT hb hbX) hbl;rw[show eB b=k from by unfold eB;rw[if_pos he];exact hkk,he] at hrd;have hpl:(placesOf k).length≤100000:=by have:=vL k;omega
 obtain ⟨i0,hi0,hz0',hz1',hz2'⟩:=info_parts JW;obtain ⟨y,hy⟩:∃y,behind p k=some y:=Option.isSome_iff_exists.1 (akf hf);obtain ⟨hfx,hsp,hst⟩:=ael hy (agd hs) ha;have hxp:∀x:bI,Hid (x=(eG (placesOf k) 9).getD bI.zero)→x.p=fT k:=fun x hx=>by
  rw[show x=_ from hx,hfx];rfl
 have hl0:=wm (gD p (bO k) (fT k)) 2000000 (fun a=>yX p _ _ a few.1 few.2.1) (spots k.ak k.ext).1;have hl1:=vN k.ak k.ext;have hl2:=Vs p;have hlen:(j5 p).length+((spots k.ak k.ext).1.flatMap (gD p (bO k) (fT k))).length≤maxLen:=by simp only[maxLen];omega
 have CP:((j5 p).length+((spots k.ak k.ext).1.flatMap (gD p (bO k) (fT k))).length)*32≤140737488355328:=by omega
 rw[hst];go_enter Tryz.func119,Tryz.ntmps119
 go_wp2_with (first
  |(go_at_call 13;refine hrd.mono ?_;rintro e w1 ⟨kv,rfl,hkv,hbe⟩;obtain ⟨ca,cc,ea,ec,ya,yc,rfl⟩:=zB hkv;have z1:=hbe.size;simp only[World.size_alloc] at z1;have hB:=Below.alloc (Below.refl w1.heap.size w1) (Nat.le_refl _) (.cells #[.bool k.hd.pad,.bool k.hd.ext,.bool k.hd.mark,.int .i64 k.hd.typ,.int .u16 k.hd.seq,.int .u32 k.hd.time,.int .u32 k.hd.aH,.slice ca k.hd.aI.length cc,.int .u16 (k.ak:Int),.slice ea k.ext.length ec,.slice ya k.pay.length yc,.int .i64 (k.pad:Int)] 43);have hK:=World.alloc_heap_new w1 (.cells #[.bool k.hd.pad,.bool k.hd.ext,.bool k.hd.mark,.int .i64 k.hd.typ,.int .u16 k.hd.seq,.int .u32 k.hd.time,.int .u32 k.hd.aH,.slice ca k.hd.aI.length cc,.int .u16 (k.ak:Int),.slice ea k.ext.length ec,.slice ya k.pay.length yc,.int .i64 (k.pad:Int)] 43);have S2:vH W0 (w1.alloc (.cells #[.bool k.hd.pad,.bool k.hd.ext,.bool k.hd.mark,.int .i64 k.hd.typ,.int .u16 k.hd.seq,.int .u32 k.hd.time,.int .u32 k.hd.aH,.slice ca k.hd.aI.length cc,.int .u16 (k.ak:Int),.slice ea k.ext.length ec,.slice ya k.pay.length yc,.int .i64 (k.pad:Int)] 43)) W0.heap.size w1.heap.size (.agg #[.bool p.sm,.bool p.m,.bool p.st,.int .i64 p.ty,.bool p.sq,.int .u16 p.seq,.bool p.aY,.int .u32 p.time,.bool p.ss,.int .u32 p.aH,mv,ov,dv,av,.bool p.np]) (.agg #[.bool k.hd.pad,.bool k.hd.ext,.bool k.hd.mark,.int .i64 k.hd.typ,.int .u16 k.hd.seq,.int .u32 k.hd.time,.int .u32 k.hd.aH,.slice ca k.hd.aI.length cc,.int .u16 (k.ak:Int),.slice ea k.ext.length ec,.slice ya k.pay.length yc,.int .i64 (k.pad:Int)]) bv #[.bool p.sm,.bool p.m,.bool p.st,.int .i64 p.ty,.bool p.sq,.int .u16 p.seq,.bool p.aY,.int .u32 p.time,.bool p.ss,.int .u32 p.aH,mv,ov,dv,av,.bool p.np] #[.bool k.hd.pad,.bool k.hd.ext,.bool k.hd.mark,.int .i64 k.hd.typ,.int .u16 k.hd.seq,.int .u32 k.hd.time,.int .u32 k.hd.aH,.slice ca k.hd.aI.length cc,.int .u16 (k.ak:Int),.slice ea k.ext.length ec,.slice ya k.pay.length yc,.int .i64 (k.pad:Int)] p b k:=⟨((aN.below hbX).below hbe).below hB,(hB.block _ (by omega)).trans ((hbe.block _ (by simp)).trans sH),hK,bT (bT (bT hp0 hbX) hbe) hB,bT hkv hB,bT (bT (bT hb hbX) hbe) hB,hbX.trans ((hbe.mono (by simp)).trans (hB.mono (by omega)))⟩;clear hB hK hkv hbe;obtain ⟨q0,q1,q2,q3,q4,q5,q6,q7,q8,q9,q10,q11,q12,q13,q14⟩:=eY S2.pl;obtain ⟨k0,k1,k2,k3,k4,k5,k6,k7,k8,k9,k10,k11⟩:=eZ S2.pk)
  |(go_at_call 148;refine (BR _ S2.kw _ p S2.rp).mono ?_;rintro e w3 ⟨rfl,hb3⟩;have S3:=S2.below hb3;clear q0 q1 q2 q3 q4 q5 q6 q7 q8 q9 q10 q11 q12 q13 q14 k0 k1 k2 k3 k4 k5 k6 k7 k8 k9 k10 k11;obtain ⟨q0,q1,q2,q3,q4,q5,q6,q7,q8,q9,q10,q11,q12,q13,q14⟩:=eY S3.pl;obtain ⟨k0,k1,k2,k3,k4,k5,k6,k7,k8,k9,k10,k11⟩:=eZ S3.pk)
  |(go_at_call 149;refine (Cv _ S3.kw _ _ p k S3.rp S3.rk few num ko hkb.1 hkb.2.1 hkb.2.2).mono ?_;rintro e w4 ⟨rfl,hb4⟩;have S4:=S3.below hb4;clear q0 q1 q2 q3 q4 q5 q6 q7 q8 q9 q10 q11 q12 q13 q14 k0 k1 k2 k3 k4 k5 k6 k7 k8 k9 k10 k11;obtain ⟨q0,q1,q2,q3,q4,q5,q6,q7,q8,q9,q10,q11,q12,q13,q14⟩:=eY S4.pl;obtain ⟨k0,k1,k2,k3,k4,k5,k6,k7,k8,k9,k10,k11⟩:=eZ S4.pk)
  |(go_at_call 150;refine (Dj _ S4.kw _ b k hkk S4.rb hbl he).mono ?_;rintro e w5 ⟨lv,rfl,hlv,hb5⟩;have S5:=S4.below hb5;clear q0 q1 q2 q3 q4 q5 q6 q7 q8 q9 q10 q11 q12 q13 q14 k0 k1 k2 k3 k4 k5 k6 k7 k8 k9 k10 k11;obtain ⟨q0,q1,q2,q3,q4,q5,q6,q7,q8,q9,q10,q11,q12,q13,q14⟩:=eY S5.pl;obtain ⟨k0,k1,k2,k3,k4,k5,k6,k7,k8,k9,k10,k11⟩:=eZ S5.pk;obtain ⟨la,lc,rfl⟩:=Cg hlv)
  |(go_at_call 151;refine (Bp w5 S5.kw _ _ _ p k S5.rp hlv num (by omega) (fun _ h=>h) k.ak).mono ?_;rintro e w6 ⟨v1,xs1,rfl,o6,xQ,hb6⟩;have S6:=S5.below hb6;clear q0 q1 q2 q3 q4 q5 q6 q7 q8 q9 q10 q11 q12 q13 q14 k0 k1 k2 k3 k4 k5 k6 k7 k8 k9 k10 k11;obtain ⟨q0,q1,q2,q3,q4,q5,q6,q7,q8,q9,q10,q11,q12,q13,q14⟩:=eY S6.pl;obtain ⟨k0,k1,k2,k3,k4,k5,k6,k7,k8,k9,k10,k11⟩:=eZ S6.pk;have sV:=bT hlv hb6)
  |(go_at_call 152;refine (Cw _ S6.kw _ _ sV hpl 9 _ hs).mono ?_;rintro e w7 ⟨x,rfl,hx,nu⟩;have ji:=nu.alloc nu.size (.cells #[.int .i64 x.f,.int .i64 (x.p:Int),.int .i64 (x.s:Int)] 56);have hx7:=World.alloc_heap_new w7 (.cells #[.int .i64 x.f,.int .i64 (x.p:Int),.int .i64 (x.s:Int)] 56);have S8:=S6.below ji;clear q0 q1 q2 q3 q4 q5 q6 q7 q8 q9 q10 q11 q12 q13 q14 k0 k1 k2 k3 k4 k5 k6 k7 k8 k9 k10 k11;obtain ⟨q0,q1,q2,q3,q4,q5,q6,q7,q8,q9,q10,q11,q12,q13,q14⟩:=eY S8.pl;obtain ⟨k0,k1,k2,k3,k4,k5,k6,k7,k8,k9,k10,k11⟩:=eZ S8.pk)
  |(go_at_call 51;refine (BS _ S8.kw _ p S8.rp).mono ?_;rintro e w9 ⟨rfl,iR⟩;have S9:=S8.below iR;clear q0 q1 q2 q3 q4 q5 q6 q7 q8 q9 q10 q11 q12 q13 q14 k0 k1 k2 k3 k4 k5 k6 k7 k8 k9 k10 k11;obtain ⟨q0,q1,q2,q3,q4,q5,q6,q7,q8,q9,q10,q11,q12,q13,q14⟩:=eY S9.pl;obtain ⟨k0,k1,k2,k3,k4,k5,k6,k7,k8,k9,k10,k11⟩:=eZ S9.pk;have sU:=(iR.block _ (by simp)).trans hx7;have Gj:w9.cell? ⟨w7.heap.size,1,none⟩=some (.int .i64 (x.p:Int)):=by simp[World.cell?,sU])
  |(go_at_call 153;have h59:=hb6.trans ((ji.trans (iR.mono ji.size)).mono hb6.size);refine (ae0 w9 S9.kw (fun b=>b<w5.heap.size) _ _ p k x.p (S5.rp.mono h59.size (fun b hlt _=>⟨h59.block b hlt,hlt⟩)) (S5.rk.mono h59.size (fun b hlt _=>⟨h59.block b hlt,hlt⟩)) (fun b h=>Nat.lt_of_lt_of_le h h59.size) ko.2 hkb.1 (by rw[hxp x hx];unfold fT;omega) hsp few).mono ?_;rintro e w10 ⟨v2,xs2,rfl,oX,kX,ZN⟩;rw[hxp x hx] at oX kX;have S10:=S9.below ZN;have h610:=(ji.trans (iR.mono ji.size)).trans (ZN.mono (ji.trans (iR.mono ji.size)).size);have Z6:=Ci (o6.kept (AU h610) (BH v1)) S5.bH.size;have z6:=h610.size;have z5:=h59.size;clear q0 q1 q2 q3 q4 q5 q6 q7 q8 q9 q10 q11 q12 q13 q14 k0 k1 k2 k3 k4 k5 k6 k7 k8 k9 k10 k11)
  |(at_builtin;refine abD rfl _ _ 227 rfl W0.heap.size 231 i0 _ 4 32 Tryz.underlying227 hi0 hz0' hz1' hz2' rfl (by decide) v1 _ xs1 rfl Z6 v2 _ xs2 rfl _ oX kX.one hlen CP S10.bH.size ?_;intro v' w11 hown hgrow hat)
  |fail)
 refine bodyPost_ret (results_tmp2 rfl _ _ _) rfl ?_;have z69:=(ji.trans (iR.mono ji.size)).size;have Am:∀b,v1.ownBlock≠some b→b<w10.heap.size→w11.heap[b]?=w10.heap[b]?∧v'.ownBlock≠some b:=fun b hm hlt=>⟨hgrow.block b hlt (fun e=>hm e.symm),fun e=>by
  rcases hat with h|h
  ·exact hm (h▸e)
  ·rw[h] at e;cases e;omega⟩
 refine ⟨_,rfl,S10.bH.grown hgrow S10.bH.size (fun k e=>(Z6.lt k e).1),xs1++xs2,by rw[List.length_append];exact hown,?_⟩;refine iP.append ((xQ.mono h610.size (fun b hm hlt=>⟨h610.block b hlt,hm⟩)).mono hgrow.size (fun b hm hlt=>Am b hm.2 hlt)) (kX.mono hgrow.size (fun b hm hlt=>Am b (fun e=>?_) hlt));have:=o6.lt b e;rcases hm.2 with h|h<;>omega
theorem Tz (W0:World) (aN:KW Tryz.prog W0) (pv bv:Value) (p:Pl) (b:List UInt8) (hp:bE W0 (fun b=>b<W0.heap.size) cu pv (cK p)) (hb:bE W0 (fun b=>b<W0.heap.size) aV bv (B b)) (hbl:b.length≤1000000) (few:fq p) (num:dO p):
  Calls Tryz.prog 119 #[pv,bv] W0 fun e W'=>∃v,e= .returned (.tuple #[v,.int .i64 (fO p b)])∧Below W0.heap.size W0 W'∧
   (fO p b=0→∃xs,W'.ownsRow W0.heap.size 231 4 v (strokes p (aL b)).length xs∧iP W' (fun b=>v.ownBlock≠some b) p (aL b).ak (strokes p (aL b)) xs):=by
 by_cases he:aZ b=0
 ·obtain ⟨kr,ko,kt,kl⟩:=Pk.same b he;have hkb:(aL b).ext.length≤1000000∧(aL b).pay.length≤1000000∧(aL b).pad≤1000000:=by
   have h1:=kr.2;have h2:=kr.1.2.2.2.1;unfold Pk.sum at h1;cases hx:(aL b).hd.ext with
   |true=>rw[hx,if_pos rfl] at h1;omega
   |false=>rw[(h2 hx).2];rw[hx] at h1;simp at h1 ⊢;omega
  have hcs:(aL b).hd.aI.length≤15:=by
   have:=kr.1.1;have:=this.2.2;omega
  have e1:fO p b=if fA p∧dU p (aL b)=0 then 0 else 9:=by unfold fO;rw[if_neg (fun h=>h he)]
  have cs:¬fA p∨(fA p∧(¬dU p (aL b)=0∨(dU p (aL b)=0∧((eG (placesOf (aL b)) 9).isSome=false∨((eG (placesOf (aL b)) 9).isSome=true∧(¬dP p∨dP p)))))):=by
   cases (eG (placesOf (aL b)) 9).isSome<;>by_cases h1:fA p<;>by_cases h2:dU p (aL b)=0<;>by_cases h3:dP p<;>simp[h1,h2,h3]
  rcases cs with hk|⟨hk,hf|⟨hf,hs|⟨hs,ha|ha⟩⟩⟩
  ·rw[e1,if_neg (fun h=>hk h.1)];refine (ajJ W0 aN pv bv p b _ rfl hp hb hbl few num he ko hkb hcs hk trivial 0 rfl trivial).mono ?_;rintro e w ⟨v,h1,h2⟩;exact ⟨v,h1,h2,fun h=>absurd h (by decide)⟩
  ·rw[e1,if_neg (fun h=>hf h.2)];refine (ajI W0 aN pv bv p b _ rfl hp hb hbl few num he ko hkb hcs hk hf 0 rfl trivial).mono ?_;rintro e w ⟨v,h1,h2⟩;exact ⟨v,h1,h2,fun h=>absurd h (by decide)⟩
  ·rw[e1,if_pos ⟨hk,hf⟩];refine (ajH W0 aN pv bv p b _ rfl hp hb hbl few num he ko hkb hcs hk hf (by rw[hs];rfl) trivial).mono ?_;rintro e w ⟨v,h1,h2,h3⟩;exact ⟨v,h1,h2,fun _=>h3⟩
  ·rw[e1,if_pos ⟨hk,hf⟩];refine (ajG W0 aN pv bv p b _ rfl hp hb hbl few num he ko hkb hcs hk hf (by rw[hs];rfl) ha).mono ?_;rintro e w ⟨v,h1,h2,h3⟩;exact ⟨v,h1,h2,fun _=>h3⟩
  ·rw[e1,if_pos ⟨hk,hf⟩];refine (ajF W0 aN pv bv p b _ rfl hp hb hbl few num he ko hkb hcs hk hf (by rw[hs];rfl) ha).mono ?_;rintro e w ⟨v,h1,h2,h3⟩;exact ⟨v,h1,h2,fun _=>h3⟩
 ·have he2:(aZ b !=0)=true:=by simpa using he
  have e1:fO p b=aZ b:=by unfold fO;rw[if_pos he]
  rw[e1];have hp0:=hp;obtain ⟨mv,ov,dv,av,rfl,_⟩:=qP hp;have hbX:=Below.alloc (Below.refl W0.heap.size W0) (Nat.le_refl _) (.cells #[.bool p.sm,.bool p.m,.bool p.st,.int .i64 p.ty,.bool p.sq,.int .u16 p.seq,.bool p.aY,.int .u32 p.time,.bool p.ss,.int .u32 p.aH,mv,ov,dv,av,.bool p.np] 29);have hrd:=zl _ (aN.below hbX) bv b (bT hb hbX) hbl;go_enter Tryz.func119,Tryz.ntmps119
  go_wp2_with (go_at_call 13;refine hrd.mono ?_;rintro e w' ⟨kv,rfl,hkv,hbe⟩;obtain ⟨ca,cc,ea,ec,ya,yc,rfl⟩:=zB hkv)
  refine bodyPost_ret (results_tmp2 rfl _ _ _) rfl ?_;exact ⟨_,rfl,hbX.trans ((hbe.mono (by simp)).alloc (by have:=hbe.size;simp at this;omega) _),fun h=>absurd h he⟩
end Go.Vc
