/-
  Contracts of functions of the program, each out of its condition or by a walk, and plain lemmas.
-/
import Derived.Test.YtaehhpempnelhaaGreatDoorQWg
import Derived.Test.YtaehhpempnelhaaGreatDoorQBase4
import Derived.Test.YtaehhpempnelhaaGreatDoorQBase3
import Derived.Test.YtaehhpempnelhaaGreatDoorQVcs1
import Derived.Test.YtaehhpempnelhaaGreatDoorQTx5
import Derived.Test.YtaehhpempnelhaaGreatDoorQTx4
set_option maxRecDepth 100000
namespace Go.Vc
open Go Go.Proofs Go.Plain Go.RowKit Go.Shelf
def jk (p:Pl) (b:List UInt8):List UInt8:=if fO p b=0 then wW p (aL b) b else []
theorem afP (W0:World) (aN:KW Tryz.prog W0) (pv bv:Value) (p:Pl) (b:List UInt8) (hp:bE W0 (fun b=>b<W0.heap.size) cu pv (cK p)) (hb:bE W0 (fun b=>b<W0.heap.size) aV bv (B b)) (hbl:b.length≤1000000) (few:fq p) (num:dO p) (E:Int) (hE:Hid (fO p b=E)) (h0:E≠0):
  Calls Tryz.prog 75 #[pv,bv] W0 fun e W'=>e= .returned (.tuple #[.slice none 0 0,.int .i64 E])∧Below W0.heap.size W0 W':=by
 have hp0:=hp;obtain ⟨mv,ov,dv,av,rfl,_⟩:=qP hp;obtain ⟨ba,bc,rfl,_⟩:=KM hb;have hbX:=Below.alloc (Below.refl W0.heap.size W0) (Nat.le_refl _) (.cells #[.bool p.sm,.bool p.m,.bool p.st,.int .i64 p.ty,.bool p.sq,.int .u16 p.seq,.bool p.aY,.int .u32 p.time,.bool p.ss,.int .u32 p.aH,mv,ov,dv,av,.bool p.np] 29);have hst:=Tz _ (aN.below hbX) _ _ p b (bT hp0 hbX) (bT hb hbX) hbl few num;rw[show fO p b=E from hE] at hst;clear hp hp0 hb aN;go_enter Tryz.func75,Tryz.ntmps75
 go_wp2_with (first
  |(go_at_call 119;refine hst.mono ?_;rintro e W1 ⟨v,rfl,hb1,h1⟩;clear hst h1)
  |fail)
 refine bodyPost_ret (results_tmp2 rfl _ _ _) rfl ?_;exact ⟨rfl,hbX.trans (hb1.mono (by simp))⟩
theorem akl {w:World} {N:Nat→Prop} {g cap:Nat} {bs:List UInt8} {sp:List Value} {et:TypeId} (h:w.heap[g]?=some (.cells (vb bs++sp).toArray et (0,0))) (hc:bs.length+sp.length=cap) (hm:cap≤maxLen) (hN:N g):bE w N aV (.slice (some ⟨g,0,none⟩) bs.length cap) (B bs):=by
 have hl:(C.toList (B bs)).length=bs.length:=by simp[ofBytes]
 have hvl:(vb bs).length=bs.length:=by simp[vb]
 refine ⟨[_],zC (B:=fun _=>True) (et:=et) (s:= .int .u8) (xs:=vb bs) ⟨by rw[hl];simp[Sh.size,vb],.inr ⟨g,cap,(vb bs++sp).toArray,by rw[hl],trivial,h,by rw[hl];omega,hm,?_,?_⟩⟩ (row_of bs) (fun g' e=>by cases e;exact hN),rfl⟩
 ·simp only[List.size_toArray,List.length_append,hvl,Sh.size,Nat.mul_one];exact hc
 ·rw[hl];simp only[Sh.size,Nat.mul_one];rw[←hvl,List.take_left'];rfl
theorem XP {b:List UInt8} (he:aZ b=0):12+4*(aL b).hd.aI.length+(if (aL b).hd.ext then 4+(aL b).ext.length else 0)≤b.length:=by
 obtain ⟨_,_,kt,kl⟩:=Pk.same b he;have h1:=yC (aL b) _ kt.1;rw[←kl] at h1;rw[h1];unfold Pk.sum;omega
theorem aiG (W0:World) (aN:KW Tryz.prog W0) (pv bv:Value) (p:Pl) (b:List UInt8) (hp:bE W0 (fun b=>b<W0.heap.size) cu pv (cK p)) (hb:bE W0 (fun b=>b<W0.heap.size) aV bv (B b)) (hbl:b.length≤1000000) (few:fq p) (num:dO p):
  Calls Tryz.prog 75 #[pv,bv] W0 fun e W'=>∃r,e= .returned (.tuple #[r,.int .i64 (fO p b)])∧bE W' (fun b=>W0.heap.size≤b) aV r (B (jk p b))∧Below W0.heap.size W0 W':=by
 by_cases hE:fO p b=0
 ·obtain ⟨he,hk,hs⟩:=FD hE;obtain ⟨y,hy⟩:=Option.isSome_iff_exists.1 hs;obtain ⟨hpr,_⟩:=tL hy;obtain ⟨kr,ko,kt,kl⟩:=Pk.same b he;have hlen:b.length=(aL b).sum:=by
   have h1:=yC (aL b) _ kt.1;rwa[←kl] at h1
  have hok:=Tw hk hy b.length (XP he);have h0:b≠[]:=by
   rintro rfl;unfold Pk.sum at hlen;simp at hlen;omega
  have hll:(strokes p (aL b)).length≤3000000000000:=by
   have hl0:=wm (gD p (bO (aL b)) (fT (aL b))) 2000000 (fun a=>yX p _ _ a few.1 few.2.1) (spots (aL b).ak (aL b).ext).1;have hl1:=vN (aL b).ak (aL b).ext;have hl2:=Vs p;have hl3:(aL b).ext.length≤1000000:=by
    unfold Pk.sum at hlen;cases hx:(aL b).hd.ext with
    |true=>rw[hx,if_pos rfl] at hlen;omega
    |false=>rw[(kr.1.2.2.2.1 hx).2];simp
   have hl4:(strokes p (aL b)).length≤(j5 p).length+((spots (aL b).ak (aL b).ext).1.flatMap (gD p (bO (aL b)) (fT (aL b)))).length:=by
    unfold strokes oG;rw[List.length_append];split
    ·exact Nat.le_refl _
    ·simp
   omega
  refine (afO W0 aN pv bv p b _ rfl hp hb hbl few num hE h0 _ rfl hok (aeY hok) (aeZ hpr) ⟨hpr.1.2.2.2.2.2.1,hpr.1.2.2.2.2.2.2⟩ hll).mono ?_;rintro e W' ⟨g,cap,rfl,hg,et,sp,hrow,hcap,hmax,hbe⟩;refine ⟨_,by rw[hE],?_,hbe⟩;have hl5:=(EF _ b hok).1;unfold jk;rw[if_pos hE];rw[←hl5];exact akl hrow (by rw[hl5];exact hcap) hmax hg
 ·refine (afP W0 aN pv bv p b hp hb hbl few num _ rfl hE).mono ?_;rintro e W' ⟨rfl,hbe⟩;refine ⟨_,rfl,?_,hbe⟩;unfold jk;rw[if_neg hE];exact ⟨[_],⟨none,0,rfl,Nat.le_refl _,Nat.zero_le _,fun h=>absurd rfl h⟩,rfl⟩
abbrev afo:FuncId:=75
theorem aeu (p:Pl) (b:List UInt8) (hb:b.length≤1000000) (few:fq p) (num:dO p):PC Tryz.prog afo [(cu,cK p),(aV,B b)] [(aV,B (jk p b)),(I64,.int (fO p b))]:=by
 refine PC.sQ (by decide) ⟨⟨_,Tryz.func75,by kernel_rfl,by kernel_rfl⟩,fun w N vs aN hrd=>?_⟩;obtain ⟨v,r,rfl,hp,v2,r2,rfl,hb2,hr⟩:=hrd;simp only[bZ] at hr;subst hr;refine (aiG w aN v v2 p b (FR hp) (FR hb2) hb few num).mono ?_;rintro e w' ⟨r,rfl,hr,hbe⟩;exact ⟨_,rfl,⟨[r,.int .i64 (fO p b)],⟨_,_,rfl,hr.mono (Nat.le_refl _) fun b h _=>⟨rfl,.inr h⟩,⟨_,_,rfl,⟨_,rfl,rfl⟩,rfl⟩⟩,rfl⟩,hbe⟩
end Go.Vc
set_option maxRecDepth 100000
namespace Go.Vc
open Go Go.Proofs Go.Plain
def rV (b:List UInt8):Prop:=2≤b.length∧128≤at_ b 0∧at_ b 0≤191∧at_ b 1/32≠6
instance (b:List UInt8):Decidable (rV b):=by unfold rV;exact inferInstance
theorem ahz {p:Pl} {b:List UInt8} {x:Pk} (he:aZ b=0) (hk:fA p) (hr:(aL b).right) (hx:behind p (aL b)=some x):fO p b=0:=by
 unfold fO;rw[if_neg (fun h=>h he),if_pos];refine ⟨hk,?_⟩;unfold dU;rw[if_neg (fun h=>h hr),hx];rfl
end Go.Vc
set_option maxRecDepth 100000
namespace Go.Vc
open Go Go.Proofs Go.Plain Go.RowKit Go.Shelf
abbrev IfM:Sh:= .dh 224 .unit
abbrev aee:FuncId:=74
theorem akB (W:World) (v:Value):(Instr.typeAssert (.iface 224 v) 163 224 true).run Tryz.prog W= .ok (.tuple #[v,.bool true]) W:=by kernel_rfl
theorem akC (W:World) (v:Value):(Instr.typeAssert (.iface 224 v) 163 223 true).run Tryz.prog W= .ok (.tuple #[.agg #[],.bool false]) W:=by kernel_rfl
theorem afJ (W0:World):
  Calls Tryz.prog 74 #[.iface 224 (.agg #[])] W0 fun e W'=>e= .returned (.int .i64 1)∧Below W0.heap.size W0 W':=by
 have a1:=akB;have a2:=akC;go_enter Tryz.func74,Tryz.ntmps74
 go_wp2
 refine bodyPost_ret (results_tmp rfl _ _ _) rfl ?_;exact ⟨rfl,Below.alloc (Below.refl _ _) (Nat.le_refl _) _⟩
theorem adi:PC Tryz.prog aee [(IfM,.ls [])] [(I64,.int 1)]:=by
 refine PC.sQ (by decide) ⟨⟨_,Tryz.func74,by kernel_rfl,by kernel_rfl⟩,fun w N vs aN hrd=>?_⟩;obtain ⟨v,r,rfl,⟨us,⟨Dm,rfl,h0⟩,rfl⟩,hr⟩:=hrd;simp only[Rd] at h0;simp only[bZ] at hr;subst hr h0;refine (afJ w).mono ?_;rintro e w' ⟨rfl,hbe⟩;exact ⟨_,rfl,⟨[.int .i64 1],⟨_,_,rfl,⟨_,rfl,rfl⟩,rfl⟩,rfl⟩,hbe⟩
theorem akG:∀x:Nat,x<256→arith .shr .u8 x 6=((x/64:Nat):Int):=by decide+kernel
theorem akn:∀x:Nat,x<256→arith .quo .u8 x 32=((x/32:Nat):Int):=by decide+kernel
theorem abW (b:List UInt8) (hm:rV b):PC Tryz.prog Pm [(aV,B b)] [(IfM,.ls [])]:=by
 obtain ⟨h1,h2,h3,h4⟩:=hm;apply abF rfl;have i0:Int.toNat 0=0:=rfl;have i1:Int.toNat 1=1:=rfl;have e6:=akG (at_ b 0) (fF b 0);simp only[OY,aF,aC,aB,au,aD,forall_const,bC,jg,i0,i1,lG,e6];refine ⟨fun _=>by omega,fun hc=>?_,fun _=>⟨by omega,fun _=>by omega,fun hc=>?_,fun _=>trivial⟩⟩
 ·exfalso;omega
 ·exfalso;omega
def FT (b:List UInt8):Int:=if 2≤b.length∧128≤at_ b 0∧at_ b 0≤191 then (if at_ b 1/32=6 then 2 else 1) else 3
theorem aeW (b:List UInt8):FT b=1↔rV b:=by
 unfold FT rV;by_cases h:2≤b.length∧128≤at_ b 0∧at_ b 0≤191
 ·rw[if_pos h];split<;>simp[*]
 ·rw[if_neg h];simp;omega
theorem adZ (b:List UInt8):PC Tryz.prog Ot [(aV,B b)] [(I64,.int (FT b))]:=by
 apply aa4 rfl;have i0:Int.toNat 0=0:=rfl;have i1:Int.toNat 1=1:=rfl;have e6:=akn (at_ b 1) (fF b 1);simp only[Nq,aF,aC,aB,au,aD,forall_const,bC,jg,i0,i1,lG,e6];unfold FT;refine ⟨fun _=>by omega,fun _=>by omega,fun hc=>?_,fun hc=>⟨by omega,fun hd=>?_,fun hd=>?_⟩⟩
 ·rw[if_neg (by omega)]
 ·rw[if_pos (by omega),if_pos (by omega)]
 ·rw[if_pos (by omega),if_neg (by omega)]
theorem ad8 (b:List UInt8) (hb:b.length≤1000000):PC Tryz.prog OC [(.unit,.ls []),(aV,B b)] [(I64,.int (aZ b))]:=by
 apply abf rfl;simp only[ND,aF,aC,aB,au,aD,forall_const];exact ⟨_,_,vK b hb,rfl⟩
theorem abX (b:List UInt8) (hm:rV b) (hb:b.length≤1000000):PC Tryz.prog PZ [(aV,B b)] [(I64,.int (if aZ b=0 then 1 else 3)),(I64,.int (aZ b))]:=by
 apply abQ rfl;simp only[O8,aF,aC,aB,au,aD,forall_const,bC];have h2:=hm.1;refine ⟨fun hc=>?_,fun hc=>⟨fun hc=>by omega,fun _=>⟨_,abW b hm,_,ad8 b hb,fun he=>?_,fun he=>⟨_,adi,?_⟩⟩⟩⟩
 ·have:aZ b=4:=by unfold aZ;rw[if_pos (by omega)]
  rw[this];rfl
 ·have he:aZ b≠0:=he;rw[if_neg he]
 ·have he:aZ b=0:=he;rw[if_pos he,he]
def ny (p:Pl) (b:List UInt8) (room:Int):Int:=if aZ b≠0 then aZ b else if dU p (aL b)≠0 then dU p (aL b) else oL (qp p (aL b)) room
def rH (p:Pl) (b:List UInt8) (room:Int):List UInt8:=if ny p b room=0 then (qp p (aL b)).bytes else []
theorem BN {k:Pk} (h:k.right):k.ext.length≤1000000∧k.pay.length≤1000000∧k.pad≤1000000:=by
 obtain ⟨h1,h2⟩:=h;unfold Pk.sum at h2;obtain ⟨_,_,h3,h4,h5⟩:=h1;refine ⟨by omega,by omega,by omega⟩
theorem akD {p:Pl} {k:Pk} (hn:dO p) (ho:k.ok) (h:dU p k=0):(qp p k).right∧(qp p k).ok∧behind p k=some (qp p k)∧k.right:=by
 unfold dU at h;split at h
 ·cases h
 ·rename_i hr;have hr:=Classical.not_not.1 hr;split at h
  ·rename_i hs;obtain ⟨x,hx⟩:=Option.isSome_iff_exists.1 hs;obtain ⟨_,e⟩:=zo hr hx;rw[e];exact ⟨(Jm hn ho hx).1,(Jm hn ho hx).2,hx,hr⟩
  ·cases h
theorem adX (p:Pl) (b:List UInt8) (room:Int) (hb:b.length≤1000000) (few:fq p) (num:dO p):PC Tryz.prog Rq [(cu,cK p),(aV,B b),(I64,.int room)] [(aV,B (rH p b room)),(I64,.int (ny p b room))]:=by
 apply acX rfl;simp only[Qe,aF,aC,aB,au,aD,forall_const];refine ⟨_,_,vK b hb,fun he=>?_,fun he=>?_⟩
 ·have he:aZ b≠0:=he;have e:ny p b room=aZ b:=by unfold ny;rw[if_pos he]
  unfold rH;rw[e,if_neg he];rfl
 ·have he:aZ b=0:=he;obtain ⟨kr,ko,_,_⟩:=Pk.same b he;have e0:eB b=aL b:=by unfold eB;rw[if_pos he]
  obtain ⟨l1,l2,l3⟩:=BN kr;rw[e0];refine ⟨_,_,QA p (aL b) few num ko l1 l2 l3,fun ha=>?_,fun ha=>?_⟩
  ·have ha:dU p (aL b)≠0:=ha;have e:ny p b room=dU p (aL b):=by unfold ny;rw[if_neg (fun h=>h he),if_pos ha]
   unfold rH;rw[e,if_neg ha];rfl
  ·have ha:dU p (aL b)=0:=ha;obtain ⟨xr,xo,_,_⟩:=akD num ko ha;obtain ⟨m1,m2,m3⟩:=BN xr;refine ⟨_,_,acF _ room xo m1 m2 m3,?_⟩;have e:ny p b room=oL (qp p (aL b)) room:=by unfold ny;rw[if_neg (fun h=>h he),if_neg (fun h=>h ha)]
   unfold rH C9;rw[e]
abbrev Zi:Sh:= .pair aV (.pair cu (.pair .bool (.pair I64 .unit)))
abbrev ZU (b:List UInt8) (p:Pl) (st:Bool) (room:Int):C:= .ls [B b,cK p,.bool st,.int room]
def vE (p:Pl) (b:List UInt8) (st:Bool) (room:Int):Int:=if st then fO p b else ny p b room
def xP (p:Pl) (b:List UInt8) (st:Bool) (room:Int):List UInt8:=if st then jk p b else rH p b room
theorem ajb {p:Pl} {b:List UInt8} {st:Bool} {room:Int} (h:vE p b st room≠0):xP p b st room=[]:=by
 unfold vE xP at*;cases st with
 |true=>exact if_neg h
 |false=>exact if_neg h
theorem ad6 (p:Pl) (b:List UInt8) (st:Bool) (room:Int) (hb:b.length≤1000000) (few:fq p) (num:dO p):PC Tryz.prog Rz [(Zi,ZU b p st room)] [(aV,B (xP p b st room)),(I64,.int (vE p b st room))]:=by
 apply ac5 rfl;simp only[Qm,aF,aC,aB,au,aD,forall_const];refine ⟨fun h=>?_,fun h=>?_⟩
 ·obtain rfl:st=true:=h;exact ⟨_,_,aeu p b hb few num,rfl⟩
 ·obtain rfl:st=false:=h;exact ⟨_,_,adX p b room hb few num,rfl⟩
abbrev ak3:Sh:= .pair I64 (.pair I64 (.pair aV (.pair I64 .unit)))
abbrev yh (w e:Int) (o:List UInt8):C:= .ls [.int w,.int e,B o,.int o.length]
def nW (p:Pl) (b:List UInt8) (st:Bool) (room:Int):C:=if aZ b=0 then yh 1 (vE p b st room) (xP p b st room) else yh 3 (aZ b) []
theorem GY (p:Pl) (b:List UInt8) (st:Bool) (room:Int) (hm:rV b) (hb:b.length≤1000000) (few:fq p) (num:dO p):PC Tryz.prog P6 [(Zi,ZU b p st room)] [(ak3,nW p b st room)]:=by
 apply abS rfl;simp only[Pb,aF,aC,aB,au,aD,forall_const];refine ⟨_,_,abX b hm hb,fun he=>?_,fun he=>⟨fun hw=>⟨_,_,ad6 p b st room hb few num,?_⟩,fun hw=>?_⟩⟩
 ·have he:aZ b≠0:=he;unfold nW;rw[if_neg he,if_neg he];rfl
 ·have he:aZ b=0:=he;unfold nW;rw[if_pos he,if_pos he];by_cases h:vE p b st room=0
  ·simp[h]
  ·simp[h,ajb h]
 ·exact absurd (if_pos (show aZ b=0 from he)) hw
end Go.Vc
set_option maxRecDepth 100000
namespace Go.Vc
open Go Go.Proofs Go.Plain
def AJ (p:Pl) (k:Pk):Pk:=if bR p then (match (if dP p then dW p k else some []) with|none=>Pk.zero|some l=>bJ p k l) else Pk.zero
theorem Km {p:Pl} {k:Pk} (h:¬bR p∨(if dP p then dW p k else some [])=none):AJ p k=Pk.zero∧behind p k=none:=by
 unfold AJ behind;by_cases hp:bR p
 ·rcases h with h|h
  ·exact absurd hp h
  ·rw[if_pos hp,if_pos hp,h];exact ⟨rfl,rfl⟩
 ·rw[if_neg hp,if_neg hp];exact ⟨rfl,rfl⟩
theorem Fu {p:Pl} {k:Pk} {l:List El} (hp:bR p) (h:(if dP p then dW p k else some [])=some l):AJ p k=bJ p k l∧(behind p k).isSome=decide (bJ p k l).right:=by
 unfold AJ behind;rw[if_pos hp,if_pos hp,h];refine ⟨rfl,?_⟩;simp only;by_cases hr:(bJ p k l).right
 ·simp[hr]
 ·simp[hr]
theorem akY (p:Pl) (k:Pk) (hn:dO p):
  (∀(x:Int) (y:Nat) (s:Bool),0≤x→(if s=true then x else (y:Int))=((if s=true then x.toNat else y:Nat):Int))∧(if p.np=true then (0:Int) else (k.pad:Int))=((if p.np=true then 0 else k.pad:Nat):Int):=
 ⟨fun x y s h=>by cases s<;>simp<;>omega,by cases p.np<;>rfl⟩
theorem Pj (p:Pl) (k:Pk) (few:fq p) (hal:p.adds.length≤900000) (hn:dO p) (hr:k.right) (ho:k.ok):PC Tryz.prog Nk [(cu,cK p),(gU,fP k)] [(gU,fP (AJ p k)),(.bool,.bool (behind p k).isSome)]:=by
 obtain ⟨l1,l2,l3⟩:=BN hr;have hcs:k.hd.aI.length≤1000000:=by have:=hr.1.1.2.2;omega
 have hq:=ho.2;obtain ⟨n1,n2,n3,n4,n5,n6⟩:=hn;obtain ⟨c,d⟩:=akY p k ⟨n1,n2,n3,n4,n5,n6⟩;apply aaH rfl;simp only[MO,aF,aC,aB,au,aD,forall_const,List.length_map];refine ⟨_,adn p few,_,fun _=>AL k hcs l1 l2 l3 hq,fun h=>?_,fun h=>?_⟩
 ·have hnp:¬bR p:=fun hp=>by simp[hp,hr] at h
  obtain ⟨b1,b2⟩:=Km (k:=k) (.inl hnp);rw[b1,b2];rfl
 have hp:bR p:=by
  by_cases hp:bR p
  ·exact hp
  ·simp[hp] at h
 clear h;rw[c _ _ _ n1,c _ _ _ n3,c _ _ _ n5,d];refine ⟨_,abJ p,fun ha=>?_,fun ha=>?_⟩;rotate_left
 ·have ha:¬dP p:=of_decide_eq_false ha;obtain ⟨b1,b2⟩:=Fu (k:=k) (l:=[]) hp (by rw[if_neg ha]);have hX:bJ p k []=gV p k:=by unfold bJ;rw[if_neg ha]
  rw[b1,b2,hX];exact ⟨_,AL (gV p k) hcs l1 l2 (by show (if p.np then 0 else k.pad)≤1000000;split<;>omega) hq,rfl⟩
 have ha:dP p:=of_decide_eq_true ha;have hw:∀w,gJ k=some w→w=jw k:=fun w h=>by
  unfold gJ at h;unfold jw;split at h
  ·rename_i hx;rw[if_pos hx];split at h
   ·cases h;rfl
   ·cases h
  ·rename_i hx;rw[if_neg hx];cases h;rfl
 have hwl:(jw k).length≤255:=by
  unfold jw;split
  ·exact Fj (jS k.ak k.ext).2.2
  ·simp
 refine ⟨_,_,adY k hq l1,_,_,ado p (jw k) few (by omega),fun h=>?_,fun h=>?_⟩
 ·have hno:dW p k=none:=by
   unfold dW;cases hwo:gJ k with
   |none=>rfl
   |some w=>
    obtain rfl:=hw w hwo;simp only;rw[if_neg];rintro ⟨hm,_⟩;have hread:k.hd.ext=false∨(spots k.ak k.ext).2=0:=by
     unfold gJ at hwo;cases hx:k.hd.ext with
     |false=>exact .inl rfl
     |true=>
      rw[hx,if_pos rfl] at hwo;split at hwo
      ·exact .inr (by assumption)
      ·cases hwo
    simp[hm,hread] at h
  obtain ⟨b1,b2⟩:=Km (p:=p) (k:=k) (.inr (by rw[if_pos ha];exact hno));rw[b1,b2];rfl
 obtain ⟨hread,hm⟩:(k.hd.ext=false∨(spots k.ak k.ext).2=0)∧iB p (jw k):=by
  by_cases q1:k.hd.ext=false∨(spots k.ak k.ext).2=0
  ·by_cases q2:iB p (jw k)
   ·exact ⟨q1,q2⟩
   ·simp[q1,q2] at h
  ·simp[q1] at h
 clear h;have hwo:gJ k=some (jw k):=by
  unfold gJ jw;rcases hread with h|h
  ·simp[h]
  ·cases k.hd.ext<;>simp[h]
 have hB:Aq p (jw k)=gY p (jw k):=by unfold Aq;rw[if_pos ⟨hm.1,hm.2.1⟩]
 rw[hB];have hwr:=Uu hwo;have hlr:=TR hp hwr hm.2.2;have hlf:=Fj hlr;refine ⟨fun han=>?_,fun han=>?_⟩;rotate_left
 ·have han:dJ p:=by
   unfold dJ;cases hd:p.drops with
   |cons a b=>exact .inl (by simp)
   |nil=>cases had:p.adds with
    |cons a b=>exact .inr (by simp)
    |nil=>simp[hd,had] at han
  have hl:dW p k=some (gY p (jw k)):=by
   unfold dW;rw[hwo];simp only;rw[if_pos ⟨hm,.inl han⟩]
  obtain ⟨b1,b2⟩:=Fu (k:=k) hp (by rw[if_pos ha];exact hl);rw[b1,b2];generalize gY p (jw k)=l at hlr hlf;have hX:bJ p k l= {gV p k with hd:= {gK p k.hd with ext:=decide (l≠[])},ak:=if l=[] then 0 else mI l,ext:=if l=[] then [] else nJ l}:=by
   unfold bJ;rw[if_pos ha,if_pos han]
  refine ⟨fun hc=>?_,fun hc=>?_⟩
  ·have hne:l≠[]:=fun e=>by rw[e] at hc;exact absurd hc (by decide)
   rw[decide_eq_true hne,if_neg hne,if_neg hne] at hX;rw[decide_eq_true hc];have hbl:=Tc hlr;have hrt:=AL (bJ p k l) (by rw[hX];exact hcs) (by rw[hX];show (nJ l).length≤1000000;omega) (by rw[hX];exact l2) (by rw[hX];show (if p.np then 0 else k.pad)≤1000000;split<;>omega) (by rw[hX];exact RV l);rw[hX] at hrt ⊢;exact ⟨_,O5 l (by omega),_,adp l (by omega) hlr,_,hrt,rfl⟩
  ·have he:l=[]:=List.eq_nil_of_length_eq_zero (by
    simp only[dY,List.length_map] at hc;omega)
   subst he;have hrt:=AL (bJ p k []) (by rw[hX];exact hcs) (by rw[hX];show ([]:List UInt8).length≤1000000;simp) (by rw[hX];exact l2) (by rw[hX];show (if p.np then 0 else k.pad)≤1000000;split<;>omega) (by rw[hX];show (0:Nat)<65536;omega);rw[hX] at hrt ⊢;exact ⟨_,hrt,rfl⟩
 have han:¬dJ p:=by
  rintro (h|h)
  ·exact h (List.eq_nil_of_length_eq_zero (by omega))
  ·exact h (List.eq_nil_of_length_eq_zero (by omega))
 have hx:k.hd.ext=true:=by
  cases hx:k.hd.ext with
  |true=>rfl
  |false=>
   exfalso;have:jw k=[]:=by unfold jw;rw[if_neg (by rw[hx];decide)]
   rw[this] at hm;obtain ⟨⟨m1,m2,m3⟩,_,_⟩:=hm;rcases ha with h|h|h
   ·obtain ⟨m,hm⟩:=List.exists_mem_of_ne_nil _ h;exact absurd (m1 m.fr (List.mem_map.2 ⟨m,hm,rfl⟩)) (by simp[aK])
   ·obtain ⟨m,hm⟩:=List.exists_mem_of_ne_nil _ h;exact absurd (m2 m.id (List.mem_map.2 ⟨m,hm,rfl⟩)) (by simp[aK])
   ·exact han h
 have hsp:(spots k.ak k.ext).2=0:=by
  rcases hread with h|h
  ·rw[hx] at h;cases h
  ·exact h
 have Du:jw k=iC k.ak k.ext:=by unfold jw;rw[if_pos hx]
 obtain ⟨z1,z2⟩:=af5 (p:=p) han hsp Du hm;have KI:=fun hnar=>akE (p:=p) hp han hnar hsp Du hm;have hgood:=(jS k.ak k.ext).1;have Al:=BG hsp;have hrf:=ahJ hp han hsp Du hm;have hsl:(spots k.ak k.ext).1.length≤255:=by rw[←z1];exact hlf
 rw[bC];refine ⟨by omega,_,_,He k.ak hq k.ext l1,?_⟩;generalize hS:(spots k.ak k.ext).1=S at z1 z2 hgood Al hrf hsl;generalize hL:gY p (jw k)=L at z1 z2 hlr hlf KI hrf;have hnone:k.ak=48862→∀e∈L,¬e.id≤14→dW p k=none:=fun hnar e he h=>by
  unfold dW;rw[hwo];simp only;rw[if_neg];rintro ⟨_,h2⟩;rcases h2 with h2|h2|h2
  ·exact han h2
  ·exact h2 hnar
  ·exact h ((KI hnar).2 h2 e he)
 refine VC.go_loop (fun s:Nat×List UInt8=> [.bool false,.int (s.1:Int),.bool false,.bool false,.bool false,.int 0,.int 0,.int 0,.int 0,.ls [],.int 0,.ls [],.ls [],.int 0,B s.2])
  (fun s=>s.1≤S.length∧s.2=FE (bO k) ((S.zip L).take s.1) k.ext∧s.2.length=k.ext.length∧(k.ak=48862→∀j,j<s.1→(L.getD j El.zero).id≤14)) (fun s=>S.length-s.1) (0,k.ext) rfl ⟨Nat.zero_le _,rfl,rfl,fun _ j hj=>absurd hj (Nat.not_lt_zero _)⟩ ?_
 rintro ⟨i,x⟩ ⟨i1,i2,i3,i4⟩;simp only at i1 i2 i3 i4;simp only[aF,aC,aB,au,aD,forall_const,List.length_map,bC];refine ⟨fun hc=>?_,fun hc=>?_⟩
 ·have hi1:i<S.length:=by omega
  have hi2:i<L.length:=by omega
  have hgs:=zh S i hi1;have hge:=kF L i hi2;obtain ⟨s,hse⟩:∃s,S.getD i Sp.zero=s:=⟨_,rfl⟩;obtain ⟨e,hee⟩:∃e,L.getD i El.zero=e:=⟨_,rfl⟩;rw[hse] at hgs;rw[hee] at hge;have hsm:s∈S:=by rw[←hse];simp[List.getD,hi1]
  have hem:e∈L:=by rw[←hee];simp[List.getD,hi2]
  have hz:e.data.length=s.size:=by rw[←hse,←hee];exact z2 i hi1
  have hg:=hgood s hsm;have hah:Plain.ahead (bO k)≤s.pos:=Al s hsm;have hid:=oq (rP hlr) e.id (List.mem_map.2 ⟨e,hem,rfl⟩);rw[hgs,hge];simp only[au];refine ⟨by omega,by omega,fun hn=>⟨by omega,by omega,fun h=>?_,fun h=>?_⟩,fun hn=>?_⟩
  ·have hnar:k.ak=48862:=by omega
   obtain ⟨b1,b2⟩:=Km (p:=p) (k:=k) (.inr (by rw[if_pos ha];exact hnone hnar e hem (by omega)));rw[b1,b2];rfl
  ·have hnar:k.ak=48862:=by omega
   have hnb:bO k=true:=by unfold bO;simp[hnar]
   have h14:k.ak=48862→e.id≤14:=fun _=>by omega
   have ha1:1≤s.pos:=by rw[hnb] at hah;exact hah
   obtain ⟨X1,hX1⟩:∃X1,putAt x (s.pos-1) [zA true e.id s.size]=X1:=⟨_,rfl⟩;have hl1:X1.length=x.length:=by rw[←hX1];exact qx _ _ _ (by simp;omega)
   have hset:(ofBytes x).set ((s.pos:Int)-1).toNat (C.int (IntKind.u8.wrap (16*e.id+(s.size:Int)-1)))=ofBytes X1:=by
    rw[show ((s.pos:Int)-1).toNat=s.pos-1 by omega,show 16*e.id+(s.size:Int)-1=((16*e.id.toNat+s.size-1:Nat):Int) by omega,jU,qy,vU _ _ _ (by omega),←hX1];rfl
   have hst:putAt X1 s.pos e.data=pE (bO k) x s e:=by rw[←hX1,hnb];rfl
   have al1:e.id<15:=by omega
   have hsz:s.size≤1000000:=by omega
   refine ⟨by omega,by omega,by omega,by omega,by omega,by omega,by omega,by omega,?_⟩;refine VC.go_loop (fun m:Nat=> [.int (m:Int),B (putAt X1 s.pos (e.data.take m))]) (fun m=>m≤s.size) (fun m=>s.size-m) 0 ?_ (Nat.zero_le _) fun m hm=>?_
   ·simp only[aC,aB,au,aD,forall_const];rw[hgs,hge];simp only[au];rw[List.take_zero,Vz (by omega),hset];rfl
   ·simp only[aF,aC,aB,au,aD,forall_const,bC];rw[hgs,hge];simp only[au];rw[show ((ofBytes e.data).length)=s.size by rw[bC];exact hz];refine ⟨fun hmc=>?_,fun hmc=>?_⟩
    ·have hm1:m<e.data.length:=by omega
     have g1:((s.pos:Int)+m).toNat=s.pos+m:=by omega
     have g2:(ofBytes e.data).getD ((m:Int)).toNat default=C.int ((e.data.getD m 0).toNat:Int):=by
      rw[Int.toNat_natCast];have:=jg e.data m;simp only[ofBytes,List.getD,List.getElem?_map,hm1,List.getElem?_eq_getElem,Option.map_some,Option.getD_some]
     rw[g1,g2,qy];have g3:=Vy (b:=X1) (a:=e.data.take m) (k:=s.pos) (e.data.getD m 0) (by rw[List.length_take];omega);have g4:(e.data.take m).length=m:=by rw[List.length_take];omega
     have g5:e.data.take (m+1)=e.data.take m++ [e.data.getD m 0]:=by rw[List.take_succ_eq_append_getElem hm1];simp[List.getD,hm1]
     rw[g4] at g3;rw[g3,←g5];have hml:(L.map fV).length=L.length:=by simp
     refine ⟨by omega,by omega,by omega,by omega,by omega,by omega,by omega,by omega,m+1,by simp,by omega,by omega⟩
    ·have:m=s.size:=by omega
     subst this;rw[List.take_of_length_le (by omega)];refine ⟨by omega,(i+1,putAt X1 s.pos e.data),by simp,⟨by simp only;omega,?_,?_,fun hh j hj=>?_⟩,by simp only;omega⟩
     ·simp only;rw[Si _ _ _ _ _ hi1 hi2,←i2,hse,hee,←hst]
     ·simp only;rw[hst,TI hah (by omega) hz,i3]
     ·by_cases hji:j=i
      ·subst hji;rw[hee];exact h14 hh
      ·exact i4 hh j (by simp only at hj;omega)
  ·have hnar:¬k.ak=48862:=by omega
   have hnb:bO k=false:=by unfold bO;simp[hnar]
   have h14:k.ak=48862→e.id≤14:=fun h=>absurd h hnar;have ha1:2≤s.pos:=by rw[hnb] at hah;exact hah
   obtain ⟨X1,hX1⟩:∃X1,putAt x (s.pos-2) [zA false e.id s.size]=X1:=⟨_,rfl⟩;have hl1:X1.length=x.length:=by rw[←hX1];exact qx _ _ _ (by simp;omega)
   have hset:(ofBytes x).set ((s.pos:Int)-2).toNat (C.int (IntKind.u8.wrap e.id))=ofBytes X1:=by
    rw[show ((s.pos:Int)-2).toNat=s.pos-2 by omega,show e.id=((e.id.toNat:Nat):Int) by omega,jU,qy,vU _ _ _ (by omega),←hX1];rfl
   have hst:putAt X1 s.pos e.data=pE (bO k) x s e:=by rw[←hX1,hnb];rfl
   have hsz:s.size≤1000000:=by omega
   refine ⟨by omega,by omega,by omega,by omega,by omega,?_⟩;refine VC.go_loop (fun m:Nat=> [.int (m:Int),B (putAt X1 s.pos (e.data.take m))]) (fun m=>m≤s.size) (fun m=>s.size-m) 0 ?_ (Nat.zero_le _) fun m hm=>?_
   ·simp only[aC,aB,au,aD,forall_const];rw[hgs,hge];simp only[au];rw[List.take_zero,Vz (by omega),hset];rfl
   ·simp only[aF,aC,aB,au,aD,forall_const,bC];rw[hgs,hge];simp only[au];rw[show ((ofBytes e.data).length)=s.size by rw[bC];exact hz];refine ⟨fun hmc=>?_,fun hmc=>?_⟩
    ·have hm1:m<e.data.length:=by omega
     have g1:((s.pos:Int)+m).toNat=s.pos+m:=by omega
     have g2:(ofBytes e.data).getD ((m:Int)).toNat default=C.int ((e.data.getD m 0).toNat:Int):=by
      rw[Int.toNat_natCast];have:=jg e.data m;simp only[ofBytes,List.getD,List.getElem?_map,hm1,List.getElem?_eq_getElem,Option.map_some,Option.getD_some]
     rw[g1,g2,qy];have g3:=Vy (b:=X1) (a:=e.data.take m) (k:=s.pos) (e.data.getD m 0) (by rw[List.length_take];omega);have g4:(e.data.take m).length=m:=by rw[List.length_take];omega
     have g5:e.data.take (m+1)=e.data.take m++ [e.data.getD m 0]:=by rw[List.take_succ_eq_append_getElem hm1];simp[List.getD,hm1]
     rw[g4] at g3;rw[g3,←g5];have hml:(L.map fV).length=L.length:=by simp
     refine ⟨by omega,by omega,by omega,by omega,by omega,by omega,by omega,by omega,m+1,by simp,by omega,by omega⟩
    ·have:m=s.size:=by omega
     subst this;rw[List.take_of_length_le (by omega)];refine ⟨by omega,(i+1,putAt X1 s.pos e.data),by simp,⟨by simp only;omega,?_,?_,fun hh j hj=>?_⟩,by simp only;omega⟩
     ·simp only;rw[Si _ _ _ _ _ hi1 hi2,←i2,hse,hee,←hst]
     ·simp only;rw[hst,TI hah (by omega) hz,i3]
     ·by_cases hji:j=i
      ·subst hji;rw[hee];exact h14 hh
      ·exact i4 hh j (by simp only at hj;omega)
 ·have hi1:i=S.length:=by omega
  subst hi1;have hzl:(S.zip L).length=S.length:=by rw[List.length_zip];omega
  rw[List.take_of_length_le (by omega)] at i2;have h14:k.ak≠48862∨∀m∈p.maps,m.to≤14:=by
   by_cases hnar:k.ak=48862
   ·refine .inr ((KI hnar).1 fun e he=>?_);obtain ⟨j,hj,rfl⟩:=List.mem_iff_getElem.1 he;have:=i4 hnar j (by omega);simpa [List.getD,hj] using this
   ·exact .inl hnar
  obtain ⟨r1,r2,_⟩:=hrf h14;have hxe:x=ig p k:=by rw[i2,←r1];rfl
  have hl:dW p k=some L:=by
   unfold dW;rw[hwo];simp only;rw[if_pos ⟨hm,.inr h14⟩,hL]
  obtain ⟨b1,b2⟩:=Fu (k:=k) hp (by rw[if_pos ha];exact hl);have hX:bJ p k L= {gV p k with ext:=ig p k}:=by
   unfold bJ;rw[if_pos ha,if_neg han]
  have hrt:=AL (bJ p k L) (by rw[hX];exact hcs) (by rw[hX];show (ig p k).length≤1000000;omega) (by rw[hX];exact l2) (by rw[hX];show (if p.np then 0 else k.pad)≤1000000;split<;>omega) (by rw[hX];exact hq);rw[b1,b2];rw[hX] at hrt ⊢;rw[hxe,c _ _ _ n1,c _ _ _ n3,c _ _ _ n5,d];exact ⟨_,hrt,rfl⟩
end Go.Vc
set_option maxRecDepth 100000
namespace Go.Vc
open Go Go.Proofs Go.Plain
theorem XR {p:Pl} {b:List UInt8} (he:aZ b=0):fO p b=if (behind p (aL b)).isSome=true∧fA p then 0 else 9:=by
 have hr:=(Pk.same b he).1;have ha:dU p (aL b)=if (behind p (aL b)).isSome then 0 else 9:=by unfold dU;rw[if_neg (fun h=>h hr)]
 unfold fO;rw[if_neg (fun h=>h he),ha];cases (behind p (aL b)).isSome<;>by_cases hk:fA p<;>simp[hk]
theorem adk (p:Pl) (b:List UInt8) (few:fq p) (hal:p.adds.length≤900000) (num:dO p) (hb:b.length≤1000000):PC Tryz.prog NK [(cu,cK p),(aV,B b)] [(gU,fP (eB b)),(I64,.int (fO p b))]:=by
 apply aaJ rfl;simp only[MU,aF,aC,aB,au,aD,forall_const];refine ⟨_,_,AQ b hb,fun he=>?_,fun he=>?_⟩
 ·have he:aZ b≠0:=he;have:fO p b=aZ b:=by unfold fO;rw[if_pos he]
  rw[this];rfl
 ·have he:aZ b=0:=he;obtain ⟨kr,ko,_,_⟩:=Pk.same b he;have e0:eB b=aL b:=by unfold eB;rw[if_pos he]
  rw[e0,XR he];refine ⟨_,_,Pj p (aL b) few hal num kr ko,_,fun _=>PL p,fun h=>?_,fun h=>?_⟩
  ·rw[if_neg]
   ·rfl
   ·rintro ⟨h1,h2⟩;simp[h1,h2] at h
  ·rw[if_pos]
   ·rfl
   ·cases h1:(behind p (aL b)).isSome<;>by_cases h2:fA p<;>simp[h1,h2] at h ⊢
def qV (p:Pl):List bI:=(if p.sm=true∨p.st=true then [⟨2,1,1⟩] else [])++(if p.sq then [⟨3,2,2⟩] else [])++(if p.aY then [⟨4,4,4⟩] else [])++(if p.ss then [⟨5,8,4⟩] else [])
def vg (p:Pl) (aj:Bool) (fr:Nat) (s:Sp):List bI:=(p.maps.filter fun m=>decide (m.fr=(s.id:Int))).map fun _=>⟨9,fr+s.pos-Plain.ahead aj,1⟩
def C8 (p:Pl) (fr:Nat) (s:Sp):List bI:=(p.over.filter fun e=>decide (e.id=(s.id:Int)∧0<s.size)).map fun _=>⟨9,fr+s.pos,s.size⟩
def oJ (p:Pl) (aj:Bool) (fr:Nat) (s:Sp):List bI:=vg p aj fr s++C8 p fr s
def oK (p:Pl) (k:Pk):List bI:=qV p++(if k.hd.ext then (spots k.ak k.ext).1.flatMap (oJ p (bO k) (fT k)) else [])
theorem JF {α β:Type} (g:α→List β) (n:Nat):∀l:List α,(∀a∈l,(g a).length≤n)→(l.flatMap g).length≤l.length*n
 | [],_=>by simp
 |a::l,h=>by
  have h1:=h a (by simp);have h2:=JF g n l fun x hx=>h x (by simp[hx]);rw[List.flatMap_cons,List.length_append,List.length_cons,Nat.add_mul];omega
theorem aeS {p:Pl} {k:Pk} (hs:(behind p k).isSome=true) (hx:k.hd.ext=true):∀s∈(spots k.ak k.ext).1,Plain.ahead (bO k)≤s.pos:=by
 by_cases h:(spots k.ak k.ext).2=0
 ·exact BG h
 ·rcases (jS k.ak k.ext).2.1 with h2|h2
  ·exact absurd h2 h
  ·rw[h2.1];simp
theorem acD (p:Pl) (b:List UInt8) (few:fq p) (hsh:p.maps.length≤1000∧p.over.length≤1000) (hal:p.adds.length≤900000) (num:dO p) (hb:b.length≤1000000) (hE:fO p b=0):PC Tryz.prog Nj [(cu,cK p),(aV,B b)] [(.sl ng,jl (oK p (aL b))),(I64,.int 0)]:=by
 obtain ⟨he,hk,hs⟩:=FD hE;obtain ⟨kr,ko,_,_⟩:=Pk.same b he;have e0:eB b=aL b:=by unfold eB;rw[if_pos he]
 have ZK:=adk p b few hal num hb;rw[hE,e0] at ZK;generalize hkk:aL b=k at*;obtain ⟨l1,l2,l3⟩:=BN kr;have hcs:k.hd.aI.length≤15:=by have:=kr.1.1.2.2;omega
 apply aaG rfl;simp only[MN,aF,aC,aB,au,aD,forall_const,List.length_map];refine ⟨_,_,ZK,fun h=>absurd rfl h,fun _=>?_⟩;obtain ⟨A1,hA1⟩:∃A:List bI,(if p.sm=true∨p.st=true then [⟨2,1,1⟩] else [])=A:=⟨_,rfl⟩;obtain ⟨A2,hA2⟩:∃A:List bI,A1++(if p.sq then [⟨3,2,2⟩] else [])=A:=⟨_,rfl⟩;obtain ⟨A3,hA3⟩:∃A:List bI,A2++(if p.aY then [⟨4,4,4⟩] else [])=A:=⟨_,rfl⟩;obtain ⟨A4,GJ⟩:∃A:List bI,A3++(if p.ss then [⟨5,8,4⟩] else [])=A:=⟨_,rfl⟩;have q1:A1.length≤1:=by rw[←hA1];split<;>simp
 have q2:A2.length≤2:=by rw[←hA2,List.length_append];split<;>simp<;>omega
 have q3:A3.length≤3:=by rw[←hA3,List.length_append];split<;>simp<;>omega
 have q4:A4.length≤4:=by rw[←GJ,List.length_append];split<;>simp<;>omega
 have hF:qV p=A4:=by unfold qV;rw[hA1,hA2,hA3,GJ]
 refine VC.go_meet [jl A1] ?_ ?_
 ·simp only[aF,aC,aB,au,aD,forall_const];refine ⟨fun h=>⟨by decide,?_⟩,fun h=>?_⟩
  ·rw[←hA1,if_pos h];rfl
  ·rw[←hA1,if_neg (by simpa using h)];rfl
 refine VC.go_meet [jl A2] ?_ ?_
 ·simp only[aF,aC,aB,au,aD,forall_const,List.length_map,List.length_singleton];refine ⟨fun h=>⟨by omega,?_⟩,fun h=>?_⟩
  ·have h:p.sq=true:=h;rw[←hA2,if_pos h];simp
  ·have h:p.sq=false:=h;rw[←hA2,h];simp
 refine VC.go_meet [jl A3] ?_ ?_
 ·simp only[aF,aC,aB,au,aD,forall_const,List.length_map,List.length_singleton];refine ⟨fun h=>⟨by omega,?_⟩,fun h=>?_⟩
  ·have h:p.aY=true:=h;rw[←hA3,if_pos h];simp
  ·have h:p.aY=false:=h;rw[←hA3,h];simp
 refine VC.go_meet [jl A4] ?_ ?_
 ·simp only[aF,aC,aB,au,aD,forall_const,List.length_map,List.length_singleton];refine ⟨fun h=>⟨by omega,?_⟩,fun h=>?_⟩
  ·have h:p.ss=true:=h;rw[←GJ,if_pos h];simp
  ·have h:p.ss=false:=h;rw[←GJ,h];simp
 simp only[aF,aC,aB,au,aD,forall_const,List.length_map];refine ⟨fun hx=>?_,fun hx=>?_⟩
 ·have hx:k.hd.ext=false:=hx;unfold oK;rw[hx,hF];simp
 have hx:k.hd.ext=true:=hx;have hO:oK p k=A4++(spots k.ak k.ext).1.flatMap (oJ p (bO k) (fT k)):=by unfold oK;rw[hF,if_pos hx]
 have hsp:=aeS hs hx;have hgood:=(jS k.ak k.ext).1;have hcnt:=Fj (jS k.ak k.ext).2.2;have hsl:(spots k.ak k.ext).1.length≤255:=by simpa [iC] using hcnt
 refine ⟨by omega,by omega,by omega,_,_,He k.ak ko.2 k.ext l1,?_⟩;rw[hO];have Al:k.ext≠[]→∀s∈(spots k.ak k.ext).1,Plain.ahead (bO k)≤s.pos:=fun _=>hsp;replace Al:=hsp;generalize (spots k.ak k.ext).1=S at hgood hsl Al;have hgl:∀s,(oJ p (bO k) (fT k) s).length≤2000:=fun s=>by
  unfold oJ vg C8;rw[List.length_append,List.length_map,List.length_map];have h1:=List.length_filter_le (fun m:Mp=>decide (m.fr=(s.id:Int))) p.maps;have h2:=List.length_filter_le (fun e:El=>decide (e.id=(s.id:Int)∧0<s.size)) p.over;omega
 have hacc:∀i,i≤S.length→(A4++(S.take i).flatMap (oJ p (bO k) (fT k))).length≤600000:=fun i hi=>by
  have h1:=JF (oJ p (bO k) (fT k)) 2000 (S.take i) fun s _=>hgl s;have h2:(S.take i).length≤255:=by rw[List.length_take];omega
  rw[List.length_append];have h3:(S.take i).length*2000≤255*2000:=Nat.mul_le_mul_right _ h2;omega
 have hfr:fT k=12+4*k.hd.aI.length+4:=rfl;have hback:(if (k.ak:Int)=48862 then (1:Int) else 2)=(Plain.ahead (bO k):Int):=by
  unfold bO;by_cases h:k.ak=48862
  ·rw[if_pos (by omega)];simp[h,Plain.ahead]
  ·rw[if_neg (by omega)];simp[h,Plain.ahead]
 refine VC.go_loop (fun i:Nat=> [jl (A4++(S.take i).flatMap (oJ p (bO k) (fT k))),.int (i:Int)]) (fun i=>i≤S.length) (fun i=>S.length-i) 0 (by simp[E.eval]) (Nat.zero_le _) fun i hi=>?_;simp only[aF,aC,aB,au,aD,forall_const,List.length_map];refine ⟨fun hc=>?_,fun hc=>?_⟩;rotate_left
 ·rw[List.take_of_length_le (by omega)]
 have hi1:i<S.length:=by omega
 have hgs:=zh S i hi1;obtain ⟨s,hse⟩:∃s,S.getD i Sp.zero=s:=⟨_,rfl⟩;rw[hse] at hgs;have hsm:s∈S:=by rw[←hse];simp[List.getD,hi1]
 have hg:=hgood s hsm;have hah:=Al s hsm;have htk:S.take (i+1)=S.take i++ [s]:=by rw[List.take_succ_eq_append_getElem hi1];simp[←hse,List.getD,hi1]
 have hac:=hacc i hi;have ZO:=hacc (i+1) (by omega);rw[htk,List.flatMap_append,List.flatMap_singleton,←List.append_assoc] at ZO;generalize hAc:A4++(S.take i).flatMap (oJ p (bO k) (fT k))=acc at hac ZO;refine VC.go_loop (fun m:Nat=> [jl (acc++((p.maps.take m).filter fun m=>decide (m.fr=(s.id:Int))).map fun _=>⟨9,fT k+s.pos-Plain.ahead (bO k),1⟩),.int (m:Int)]) (fun m=>m≤p.maps.length) (fun m=>p.maps.length-m) 0 (by simp[E.eval]) (Nat.zero_le _) fun m hm=>?_;have hml:((p.maps.take m).filter fun m=>decide (m.fr=(s.id:Int))).length≤1000:=by
  have h1:=List.length_filter_le (fun m:Mp=>decide (m.fr=(s.id:Int))) (p.maps.take m);have h2:(p.maps.take m).length≤p.maps.length:=by rw[List.length_take];omega
  omega
 simp only[aF,aC,aB,au,aD,forall_const,List.length_map];rw[hgs];simp only[au];rw[hback];refine ⟨fun hmc=>?_,fun hmc=>?_⟩
 ·have hm1:m<p.maps.length:=by omega
  rw[Int.toNat_natCast,qF p.maps m hm1];obtain ⟨mp,hmp⟩:∃x,p.maps.getD m Mp.zero=x:=⟨_,rfl⟩;have hmt:p.maps.take (m+1)=p.maps.take m++ [mp]:=by rw[List.take_succ_eq_append_getElem hm1];simp[←hmp,List.getD,hm1]
  rw[hmp];simp only[au,List.length_append,List.length_map,List.length_singleton];refine ⟨by omega,by omega,by omega,by omega,fun h=>?_,fun h=>?_⟩
  ·refine ⟨by omega,by omega,by omega,by omega,by omega,by omega,m+1,?_,by omega,by omega⟩;rw[hmt,List.filter_append,List.map_append];have h0:decide (mp.fr=(s.id:Int))=true:=decide_eq_true h;have h5:((fT k+s.pos-Plain.ahead (bO k):Nat):Int)=12+4*(k.hd.aI.length:Int)+4+s.pos-(Plain.ahead (bO k):Int):=by omega
   simp[h0,h5]
  ·refine ⟨by omega,m+1,?_,by omega,by omega⟩;rw[hmt,List.filter_append,List.map_append];have h0:decide (mp.fr=(s.id:Int))=false:=decide_eq_false h;simp[h0]
 ·rw[List.take_of_length_le (show p.maps.length≤m by omega)] at hml ⊢;refine VC.go_loop (fun m:Nat=> [jl (acc++vg p (bO k) (fT k) s++((p.over.take m).filter fun e=>decide (e.id=(s.id:Int)∧0<s.size)).map fun _=>⟨9,fT k+s.pos,s.size⟩),.int (m:Int)]) (fun m=>m≤p.over.length) (fun m=>p.over.length-m) 0 (by simp[E.eval,vg]) (Nat.zero_le _) fun v hv=>?_;have hvl:((p.over.take v).filter fun e=>decide (e.id=(s.id:Int)∧0<s.size)).length≤1000:=by
   have h1:=List.length_filter_le (fun e:El=>decide (e.id=(s.id:Int)∧0<s.size)) (p.over.take v);have h2:(p.over.take v).length≤p.over.length:=by rw[List.length_take];omega
   omega
  have hMl:(vg p (bO k) (fT k) s).length≤1000:=by unfold vg;rw[List.length_map];exact hml
  simp only[aF,aC,aB,au,aD,forall_const,List.length_map];rw[hgs];simp only[au];refine ⟨fun fI=>?_,fun fI=>?_⟩
  ·have hv1:v<p.over.length:=by omega
   have hgo:=kF p.over v hv1;obtain ⟨e,hee⟩:∃x,p.over.getD v El.zero=x:=⟨_,rfl⟩;have hmt:p.over.take (v+1)=p.over.take v++ [e]:=by rw[List.take_succ_eq_append_getElem hv1];simp[←hee,List.getD,hv1]
   rw[hgo,hee];simp only[au,List.length_append,List.length_map,List.length_singleton];refine ⟨by omega,by omega,by omega,by omega,fun _=>by omega,fun _=>by omega,fun h=>?_,fun h=>?_⟩
   ·refine ⟨by omega,by omega,by omega,by omega,by omega,by omega,by omega,v+1,?_,by omega,by omega⟩;rw[hmt,List.filter_append,List.map_append];have h0:decide (e.id=(s.id:Int)∧0<s.size)=true:=decide_eq_true ⟨h.1,by have:=h.2;omega⟩;have h5:((fT k+s.pos:Nat):Int)=12+4*(k.hd.aI.length:Int)+4+s.pos:=by omega
    have hf:List.filter (fun e:El=>decide (e.id=(s.id:Int)∧0<s.size)) [e]=[e]:=by simp only[List.filter,h0]
    rw[hf];simp[h5]
   ·refine ⟨by omega,v+1,?_,by omega,by omega⟩;rw[hmt,List.filter_append,List.map_append];have h0:decide (e.id=(s.id:Int)∧0<s.size)=false:=decide_eq_false (fun h1=>by omega);have hf:List.filter (fun e:El=>decide (e.id=(s.id:Int)∧0<s.size)) [e]=[]:=by simp only[List.filter,h0]
    rw[hf];simp
  ·rw[List.take_of_length_le (show p.over.length≤v by omega)];refine ⟨by omega,i+1,?_,by omega,by omega⟩;rw[htk,List.flatMap_append,List.flatMap_singleton,←List.append_assoc,hAc];unfold oJ C8;simp
end Go.Vc
set_option maxRecDepth 100000
namespace Go.Vc
open Go Go.Proofs Go.Plain
theorem akF:uy sI [115,101,113,32,53,32,109,97,112,32,51,32,52,32,111,118,101,114,32,51,32,34,120,34]=some pW:=by
 decide+kernel
theorem Vt:fO pW bW=0∧jk pW bW=oW:=by
 have h:fO pW bW=0:=ahz Gc.1 keepW.1 (by rw[Gc.2];exact keepW.2) (by rw[Gc.2];exact ak0);refine ⟨h,?_⟩;unfold jk;rw[if_pos h,Gc.2];exact aki
theorem ajS {p:Pl} {b:List UInt8} {room:Int} (h:fO p b=0):nW p b true room=yh 1 0 (jk p b):=by
 unfold nW vE xP;rw[if_pos (FD h).1,if_pos rfl,if_pos rfl,h]
theorem ahK:PC Tryz.prog OH [] [(.bool,.bool true)]:=by
 apply abk rfl;have u:=aew [115,101,113,32,53,32,109,97,112,32,51,32,52,32,111,118,101,114,32,51,32,34,120,34] (by decide);rw[akF] at u;have v:=GY pW bW true 0 (by decide) (by decide) (by unfold fq;decide) (by decide);rw[ajS Vt.1,Vt.2] at v;have r:=vK oW (by decide);rw[show eB oW=xW by unfold eB;rw[if_pos Lg.1,Lg.2],Lg.1] at r;have t:=Rh 48862 (by decide) [64,120,0,0] (by decide);rw[elW.1,elW.2] at t;simp only[Oc,aF,aC,aB,au,aD,forall_const];refine ⟨_,_,u,_,v,_,_,r,_,_,t,fun _=>by decide,fun _=>by decide,?_⟩;refine congrArg (fun x=> [(Sh.bool,C.bool x)]) ?_;decide+kernel
end Go.Vc
set_option maxRecDepth 100000
namespace Go.Vc
open Go Go.Proofs Go.Plain
theorem agr {x:Pk} (hr:x.right) (ho:x.ok):aZ x.bytes=0∧aL x.bytes=x:=by
 have hp:x.pad≤255:=by
  have h:=hr.1.2.2.2.2;split at h<;>omega
 obtain ⟨h1,h2,_⟩:=Pk.back x hr ho (trail x.pad) (Jw hp);exact ⟨h1,h2⟩
theorem ae3 {p:Pl} {k:Pk} {n:Nat} (hok:∀s∈strokes p k,zN p (bO k) n s):∀s∈strokes p k,∃q∈oK p k,q.p=s.pos∧q.s=s.size:=by
 intro s hs;have h:=(hok s hs).1;unfold strokes at hs;unfold oK;rcases List.mem_append.1 hs with hs|hs
 ·unfold j5 at hs;simp only[List.mem_append] at hs;rcases hs with hs|hs|hs|hs
  ·split at hs
   ·rename_i hc;obtain rfl:=List.mem_singleton.1 hs;exact ⟨⟨2,1,1⟩,List.mem_append.2 (.inl (by unfold qV;simp[hc])),rfl,rfl⟩
   ·cases hs
  ·split at hs
   ·rename_i hc;obtain rfl:=List.mem_singleton.1 hs;exact ⟨⟨3,2,2⟩,List.mem_append.2 (.inl (by unfold qV;simp[hc])),rfl,rfl⟩
   ·cases hs
  ·split at hs
   ·rename_i hc;obtain rfl:=List.mem_singleton.1 hs;exact ⟨⟨4,4,4⟩,List.mem_append.2 (.inl (by unfold qV;simp[hc])),rfl,rfl⟩
   ·cases hs
  ·split at hs
   ·rename_i hc;obtain rfl:=List.mem_singleton.1 hs;exact ⟨⟨5,8,4⟩,List.mem_append.2 (.inl (by unfold qV;simp[hc])),rfl,rfl⟩
   ·cases hs
 ·unfold oG at hs;split at hs
  ·rename_i hx;obtain ⟨sp,hsp,hs⟩:=List.mem_flatMap.1 hs;unfold gD at hs;rw[if_pos hx];rcases List.mem_append.1 hs with hs|hs
   ·obtain ⟨m,hm,rfl⟩:=List.mem_map.1 hs;exact ⟨⟨9,fT k+sp.pos-Plain.ahead (bO k),1⟩,List.mem_append.2 (.inr (List.mem_flatMap.2 ⟨sp,hsp,List.mem_append.2 (.inl (List.mem_map.2 ⟨m,hm,rfl⟩))⟩)),rfl,rfl⟩
   ·obtain ⟨e,he,rfl⟩:=List.mem_map.1 hs;obtain ⟨he1,he2⟩:=List.mem_filter.1 he;simp only[ne_eq,decide_eq_true_eq] at he2;have h:=h [];simp only[Dr.draw] at h;have hl:0<e.data.length:=List.length_pos_iff.2 he2.2;refine ⟨⟨9,fT k+sp.pos,sp.size⟩,List.mem_append.2 (.inr (List.mem_flatMap.2 ⟨sp,hsp,List.mem_append.2 (.inr (List.mem_map.2 ⟨e,List.mem_filter.2 ⟨he1,?_⟩,rfl⟩))⟩)),rfl,rfl⟩;simp only[decide_eq_true_eq];have h2:e.data.length=sp.size:=h;exact ⟨he2.1,by omega⟩
  ·cases hs
theorem agF {p:Pl} {b:List UInt8} (hE:fO p b=0):(jk p b).length=b.length∧∀i,(∀q∈oK p (aL b),¬(q.p≤i∧i<q.p+q.s))→at_ (jk p b) i=at_ b i:=by
 obtain ⟨he,hk,hs⟩:=FD hE;obtain ⟨y,hy⟩:=Option.isSome_iff_exists.1 hs;have hok:=Tw hk hy b.length (XP he);unfold jk;rw[if_pos hE];obtain ⟨h1,h2⟩:=EF _ b hok;refine ⟨h1,fun i hi=>h2 i fun s hs=>?_⟩;obtain ⟨q,hq,e1,e2⟩:=ae3 hok s hs;have:=hi q hq;rw[e1,e2] at this;omega
theorem ahH {p:Pl} {k:Pk} (hsh:p.maps.length≤1000∧p.over.length≤1000):(oK p k).length≤600000:=by
 have hcnt:=Fj (jS k.ak k.ext).2.2;have hsl:(spots k.ak k.ext).1.length≤255:=by simpa [iC] using hcnt
 unfold oK;rw[List.length_append];have h1:(qV p).length≤4:=by
  unfold qV;simp only[List.length_append];have a1:(if p.sm=true∨p.st=true then [(⟨2,1,1⟩:bI)] else []).length≤1:=by split<;>simp
  have a2:(if p.sq=true then [(⟨3,2,2⟩:bI)] else []).length≤1:=by split<;>simp
  have a3:(if p.aY=true then [(⟨4,4,4⟩:bI)] else []).length≤1:=by split<;>simp
  have a4:(if p.ss=true then [(⟨5,8,4⟩:bI)] else []).length≤1:=by split<;>simp
  omega
 split
 ·have h2:=JF (oJ p (bO k) (fT k)) 2000 (spots k.ak k.ext).1 fun s _=>by
   unfold oJ vg C8;rw[List.length_append,List.length_map,List.length_map];have h1:=List.length_filter_le (fun m:Mp=>decide (m.fr=(s.id:Int))) p.maps;have h2:=List.length_filter_le (fun e:El=>decide (e.id=(s.id:Int)∧0<s.size)) p.over;omega
  have h3:(spots k.ak k.ext).1.length*2000≤255*2000:=Nat.mul_le_mul_right _ hsl;omega
 ·simp;omega
theorem agL {p:Pl} {k:Pk} (hr:k.right):∀q∈oK p k,q.p+q.s≤3000000:=by
 intro q hq;obtain ⟨l1,_,_⟩:=BN hr;have hcs:k.hd.aI.length≤15:=by have:=hr.1.1.2.2;omega
 have hfr:fT k=12+4*k.hd.aI.length+4:=rfl;unfold oK at hq;rcases List.mem_append.1 hq with h|h
 ·unfold qV at h;simp only[List.mem_append] at h;rcases h with ((h|h)|h)|h;all_goals
   split at h
   ·rw[List.mem_singleton.1 h];simp
   ·cases h
 ·split at h
  ·obtain ⟨s,hs,h⟩:=List.mem_flatMap.1 h;have hg:=(jS k.ak k.ext).1 s hs;unfold oJ vg C8 at h;rcases List.mem_append.1 h with h|h
   ·obtain ⟨_,_,rfl⟩:=List.mem_map.1 h;simp only;omega
   ·obtain ⟨_,_,rfl⟩:=List.mem_map.1 h;simp only;omega
  ·cases h
theorem aiX {p:Pl} {b:List UInt8} (he:aZ b=0):nW p b false 65535=yh 1 (ny p b 65535) (rH p b 65535):=by
 unfold nW vE xP;rw[if_pos he];rfl
theorem ajT {p:Pl} {b:List UInt8} (he:aZ b=0):nW p b true 0=yh 1 (fO p b) (jk p b):=by
 unfold nW vE xP;rw[if_pos he];rfl
theorem acK (cs:List C) (h:CW [aV,cu] cs):PC Tryz.prog MH ([aV,cu].zip cs) [(.bool,.bool true)]:=by
 obtain ⟨_,_,rfl,h1,_,_,rfl,h2,rfl⟩:=h;obtain ⟨b,rfl⟩:=Vn h1;obtain ⟨p,rfl,hn,o1,o2⟩:=akh h2;apply aay rfl;simp only[ME,aF,aC,aB,au,aD,forall_const,bC];refine ⟨_,ahK,fun h=>by simp at h,fun _=>⟨_,fun _=>adl p o1 o2,_,fun _=>adZ b,fun _=>trivial,fun hc=>?_⟩⟩;obtain ⟨hl,hsh,hm⟩:b.length≤65536∧uw p∧rV b:=by
  by_cases q1:uw p<;>by_cases q3:rV b<;>simp[q1,aeW,q3] at hc ⊢
  ·omega
  all_goals
   exfalso;split at hc<;>simp at hc
 have hb:b.length≤1000000:=by omega
 have few:=akZ hsh;obtain ⟨w1,w2,w3,w4,_⟩:=Sm hsh;have Gx:=GY p b true 0 hm hb few hn;have F9:=GY p b false 65535 hm hb few hn;clear hc;by_cases he:aZ b=0
 rotate_left
 ·have e1:nW p b true 0=yh 3 (aZ b) []:=by unfold nW;rw[if_neg he]
  have e2:nW p b false 65535=yh 3 (aZ b) []:=by unfold nW;rw[if_neg he]
  rw[e1] at Gx;rw[e2] at F9;refine ⟨by omega,_,Gx,_,F9,_,_,AQ b hb,fun _=>by simp[he],fun h=>?_⟩;exfalso;simp[he] at h
 obtain ⟨kr,ko,_,_⟩:=Pk.same b he;have e0:eB b=aL b:=by unfold eB;rw[if_pos he]
 have hrd:=AQ b hb;rw[e0,he] at hrd;rw[ajT he] at Gx;rw[aiX he] at F9;have Ll:=XR (p:=p) he;refine ⟨by omega,_,Gx,_,F9,_,_,hrd,fun h=>by simp at h,fun _=>⟨_,_,Pj p (aL b) few (by omega) hn kr ko,fun h=>?_,fun h=>?_⟩⟩
 ·have h:(behind p (aL b)).isSome=false:=h;have hno:behind p (aL b)=none:=by cases hh:behind p (aL b) with|none=>rfl|some x=>rw[hh] at h;cases h
  have e1:fO p b=9:=by rw[Ll,if_neg (by simp[h])]
  have e2:ny p b 65535=9:=by
   unfold ny;rw[if_neg (fun h=>h he),wM kr hno,if_pos (by decide)]
  have e3:jk p b=[]:=by unfold jk;rw[if_neg (by rw[e1];decide)]
  have e4:rH p b 65535=[]:=by unfold rH;rw[if_neg (by rw[e2];decide)]
  simp[e1,e2,e3,e4]
 have h:(behind p (aL b)).isSome=true:=h;obtain ⟨x,hx⟩:=Option.isSome_iff_exists.1 h;obtain ⟨xr,xo⟩:=Jm hn ko hx;obtain ⟨g1,g2⟩:=zo kr hx;have e2:ny p b 65535=0:=by
  unfold ny;rw[if_neg (fun h=>h he),if_neg (fun h=>h g1),g2];unfold oL;rw[if_neg (fun h=>h xr),if_neg (by have:=xr.2;omega)]
 have e4:rH p b 65535=x.bytes:=by unfold rH;rw[if_pos e2,g2]
 obtain ⟨y1,y2⟩:=agr xr xo;have hxb:x.bytes.length≤65535:=by
  have hp:x.pad≤255:=by
   have h:=xr.1.2.2.2.2;split at h<;>omega
  unfold Pk.bytes;rw[yC _ _ (Jw hp).1];exact xr.2
 have hbx:AJ p (aL b)=x:=by
  obtain ⟨hpr,l,hl,rfl,_⟩:=tL hx;have hl2:(if dP p then dW p (aL b) else some [])=some l:=by
   by_cases ha:dP p
   ·rw[if_pos ha] at hl ⊢;exact hl
   ·rw[if_neg ha] at hl ⊢;rw[hl]
  exact (Fu hpr hl2).1
 have Zy:=vK x.bytes (by omega);rw[show eB x.bytes=x by unfold eB;rw[if_pos y1,y2],y1] at Zy;have hcan:=PO x.bytes (by omega);rw[decide_eq_true (show aZ x.bytes=0∧(aL x.bytes).bytes=x.bytes from ⟨y1,by rw[y2]⟩)] at hcan;have hxc:x.hd.aI.length≤1000000:=by have:=xr.1.1.2.2;omega
 have hsame:=ad3 x x hxc;rw[decide_eq_true rfl] at hsame;rw[hbx,e2,e4];refine ⟨_,_,Zy,_,fun _=>hsame,_,fun _=>hcan,fun h=>by simp at h,fun _=>⟨_,PL p,fun hk=>?_,fun hk=>?_⟩⟩
 ·have hk:¬fA p:=of_decide_eq_false hk;have e1:fO p b=9:=by rw[Ll,if_neg (fun h=>hk h.2)]
  have e3:jk p b=[]:=by unfold jk;rw[if_neg (by rw[e1];decide)]
  simp[e1,e3]
 have hk:fA p:=of_decide_eq_true hk;have e1:fO p b=0:=by rw[Ll,if_pos ⟨h,hk⟩]
 obtain ⟨t,t1,t2,t3,t4⟩:=agD hn hk he hx;have hso:jk p b=wW p (aL b) b:=by unfold jk;rw[if_pos e1]
 obtain ⟨s1,s2⟩:=agF e1;obtain ⟨u1,u2,_⟩:=Pk.back x xr xo t t1;rw[←t2,←hso] at u1 u2;have Zx:=vK (jk p b) (by omega);rw[show eB (jk p b)=x by unfold eB;rw[if_pos u1,u2],u1] at Zx;have hpl:=acD p b few ⟨by omega,by omega⟩ (by omega) hn hb e1;have hcb:=PO b hb;rw[e1];have aky:decide (aZ b=0∧(aL b).bytes=b)=true→jk p b=x.bytes:=fun hh=>by
  have:=of_decide_eq_true hh;rw[hso];exact t4 this.2.symm
 refine ⟨_,_,Zx,_,_,hpl,_,fun _=>hsame,_,fun _=>hcb,fun hbad=>?_,fun _=>?_⟩
 ·exfalso;cases hcc:decide (aZ b=0∧(aL b).bytes=b) with
  |false=>simp[hcc,s1] at hbad
  |true=>
   have hz:=aky hcc;rw[hz] at s1;simp[hcc,s1,hz] at hbad
 have hQl:=ahH (p:=p) (k:=aL b) ⟨by omega,by omega⟩;have hQf:=agL (p:=p) kr;generalize oK p (aL b)=Q at s2 hQl hQf;generalize jk p b=z at s1 s2;refine VC.go_loop (fun i:Nat=> [.bool false,.int (i:Int)]) (fun i=>i≤b.length) (fun i=>b.length-i) 0 rfl (Nat.zero_le _) fun i hi=>?_;simp only[aF,aC,aB,au,aD,forall_const,bC];refine ⟨fun hc=>?_,fun _=>trivial⟩;have hi1:i<b.length:=by omega
 refine VC.go_loop (fun s:Bool×Nat=> [.bool s.1,.int (s.2:Int)]) (fun s=>s.2≤Q.length∧(s.1=false→∀q∈Q.take s.2,¬(q.p≤i∧i<q.p+q.s))) (fun s=>Q.length-s.2) (false,0) rfl ⟨Nat.zero_le _,fun _ q hq=>by simp at hq⟩ ?_;rintro ⟨fr,m⟩ ⟨hm,hfr⟩;simp only at hm hfr;simp only[aF,aC,aB,au,aD,forall_const,bC,List.length_map];refine ⟨fun h=>?_,fun h=>?_⟩
 ·have hm1:m<Q.length:=by have:=h.1;omega
  have hf:fr=false:=h.2;have hg:(Q.map tF).getD ((m:Int)).toNat default=tF (Q.getD m bI.zero):=by simp[List.getD,hm1]
  have hq:Q.getD m bI.zero∈Q:=by simp[List.getD,hm1]
  have htk:Q.take (m+1)=Q.take m++ [Q.getD m bI.zero]:=by rw[List.take_succ_eq_append_getElem hm1];simp[List.getD,hm1]
  rw[hg];generalize Q.getD m bI.zero=q at hq htk;have hqf:=hQf q hq;simp only[au];refine ⟨by omega,by omega,fun _=>by omega,fun _=>by omega,fun _=>by omega,fun _=>by omega,fun _=>by omega,by omega,(decide (q.p≤i∧i<q.p+q.s),m+1),?_,⟨by simp only;omega,fun hno q' hq'=>?_⟩,by simp only;omega⟩
  ·simp only;congr 1
   ·congr 1
    rw[Bool.eq_iff_iff];simp;omega
  ·simp only at hno hq';rw[htk] at hq';rcases List.mem_append.1 hq' with h1|h1
   ·exact hfr hf q' h1
   ·rw[List.mem_singleton.1 h1];exact of_decide_eq_false hno
 ·have gz:(ofBytes z).getD ((i:Int)).toNat default=C.int (at_ z i:Int):=by
   rw[Int.toNat_natCast];simp[ofBytes,at_,List.getD,show i<z.length by omega]
  have gb:(ofBytes b).getD ((i:Int)).toNat default=C.int (at_ b i:Int):=by
   rw[Int.toNat_natCast];simp[ofBytes,at_,List.getD,hi1]
  rw[gz,gb];simp only[au];refine ⟨fun _=>by omega,fun _=>by omega,fun _=>by omega,fun _=>by omega,fun hbad=>?_,fun _=>⟨by omega,i+1,by simp,by omega,by omega⟩⟩;exfalso;have hf:fr=false:=hbad.1;have hml:Q.length≤m:=by
   rcases h with h|h
   ·omega
   ·rw[hf] at h;cases h
  rw[List.take_of_length_le hml] at hfr;have:=s2 i (hfr hf);exact hbad.2 (by rw[this])
end Go.Vc
