/-
  Contracts of functions of the program, each out of its condition or by a walk, and plain lemmas.
-/
import Derived.Test.YtaehhpempnelhaaGreatDoorQWg
import Derived.Test.YtaehhpempnelhaaGreatDoorQBase4
import Derived.Test.YtaehhpempnelhaaGreatDoorQVcs1
import Derived.Test.YtaehhpempnelhaaGreatDoorQTx9
import Derived.Test.YtaehhpempnelhaaGreatDoorQTx4
set_option maxRecDepth 100000
namespace Go.Vc
open Go Go.Proofs Go.Plain Go.RowKit Go.Shelf
def yQ(p:Pl)(b:List UInt8):List UInt8:=if jW p b=0 then adp p (bG b) b else []
theorem ald(W0:World)(aL:KW Tryz.prog W0)(pv bv:Value)(p:Pl)(b:List UInt8)(hp:bq W0 (fun b=>b<W0.heap.size) eu pv (eD p))(hb:bq W0 (fun b=>b<W0.heap.size) aQ bv (B b))(hbl:b.length<=1000000)(few:iE p)(num:gH p)(E:Int)(hE:Hid (jW p b=E))(h0:E≠0):
  Calls Tryz.prog 75 #[pv,bv] W0 fun e W'=>e= .returned (.tuple #[.slice none 0 0,.int .i64 E])/\Below W0.heap.size W0 W':=by
 have hp0:=hp;obtain ⟨mv,ov,dv,av,rfl,_⟩:=uo hp;obtain ⟨ba,bc,rfl,_⟩:=OI hb;have hbX:=Below.alloc (Below.refl W0.heap.size W0) (aI _) (.cells #[.bool p.sm,.bool p.m,.bool p.st,.int .i64 p.ty,.bool p.sq,.int .u16 p.seq,.bool p.bL,.int .u32 p.time,.bool p.ss,.int .u32 p.aN,mv,ov,dv,av,.bool p.np] 29);have hst:=X9 _ (aL.below hbX) _ _ p b (dw hp0 hbX) (dw hb hbX) hbl few num;rw[show jW p b=E from hE] at hst;clear hp hp0 hb aL;go_enter Tryz.func75,Tryz.ntmps75
 go_wp2_with (first
  |(go_at_call 119;refine hst.mono ?_;rintro e W1 ⟨v,rfl,hb1,h1⟩;clear hst h1)
  |fail)
 refine bodyPost_ret (results_tmp2 rfl _ _ _) rfl ?_;exact ⟨rfl,hbX.trans (hb1.mono (by simp))⟩
theorem aqx{w:World}{N:Nat->Prop}{g cap:Nat}{bs:List UInt8}{sp:List Value}{et:TypeId}(h:w.heap[g]?=some (.cells (vb bs++sp).toArray et (0,0)))(hc:bs.length+sp.length=cap)(hm:cap<=maxLen)(hN:N g):bq w N aQ (.slice (some ⟨g,0,none⟩) bs.length cap) (B bs):=by
 have hl:(C.toList (B bs)).length=bs.length:=by simp[ofBytes]
 have hvl:(vb bs).length=bs.length:=by simp[vb]
 refine ⟨[_],BX (B:=fun _=>True) (et:=et) (s:= .int .u8) (xs:=vb bs) ⟨by rw[hl];simp[Sh.size,vb],.inr ⟨g,cap,(vb bs++sp).toArray,by rw[hl],trivial,h,by rw[hl];omega,hm,?_,?_⟩⟩ (row_of bs) (fun g' e=>by cases e;exact hN),rfl⟩
 .simp only[List.size_toArray,bg,hvl,Sh.size,Nat.mul_one];exact hc
 .rw[hl];simp only[Sh.size,Nat.mul_one];rw[<-hvl,List.take_left'];rfl
theorem apF{b:List UInt8}(he:cZ b=0):12+4*(bG b).hd.bD.length+(if (bG b).hd.ext then 4+(bG b).ext.length else 0)<=b.length:=by
 obtain ⟨_,_,kt,kl⟩:=Pk.same b he;have h1:=GI (bG b) _ kt.1;rw[<-kl] at h1;rw[h1];unfold Pk.sum;omega
theorem aoA(W0:World)(aL:KW Tryz.prog W0)(pv bv:Value)(p:Pl)(b:List UInt8)(hp:bq W0 (fun b=>b<W0.heap.size) eu pv (eD p))(hb:bq W0 (fun b=>b<W0.heap.size) aQ bv (B b))(hbl:b.length<=1000000)(few:iE p)(num:gH p):
  Calls Tryz.prog 75 #[pv,bv] W0 fun e W'=>∃r,e= .returned (.tuple #[r,.int .i64 (jW p b)])/\bq W' (fun b=>W0.heap.size<=b) aQ r (B (yQ p b))/\Below W0.heap.size W0 W':=by
 by_cases hE:jW p b=0
 .obtain ⟨he,hk,hs⟩:=acg hE;obtain ⟨y,hy⟩:=kK.1 hs;obtain ⟨hpr,_⟩:=Bp hy;obtain ⟨kr,ko,kt,kl⟩:=Pk.same b he;have hlen:b.length=(bG b).sum:=by
   have h1:=GI (bG b) _ kt.1;rwa[<-kl] at h1
  have hok:=ak8 hk hy b.length (apF he);have h0:b≠[]:=by
   rintro rfl;unfold Pk.sum at hlen;simp at hlen;omega
  have hll:(strokes p (bG b)).length<=3000000000000:=by
   have hl0:=zD (jF p (iC (bG b)) (qQ (bG b))) 2000000 (fun a=>BG p _ _ a few.1 few.2.1) (spots (bG b).aD (bG b).ext).1;have hl1:=Bl (bG b).aD (bG b).ext;have hl2:=ZV p;have hl3:(bG b).ext.length<=1000000:=by
    unfold Pk.sum at hlen;cases hx:(bG b).hd.ext with
    |true=>rw[hx,if_pos rfl] at hlen;omega
    |false=>rw[(kr.1.2.2.2.1 hx).2];simp
   have hl4:(strokes p (bG b)).length<=(ou p).length+((spots (bG b).aD (bG b).ext).1.flatMap (jF p (iC (bG b)) (qQ (bG b)))).length:=by
    unfold strokes yw;rw[bg];split
    .exact aI _
    .simp
   omega
  refine (alc W0 aL pv bv p b _ rfl hp hb hbl few num hE h0 _ rfl hok (akc hok) (akd hpr) ⟨hpr.1.2.2.2.2.2.1,hpr.1.2.2.2.2.2.2⟩ hll).mono ?_;rintro e W' ⟨g,cap,rfl,hg,et,sp,hrow,hcap,hmax,hbe⟩;refine ⟨_,by rw[hE],?_,hbe⟩;have hl5:=(MO _ b hok).1;unfold yQ;rw[if_pos hE];rw[<-hl5];exact aqx hrow (by rw[hl5];exact hcap) hmax hg
 .refine (ald W0 aL pv bv p b hp hb hbl few num _ rfl hE).mono ?_;rintro e W' ⟨rfl,hbe⟩;refine ⟨_,rfl,?_,hbe⟩;unfold yQ;rw[if_neg hE];exact ⟨[_],⟨none,0,rfl,aI _,bK _,fun h=>absurd rfl h⟩,rfl⟩
abbrev akF:FuncId:=75
theorem ajE(p:Pl)(b:List UInt8)(hb:b.length<=1000000)(few:iE p)(num:gH p):PC Tryz.prog akF [(eu,eD p),(aQ,B b)] [(aQ,B (yQ p b)),(I64,.int (jW p b))]:=by
 refine PC.oF (by decide) ⟨⟨_,Tryz.func75,by kernel_rfl,by kernel_rfl⟩,fun w N vs aL hrd=>?_⟩;obtain ⟨v,r,rfl,hp,v2,r2,rfl,hb2,hr⟩:=hrd;simp only[dH] at hr;subst hr;refine (aoA w aL v v2 p b (Jp hp) (Jp hb2) hb few num).mono ?_;rintro e w' ⟨r,rfl,hr,hbe⟩;exact ⟨_,rfl,⟨[r,.int .i64 (jW p b)],⟨_,_,rfl,hr.mono (aI _) fun b h _=>⟨rfl,.inr h⟩,⟨_,_,rfl,⟨_,rfl,rfl⟩,rfl⟩⟩,rfl⟩,hbe⟩
end Go.Vc
namespace Go.Vc
open Go Go.Proofs Go.Plain
def Eu(b:List UInt8):Prop:=2<=b.length/\128<=at_ b 0/\at_ b 0<=191/\at_ b 1/32≠6
instance(b:List UInt8):Decidable (Eu b):=by unfold Eu;exact inferInstance
theorem anj{p:Pl}{b:List UInt8}{x:Pk}(he:cZ b=0)(hk:jg p)(hr:(bG b).right)(hx:behind p (bG b)=some x):jW p b=0:=by
 unfold jW;rw[if_neg (fun h=>h he),if_pos];refine ⟨hk,?_⟩;unfold fD;rw[if_neg (fun h=>h hr),hx];rfl
end Go.Vc
namespace Go.Vc
open Go Go.Proofs Go.Plain Go.RowKit Go.Shelf
abbrev IfM:Sh:= .bP 224 .unit
abbrev Vf:FuncId:=74
theorem aqO(W:World)(v:Value):(Instr.typeAssert (.iface 224 v) 163 224 true).run Tryz.prog W= .ok (.tuple #[v,.bool true]) W:=by kernel_rfl
theorem aqP(W:World)(v:Value):(Instr.typeAssert (.iface 224 v) 163 223 true).run Tryz.prog W= .ok (.tuple #[.agg #[],.bool false]) W:=by kernel_rfl
theorem ak6(W0:World):
  Calls Tryz.prog 74 #[.iface 224 (.agg #[])] W0 fun e W'=>e= .returned (.int .i64 1)/\Below W0.heap.size W0 W':=by
 have a1:=aqO;have a2:=aqP;go_enter Tryz.func74,Tryz.ntmps74
 go_wp2
 refine bodyPost_ret (results_tmp rfl _ _ _) rfl ?_;exact ⟨rfl,Below.alloc (Below.refl _ _) (aI _) _⟩
theorem ah4:PC Tryz.prog Vf [(IfM,.ls [])] [(I64,.int 1)]:=by
 refine PC.oF (by decide) ⟨⟨_,Tryz.func74,by kernel_rfl,by kernel_rfl⟩,fun w N vs aL hrd=>?_⟩;obtain ⟨v,r,rfl,⟨us,⟨Dc,rfl,h0⟩,rfl⟩,hr⟩:=hrd;simp only[Rd] at h0;simp only[dH] at hr;subst hr h0;refine (ak6 w).mono ?_;rintro e w' ⟨rfl,hbe⟩;exact ⟨_,rfl,⟨[.int .i64 1],⟨_,_,rfl,⟨_,rfl,rfl⟩,rfl⟩,rfl⟩,hbe⟩
theorem adY:∀x:Nat,x<256->arith .shr .u8 x 6=((x/64:Nat):Int):=by decide+kernel
theorem agm(b:List UInt8)(hm:Eu b):PC Tryz.prog KM [(aQ,B b)] [(IfM,.ls [])]:=by
 obtain ⟨h1,h2,h3,h4⟩:=hm;apply RA rfl;have i0:Int.toNat 0=0:=rfl;have i1:Int.toNat 1=1:=rfl;have e6:=adY (at_ b 0) (gq b 0);simp only[KF,aH,aB,aA,ay,aC,forall_const,bE,lH,i0,i1,qE,e6];refine ⟨fun _=>by omega,fun hc=>?_,fun _=>⟨by omega,fun _=>by omega,fun hc=>?_,fun _=>trivial⟩⟩
 .exfalso;omega
 .exfalso;omega
theorem ajb(b:List UInt8)(hb:b.length<=1000000):PC Tryz.prog Ra [(.unit,.ls []),(aQ,B b)] [(I64,.int (cZ b))]:=by
 apply afh rfl;simp only[QX,aH,aB,aA,ay,aC,forall_const];exact ⟨_,_,Dn b hb,rfl⟩
theorem agn(b:List UInt8)(hm:Eu b)(hb:b.length<=1000000):PC Tryz.prog TR [(aQ,B b)] [(I64,.int (if cZ b=0 then 1 else 3)),(I64,.int (cZ b))]:=by
 apply af0 rfl;simp only[Si,aH,aB,aA,ay,aC,forall_const,bE];have h2:=hm.1;refine ⟨fun hc=>?_,fun hc=>⟨fun hc=>by omega,fun _=>⟨_,agm b hm,_,ajb b hb,fun he=>?_,fun he=>⟨_,ah4,?_⟩⟩⟩⟩
 .have:cZ b=4:=by unfold cZ;rw[if_pos (by omega)]
  rw[this];rfl
 .have he:cZ b≠0:=he;rw[if_neg he]
 .have he:cZ b=0:=he;rw[if_pos he,he]
def wN(p:Pl)(b:List UInt8)(room:Int):Int:=if cZ b≠0 then cZ b else if fD p (bG b)≠0 then fD p (bG b) else sJ (tF p (bG b)) room
def Gs(p:Pl)(b:List UInt8)(room:Int):List UInt8:=if wN p b room=0 then (tF p (bG b)).bytes else []
theorem aa4{k:Pk}(h:k.right):k.ext.length<=1000000/\k.pay.length<=1000000/\k.pad<=1000000:=by
 obtain ⟨h1,h2⟩:=h;unfold Pk.sum at h2;obtain ⟨_,_,h3,h4,h5⟩:=h1;refine ⟨by omega,by omega,by omega⟩
theorem aqS{p:Pl}{k:Pk}(hn:gH p)(ho:k.ok)(h:fD p k=0):(tF p k).right/\(tF p k).ok/\behind p k=some (tF p k)/\k.right:=by
 unfold fD at h;split at h
 .cases h
 .rename_i hr;have hr:=Classical.not_not.1 hr;split at h
  .rename_i hs;obtain ⟨x,hx⟩:=kK.1 hs;obtain ⟨_,e⟩:=EF hr hx;rw[e];exact ⟨(ZK hn ho hx).1,(ZK hn ho hx).2,hx,hr⟩
  .cases h
theorem aiZ(p:Pl)(b:List UInt8)(room:Int)(hb:b.length<=1000000)(few:iE p)(num:gH p):PC Tryz.prog V8 [(eu,eD p),(aQ,B b),(I64,.int room)] [(aQ,B (Gs p b room)),(I64,.int (wN p b room))]:=by
 apply ahy rfl;simp only[Uq,aH,aB,aA,ay,aC,forall_const];refine ⟨_,_,Dn b hb,fun he=>?_,fun he=>?_⟩
 .have he:cZ b≠0:=he;have e:wN p b room=cZ b:=by unfold wN;rw[if_pos he]
  unfold Gs;rw[e,if_neg he];rfl
 .have he:cZ b=0:=he;obtain ⟨kr,ko,_,_⟩:=Pk.same b he;have e0:jR b=bG b:=by unfold jR;rw[if_pos he]
  obtain ⟨l1,l2,l3⟩:=aa4 kr;rw[e0];refine ⟨_,_,U7 p (bG b) few num ko l1 l2 l3,fun ha=>?_,fun ha=>?_⟩
  .have ha:fD p (bG b)≠0:=ha;have e:wN p b room=fD p (bG b):=by unfold wN;rw[if_neg (fun h=>h he),if_pos ha]
   unfold Gs;rw[e,if_neg ha];rfl
  .have ha:fD p (bG b)=0:=ha;obtain ⟨xr,xo,_,_⟩:=aqS num ko ha;obtain ⟨m1,m2,m3⟩:=aa4 xr;refine ⟨_,_,ag4 _ room xo m1 m2 m3,?_⟩;have e:wN p b room=sJ (tF p (bG b)) room:=by unfold wN;rw[if_neg (fun h=>h he),if_neg (fun h=>h ha)]
   unfold Gs FR;rw[e]
abbrev JN:Sh:= .pair aQ (.pair eu (.pair .bool (.pair I64 .unit)))
abbrev Kj(b:List UInt8)(p:Pl)(st:Bool)(room:Int):C:= .ls [B b,eD p,.bool st,.int room]
def Df(p:Pl)(b:List UInt8)(st:Bool)(room:Int):Int:=if st then jW p b else wN p b room
def Gj(p:Pl)(b:List UInt8)(st:Bool)(room:Int):List UInt8:=if st then yQ p b else Gs p b room
theorem ao6{p:Pl}{b:List UInt8}{st:Bool}{room:Int}(h:Df p b st room≠0):Gj p b st room=[]:=by
 unfold Df Gj at*;cases st with
 |true=>exact if_neg h
 |false=>exact if_neg h
theorem ai9(p:Pl)(b:List UInt8)(st:Bool)(room:Int)(hb:b.length<=1000000)(few:iE p)(num:gH p):PC Tryz.prog Wv [(JN,Kj b p st room)] [(aQ,B (Gj p b st room)),(I64,.int (Df p b st room))]:=by
 apply ahM rfl;simp only[UE,aH,aB,aA,ay,aC,forall_const];refine ⟨fun h=>?_,fun h=>?_⟩
 .obtain rfl:st=true:=h;exact ⟨_,_,ajE p b hb few num,rfl⟩
 .obtain rfl:st=false:=h;exact ⟨_,_,aiZ p b room hb few num,rfl⟩
abbrev aep:Sh:= .pair I64 (.pair I64 (.pair aQ (.pair I64 .unit)))
abbrev Kz(w e:Int)(o:List UInt8):C:= .ls [.int w,.int e,B o,.int o.length]
def Gh(p:Pl)(b:List UInt8)(st:Bool)(room:Int):C:=if cZ b=0 then Kz 1 (Df p b st room) (Gj p b st room) else Kz 3 (cZ b) []
theorem afS(p:Pl)(b:List UInt8)(st:Bool)(room:Int)(hm:Eu b)(hb:b.length<=1000000)(few:iE p)(num:gH p):PC Tryz.prog KT [(JN,Kj b p st room)] [(aep,Gh p b st room)]:=by
 apply R5 rfl;simp only[KI,aH,aB,aA,ay,aC,forall_const];refine ⟨_,_,agn b hm hb,fun he=>?_,fun he=>⟨fun hw=>⟨_,_,ai9 p b st room hb few num,?_⟩,fun hw=>?_⟩⟩
 .have he:cZ b≠0:=he;unfold Gh;rw[if_neg he,if_neg he];rfl
 .have he:cZ b=0:=he;unfold Gh;rw[if_pos he,if_pos he];by_cases h:Df p b st room=0
  .simp[h]
  .simp[h,ao6 h]
 .exact absurd (if_pos (show cZ b=0 from he)) hw
abbrev Its(l:List It):C:= .ls (l.map It.C)
def fK(l:List It):List UInt8:=jU (l.map It.eO)
structure uU (l:List It):Prop where
 ne:l≠[]
 ok:∀x∈l,x.ok
 pad:∀i,i+1<l.length->(l.getD i .lW).p=0
 len:(fK l).length<=65535
theorem acE{l:List It}{i:Nat}(h:i<l.length):l.getD i .lW∈l:=by simp[List.getD,h]
theorem apd(l:List It)(i:Nat)(h:i<l.length):(l.map It.C).getD i default=(l.getD i .lW).C:=by simp[List.getD,h]
theorem abh(l:List It)(i:Nat)(h:i<l.length):l.take (i+1)=l.take i++ [l.getD i .lW]:=by rw[jm h];simp[List.getD,h]
theorem Et(a b:List It):fK (a++b)=fK a++fK b:=by
 unfold fK jU;rw[eB,eB,Da]
theorem IQ(x:It):fK [x]=x.eO.bytes:=by simp[fK,jU]
theorem aqa(l:List It)(i:Nat):(fK (l.take i)).length<=(fK l).length:=by
 have:fK l=fK (l.take i)++fK (l.drop i):=by rw[<-Et,zu]
 rw[this];simp
theorem OC(l:List It)(h:∀x∈l,x.ok):4*l.length<=(fK l).length:=by
 induction l with
 |nil=>simp
 |cons x l ih=>
  have hx:=bS.len (It.xL (h x (by simp)));have:=ih fun y hy=>h y (by simp[hy]);have e:fK (x::l)=x.eO.bytes++fK l:=by rw[<-IQ,<-Et];rfl
  rw[e,bg,hx];unfold bS.size;simp;omega
theorem R8{l:List It}(h:uU l):PC Tryz.prog Tc [(.sl uL,Its l),(.bool,.bool true)] [(aQ,B (fK l)),(I64,.int 0)]:=by
 have hlen:=OC l h.ok;have hl5:=h.len;have hne:0<l.length:=yO.2 h.ne;apply afQ rfl;simp only[RZ,aH,aB,aA,ay,aC,forall_const,aT];refine ⟨fun _=>by omega,fun hc=>?_,fun _=>?_⟩
 .exfalso;simp at hc;first|omega|exact h.ne hc|exact h.ne hc.1
 refine VC.go_loop (fun i:Nat=> [.ls [],.int 0,B (fK (l.take i)),.int i]) (fun i=>i<=l.length) (fun i=>l.length-i) 0 rfl (bK _) fun i hi=>?_;simp only[aH,aB,aA,ay,aC,forall_const,aT,bO,bE];refine ⟨fun hc=>?_,fun hc=>?_⟩
 .have hil:i<l.length:=by omega
  have hx:=h.ok _ (acE hil);have hp:=h.pad i;have hw:=ai2 _ hx;have ht:=abh l i hil;have hle:=aqa l (i+1);rw[ht,Et,IQ,bg] at hle;rw[apd _ _ hil];generalize l.getD i .lW=x at*;simp only[gJ,gX,C.zP,C.zI,bU];refine ⟨by omega,by omega,by omega,fun hc=>?_,fun _=>⟨_,_,hw,fun _=>by simp only[gM,bE];omega,fun hc=>?_,fun _=>⟨by simp only[gM,bE];omega,by omega,i+1,?_,by omega,by omega⟩⟩⟩
  .exfalso;have:=hp (by omega);omega
  .exfalso;simp only[gM,bU,bE] at hc;omega
  .rw[ht,Et,IQ];simp[ofBytes]
 .have:i=l.length:=by omega
  subst this;rw[eX]
theorem RD{l:List It}(h:uU l):PC Tryz.prog Sb [(.sl uL,Its l),(.bool,.bool true),(I64,.int 65535)] [(aQ,B (fK l)),(I64,.int 0)]:=by
 have hl:=h.len;apply afx rfl;simp only[Rx,aH,aB,aA,ay,aC,forall_const];refine ⟨_,_,R8 h,fun hc=>absurd rfl hc,fun _=>⟨fun hc=>?_,fun _=>rfl⟩⟩;exfalso;simp only[gM,bE] at hc;omega
theorem afV{l:List It}(h:uU l):PC Tryz.prog Sc [(.sl uL,Its l),(.bool,.bool true)] [(.bool,.bool true)]:=by
 apply afy rfl;simp only[Ry,aH,aB,aA,ay,aC,forall_const];exact ⟨_,_,R8 h,rfl⟩
theorem KH{l:List It}(h:uU l):PC Tryz.prog Td [(aQ,B (fK l)),(.bool,.bool true)] [(.sl uL,Its l),(I64,.int 0)]:=by
 have hlen:=OC l h.ok;have hl5:=h.len;have hne:0<l.length:=yO.2 h.ne;have hsp:=ah2 (l.map It.eO) (by simpa using h.ne) (fun x hx=>by
  obtain ⟨y,hy,rfl⟩:=gK.1 hx;exact It.xL (h.ok y hy)) (fun i hi=>by
  rw[aT] at hi;have:=h.pad i hi;rw[show (l.map It.eO).getD i bS.zero=(l.getD i .lW).eO by simp[List.getD,show i<l.length by omega],It.pad];exact this) (by show (fK l).length<=_;omega)
 apply afR rfl;simp only[R3,aH,aB,aA,ay,aC,forall_const,bE];refine ⟨fun hc=>by omega,fun _=>⟨_,_,hsp,fun hc=>absurd rfl hc,fun _=>?_⟩⟩;refine VC.go_loop (fun i:Nat=> [.ls [],.int 0,Its (l.take i),.int i]) (fun i=>i<=l.length) (fun i=>l.length-i) 0 rfl (bK _) fun i hi=>?_;simp only[aH,aB,aA,ay,aC,forall_const,aT,bO,bE];refine ⟨fun hc=>?_,fun hc=>?_⟩
 .have hil:i<l.length:=by omega
  have hx:=h.ok _ (acE hil);have hr:=ajH _ hx;have ht:=abh l i hil;have hg:(List.map B (List.map bS.bytes (List.map It.eO l))).getD i default=B (l.getD i .lW).eO.bytes:=by simp[List.getD,hil]
  rw[hg];generalize l.getD i .lW=x at*;refine ⟨by omega,by omega,_,_,hr,fun hc=>absurd rfl hc,fun _=>⟨by simp;omega,by omega,i+1,?_,by omega,by omega⟩⟩;rw[ht];simp only[Its,eB,eZ,jI];rfl
 .have:i=l.length:=by omega
  subst this;rw[eX];refine ⟨fun _=>by omega,fun hc=>?_,fun _=>⟨_,afV h,fun hc=>(by cases hc),fun _=>rfl⟩⟩;exfalso;simp at hc;first|omega|exact h.ne hc|exact h.ne hc.1
abbrev IfC:Sh:= .bP 223 .unit
theorem aqQ(W:World)(v:Value):(Instr.typeAssert (.iface 223 v) 163 224 true).run Tryz.prog W= .ok (.tuple #[.agg #[],.bool false]) W:=by kernel_rfl
theorem aqR(W:World)(v:Value):(Instr.typeAssert (.iface 223 v) 163 223 true).run Tryz.prog W= .ok (.tuple #[v,.bool true]) W:=by kernel_rfl
theorem ajr(W0:World):
  Calls Tryz.prog 74 #[.iface 223 (.agg #[])] W0 fun e W'=>e= .returned (.int .i64 2)/\Below W0.heap.size W0 W':=by
 have a1:=aqQ;have a2:=aqR;go_enter Tryz.func74,Tryz.ntmps74
 go_wp2
 refine bodyPost_ret (results_tmp rfl _ _ _) rfl ?_;exact ⟨rfl,Below.alloc (Below.alloc (Below.refl _ _) (aI _) _) (by simp) _⟩
theorem agl:PC Tryz.prog Vf [(IfC,.ls [])] [(I64,.int 2)]:=by
 refine PC.oF (by decide) ⟨⟨_,Tryz.func74,by kernel_rfl,by kernel_rfl⟩,fun w N vs aL hrd=>?_⟩;obtain ⟨v,r,rfl,⟨us,⟨Dc,rfl,h0⟩,rfl⟩,hr⟩:=hrd;simp only[Rd] at h0;simp only[dH] at hr;subst hr h0;refine (ajr w).mono ?_;rintro e w' ⟨rfl,hbe⟩;exact ⟨_,rfl,⟨[.int .i64 2],⟨_,_,rfl,⟨_,rfl,rfl⟩,rfl⟩,rfl⟩,hbe⟩
theorem afA(b:List UInt8)(h1:2<=b.length)(h2:at_ b 0/64=2)(h3:192<=at_ b 1/\at_ b 1<=223):PC Tryz.prog KM [(aQ,B b)] [(IfC,.ls [])]:=by
 apply RA rfl;have i0:Int.toNat 0=0:=rfl;have i1:Int.toNat 1=1:=rfl;have e6:=adY (at_ b 0) (gq b 0);simp only[KF,aH,aB,aA,ay,aC,forall_const,bE,lH,i0,i1,qE,e6];refine ⟨fun _=>by omega,fun hc=>?_,fun _=>⟨by omega,fun _=>by omega,fun hc=>trivial,fun hc=>?_⟩⟩
 .exfalso;omega
 .exfalso;omega
theorem ap9{l:List It}(h:uU l):2<=(fK l).length/\at_ (fK l) 0/64=2/\(192<=at_ (fK l) 1/\at_ (fK l) 1<=223):=by
 obtain ⟨x,r,rfl⟩:=List.exists_cons_of_ne_nil h.ne;have hx:=It.xL (h.ok x (by simp));have e:fK (x::r)=x.eO.bytes++fK r:=by rw[<-IQ,<-Et];rfl
 have hl:=OC _ h.ok;have c:=(bS.com hx (fK r)).1;rw[<-e] at c;have a1:at_ (fK (x::r)) 1=x.eO.k:=by
  rw[e];show (UInt8.ofNat _).toNat=_;rw[mh];have:=hx.1;omega
 have hk:x.eO.k=203\/x.eO.k=205\/x.eO.k=206:=by cases x<;>simp[It.eO]
 refine ⟨by simp at hl;omega,?_,by omega⟩;unfold o9 at c;split at c
 .cases c
 .split at c
  .cases c
  .omega
theorem aha{l:List It}(h:uU l):PC Tryz.prog QS [(.unit,.ls []),(aQ,B (fK l))] [(I64,.int 0)]:=by
 apply afb rfl;simp only[QK,aH,aB,aA,ay,aC,forall_const];exact ⟨_,_,KH h,rfl⟩
theorem agp{l:List It}(h:uU l):PC Tryz.prog TT [(aQ,B (fK l))] [(I64,.int 2),(I64,.int 0)]:=by
 obtain ⟨c1,c2,c3⟩:=ap9 h;have hl:=h.len;apply af2 rfl;simp only[Sj,aH,aB,aA,ay,aC,forall_const,bE];exact ⟨fun hc=>by omega,fun _=>⟨fun hc=>by omega,fun _=>⟨_,afA _ c1 c2 c3,_,aha h,fun hc=>absurd rfl hc,fun _=>⟨_,agl,rfl⟩⟩⟩⟩
theorem ag3{l:List It}(h:uU l)(st:Bool):PC Tryz.prog TY [(JN,Kj (fK l) Pl.zero st 65535)] [(aQ,B (fK l)),(I64,.int 0)]:=by
 have hl:=h.len;apply af6 rfl;simp only[Sq,aH,aB,aA,ay,aC,forall_const];refine ⟨_,ai8 Pl.zero,fun hc=>?_,fun _=>⟨fun _=>⟨_,KS (fK l) (by omega),rfl⟩,fun _=>⟨_,_,KH h,fun hc=>absurd rfl hc,fun _=>⟨_,_,RD h,rfl⟩⟩⟩⟩;simp at hc
theorem afT{l:List It}(h:uU l)(st:Bool):PC Tryz.prog KT [(JN,Kj (fK l) Pl.zero st 65535)] [(aep,Kz 2 0 (fK l))]:=by
 apply R5 rfl;simp only[KI,aH,aB,aA,ay,aC,forall_const];refine ⟨_,_,agp h,fun hc=>absurd rfl hc,fun _=>⟨fun hc=>absurd hc (by decide),fun _=>⟨fun _=>⟨_,_,ag3 h st,by simp⟩,fun hc=>absurd rfl hc⟩⟩⟩
end Go.Vc
namespace Go.Vc
open Go Go.Proofs Go.Plain
theorem aqT:xD vT [115,101,113,32,53,32,109,97,112,32,51,32,52,32,111,118,101,114,32,51,32,34,120,34]=some pW:=by
 decide+kernel
theorem ZW:jW pW bW=0/\yQ pW bW=oW:=by
 have h:jW pW bW=0:=anj JX.1 keepW.1 (by rw[JX.2];exact keepW.2) (by rw[JX.2];exact ari);refine ⟨h,?_⟩;unfold yQ;rw[if_pos h,JX.2];exact aqt
theorem apW{p:Pl}{b:List UInt8}{room:Int}(h:jW p b=0):Gh p b true room=Kz 1 0 (yQ p b):=by
 unfold Gh Df Gj;rw[if_pos (acg h).1,if_pos rfl,if_pos rfl,h]
theorem anw:PC Tryz.prog Ri [] [(.bool,.bool true)]:=by
 apply afk rfl;have u:=ajG [115,101,113,32,53,32,109,97,112,32,51,32,52,32,111,118,101,114,32,51,32,34,120,34] (by decide);rw[aqT] at u;have v:=afS pW bW true 0 (by decide) (by decide) (by unfold iE;decide) (by decide);rw[apW ZW.1,ZW.2] at v;have r:=Dn oW (by decide);rw[show jR oW=xW by unfold jR;rw[if_pos Px.1,Px.2],Px.1] at r;have t:=VT 48862 (by decide) [64,120,0,0] (by decide);rw[elW.1,elW.2] at t;simp only[Q5,aH,aB,aA,ay,aC,forall_const];refine ⟨_,_,u,_,v,_,_,r,_,_,t,fun _=>by decide,fun _=>by decide,?_⟩;refine congrArg (fun x=> [(Sh.bool,C.bool x)]) ?_;decide+kernel
theorem apC{c:C}(h:Ty (.sl Kh) c):∃l:List Sn,c= .ls (l.map uV)/\l.length<=maxLen:=by
 obtain ⟨l,rfl,hl,ht⟩:=h;refine ⟨l.map fun d=>⟨d.hd.toInt,d.tl.hd.toInt⟩,?_,by simpa using hl⟩;congr 1
 rw[qy];conv=>lhs;rw[<-List.map_id l]
 apply yM;intro d hd;obtain ⟨_,_,rfl,⟨n,rfl,_⟩,_,l2,e1,⟨m,rfl,_⟩,h3⟩:=ht d hd;injection e1 with e1;subst e1;obtain rfl:l2=[]:=by simpa [Ty] using h3
 rfl
theorem aqs{c:C}(h:Ty ru c):∃a:Ar,c=rM a/\a.ok:=by
 obtain ⟨_,_,rfl,h1,_,_,e2,h2,_,_,e3,h3,_,l2,e4,h4,h5⟩:=h;injection e2 with e2;injection e3 with e3;injection e4 with e4;subst e4;subst e3;subst e2;obtain rfl:l2=[]:=by simpa [Ty] using h5
 obtain ⟨n,rfl,hn⟩:=Jc rfl h1;obtain ⟨t,rfl,_⟩:=h2;obtain ⟨m,rfl,hm⟩:=Jc rfl h3;obtain ⟨l,rfl,_⟩:=apC h4;exact ⟨⟨n,t,m,l⟩,rfl,hn,hm⟩
def yS(a:Ar)(v:Nat):List It:=[.lW,.arr a,.rat (jQ v)]
theorem anT{a:Ar}{v:Nat}(h:a.right)(ho:a.ok)(hv:v<18446744073709551616):uU (yS a v):=by
 have hr:=Yg v hv;have hro:(jQ v).ok:=⟨by have:=hr.2.1;omega,by simp[jQ]⟩;obtain ⟨l1,l2,l3,_⟩:=Fb h ho;have hb:=(jQ v).uY;have hs:(jQ v).srcs.length=0:=rfl;have ok:∀x∈yS a v,x.ok:=by
  intro x hx;simp only[yS,iH,List.mem_nil_iff,or_false] at hx;rcases hx with rfl|rfl|rfl
  .trivial
  .exact ⟨h,ho⟩
  .exact ⟨hr,hro⟩
 refine ⟨by simp[yS],ok,fun i hi=>?_,?_⟩
 .match i,hi with
  |0,_=>rfl
  |1,_=>rfl
  |i+2,hi=>simp[yS] at hi;omega
 .have c0:=bS.len (It.xL (x:= .lW) trivial);have c1:=bS.len (It.xL (x:= .arr a) ⟨h,ho⟩);have c2:=bS.len (It.xL (x:= .rat (jQ v)) ⟨hr,hro⟩);have e:fK (yS a v)=It.lW.eO.bytes++((It.arr a).eO.bytes++(It.rat (jQ v)).eO.bytes):=by simp[fK,jU,yS]
  have z8:fZ.length=8:=rfl;rw[e,bg,bg,c0,c1,c2];simp only[bS.size,It.eO,bg,zy];omega
theorem aiq(cs:List C)(h:JL [ru,U64,.bool,U16] cs):PC Tryz.prog QI ([ru,U64,.bool,U16].zip cs) [(.bool,.bool true)]:=by
 obtain ⟨_,_,rfl,h1,_,_,rfl,h2,_,_,rfl,⟨st,rfl⟩,_,_,rfl,h4,rfl⟩:=h;obtain ⟨a,rfl,ho⟩:=aqs h1;obtain ⟨v,rfl,hv⟩:=Jc rfl h2;obtain ⟨n,rfl,hn⟩:=Jc rfl h4;have hv:v<18446744073709551616:=hv;have hn:n<65536:=hn;apply ae8 rfl;simp only[QG,aH,aB,aA,ay,aC,forall_const,aT];refine ⟨_,anw,fun h=>(by cases h),fun _=>⟨_,fun _=>KL a,fun _=>trivial,fun hc=>?_⟩⟩;have hr:a.right:=by
  by_cases hr:a.right
  .exact hr
  .simp[hr] at hc
 have hl:=hr.2.1;have hg:=anT hr ho hv;obtain ⟨t,e,hw⟩:=ain a (n%(a.seen.length+1));have aq4:arith .rem .i64 (IntKind.i64.wrap (n:Int)) ((a.seen.length:Int)+1)=((n%(a.seen.length+1):Nat):Int):=by
  rw[je (by omega),MR _ _ _ (by omega)];norm_cast
 have hval:=ai4 (jQ v);obtain ⟨m1,m2,_⟩:=anm v hv;refine ⟨_,alq v hv,_,_,RD hg,fun hc=>absurd rfl hc,fun _=>⟨_,afT hg st,_,_,KH hg,?_⟩⟩;simp only[aB,aA,ay,aC,forall_const,eZ,jI,yS,It.k,It.p,It.fk,It.a,It.r,bn,zy,show Int.toNat 2=2 from rfl,show Int.toNat 1=1 from rfl,List.getD_cons_zero,List.getD_cons_succ,aq4];refine ⟨fun _=>by decide,fun _=>by decide,_,fun _=>ai5 a (by omega),fun hc=>?_,fun _=>⟨by omega,by omega,_,_,hw,by decide,_,_,hw,by decide,_,hval,?_⟩⟩
 .exfalso;simp at hc
 .have e1:arith .shr .u64 ((v:Nat):Int) 17=((v/131072:Nat):Int):=qU .u64 v 17 (by decide);have e2:arith .sub .u64 ((v:Nat):Int) ((uS (jQ v):Nat):Int)=((v-uS (jQ v):Nat):Int):=by
   show IntKind.u64.wrap _=_;rw[jD];omega
  rw[bU,e1,e2,if_pos ⟨⟨rfl,rfl⟩,by omega⟩];congr 3
  simp;omega
end Go.Vc
