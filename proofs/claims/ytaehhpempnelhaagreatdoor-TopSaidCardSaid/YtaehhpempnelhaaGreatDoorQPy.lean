/-
  The strokes of a plan's fields.
-/
import Derived.Test.YtaehhpempnelhaaGreatDoorQTx10
set_option maxRecDepth 100000
namespace Go.Vc
open Go Go.Proofs Go.Plain Go.RowKit Go.Shelf Tryz
def Om(p:Pl)(mv ov dv av:Value):Array Value:= #[.bool p.sm,.bool p.m,.bool p.st,.int .i64 p.ty,.bool p.sq,.int .u16 p.seq,.bool p.dY,.int .u32 p.time,.bool p.ss,.int .u32 p.bZ,mv,ov,dv,av,.bool p.np]
structure RF (W0 W:World) (N:Nat->Prop) (pb lb ob:Nat) (lv mv ov dv av:Value) (p:Pl) (k:Pk) (aQ:Nat) (v:Value) (l:List jA):Prop where
 kw:KW prog W
 rl:bV W N (.sl vU) lv (vv (placesOf k))
 pl:W.heap[pb]?=some (.cells (Om p mv ov dv av) 29 (0,0))
 st:CJ W0 W lb ob lv p aQ v l
theorem RF.below{W0 W W':World}{N:Nat->Prop}{pb lb ob:Nat}{lv mv ov dv av:Value}{p:Pl}{k:Pk}{aQ:Nat}{v:Value}{l:List jA}(h:RF W0 W N pb lb ob lv mv ov dv av p k aQ v l)(hb:Below W.heap.size W W'):RF W0 W' N pb lb ob lv mv ov dv av p k aQ v l:=
 ⟨h.kw.below hb,h.rl.mono hb.size (fun b hb' hlt=>⟨hb.block b hlt,hb'⟩),(hb.block pb (iX.1 h.pl).1).trans h.pl,h.st.below hb⟩
theorem RF.add{W0 W:World}{N:Nat->Prop}{pb lb ob:Nat}{lv mv ov dv av:Value}{p:Pl}{k:Pk}{aQ:Nat}{v:Value}{l:List jA}(h:RF W0 W N pb lb ob lv mv ov dv av p k aQ v l)(hN:∀b,N b->b<W0.heap.size)(aCk:KW prog W0)(hp:pb≠ob)(hpW:W0.heap.size<=pb)(hc:k.hd.eU.length<=1000)(field:Int)(x:fK)(hx:iO (placesOf k) field=some x)(hlen:l.length<=1000)
  (set:Bool) (f:Value) (dr:Dr) (hdr:kG W (vw (some ob) v) p aQ dr f):
  Calls prog 194 #[.bool set,.int .i64 field,f,eY lb,eY ob] W fun e W'=>e=.returned (.tuple #[])/\∃v',RF W0 W' N pb lb ob lv mv ov dv av p k aQ v' (l++if set=true then [⟨x.f,x.p,x.s,dr⟩]else []):=by
 have hpl:=Rp k;refine(az1 W0 W h.kw N lb ob lv v f p aQ l (placesOf k) h.rl (by omega) field x hx hlen set dr h.st hdr).mono ?_;rintro e W' ⟨he,hs,hfr,v',hst⟩;have hst':=hst;have Qa:=h.st;obtain⟨xs,g1,g2,g3,g4,g5,g6,g7,g8⟩:=hst';obtain⟨ys,f1,f2,f3,f4,f5,f6,f7,f8⟩:=Qa;have hz:=f5.size;refine⟨he,v',aCk.below g5,h.rl.mono hs (fun b hb hlt=>⟨?_,hb⟩),?_,hst⟩
 .have:=hN b hb;rw[hfr b hlt (by omega) (fun e=>by have:=f2.lt _ e;omega)]
 have hlt:=(iX.1 h.pl).1;rw[hfr pb hlt (fun e=>hp e.symm) (fun e=>?_)]
 .exact h.pl
 rcases f2.2 with⟨hu,_⟩|⟨g,cap,cur,hu,_,hc,_⟩
 .rw[hu]at e;simp[Value.ownBlock]at e
 rw[hu]at e;obtain rfl:g=pb:=by simpa[Value.ownBlock]using e
 have:=h.pl.symm.trans hc;simp at this
theorem kG.ayN{W:World}{M:Nat->Prop}(p:Pl)(aQ:Nat)(mv ov dv av:Value)(hM:M W.heap.size):kG (W.alloc (.cells (Om p mv ov dv av) 29)) M p aQ .sec (.func (.func 234) #[] #[eY W.heap.size]):=
 ⟨_,_,rfl,hM,mZ W _,rfl,rfl,rfl,rfl⟩
theorem RF.cells{W0 W:World}{N:Nat->Prop}{pb lb ob:Nat}{lv mv ov dv av:Value}{p:Pl}{k:Pk}{aQ:Nat}{v:Value}{l:List jA}(h:RF W0 W N pb lb ob lv mv ov dv av p k aQ v l):
  W.cell? ⟨pb,0,none⟩=some (.bool p.sm)/\W.cell? ⟨pb,1,none⟩=some (.bool p.m)/\W.cell? ⟨pb,2,none⟩=some (.bool p.st)/\W.cell? ⟨pb,3,none⟩=some (.int .i64 p.ty)/\W.cell? ⟨pb,4,none⟩=some (.bool p.sq)/\W.cell? ⟨pb,5,none⟩=some (.int .u16 p.seq)/\W.cell? ⟨pb,6,none⟩=some (.bool p.dY)/\W.cell? ⟨pb,7,none⟩=some (.int .u32 p.time)/\W.cell? ⟨pb,8,none⟩=some (.bool p.ss)/\W.cell? ⟨pb,9,none⟩=some (.int .u32 p.bZ)/\W.cell? ⟨pb,10,none⟩=some (mv)/\W.cell? ⟨pb,11,none⟩=some (ov)/\W.cell? ⟨pb,12,none⟩=some (dv)/\W.cell? ⟨pb,13,none⟩=some (av)/\W.cell? ⟨pb,14,none⟩=some (.bool p.np):=by
 have q:∀i u,(Om p mv ov dv av)[i]?=some u->W.cell? ⟨pb,i,none⟩=some u:=fun i u hu=>by simp[World.cell?,h.pl,hu]
 exact⟨q 0 _ rfl,q 1 _ rfl,q 2 _ rfl,q 3 _ rfl,q 4 _ rfl,q 5 _ rfl,q 6 _ rfl,q 7 _ rfl,q 8 _ rfl,q 9 _ rfl,q 10 _ rfl,q 11 _ rfl,q 12 _ rfl,q 13 _ rfl,q 14 _ rfl⟩
theorem kG.Ut{W:World}{M:Nat->Prop}(p:Pl)(aQ:Nat)(v n:Nat)(x:Int)(hx:x=(v:Int))(hM:∀b,W.heap.size<=b->M b)(hv:v<256^n)(h1:1<=n)(h8:n<=8):
  kG ((W.alloc (.cells #[.int .u64 x] 68)).alloc (.cells #[.int .i64 (n:Int)] 3)) M p aQ (.num v n) (.func (.func 235) #[] #[eY W.heap.size,eY (W.heap.size+1)]):=by
 have b2:=Boxed.new (W.alloc (.cells #[.int .u64 x] 68)) 3 (.int .i64 (n:Int));rw[zo]at b2;subst hx;exact⟨_,_,rfl,hM _ (aS _),hM _ (by omega),(Boxed.new W _ _).alloc _,b2,hv,h1,h8⟩
def Dn(p:Pl):List jA:=if p.sm=true\/p.st=true then [⟨2,1,1,.sec⟩]else []
set_option maxHeartbeats 1000000 in
theorem avV(W0:World)(aX:KW prog W0)(N:Nat->Prop)(pv lv:Value)(p:Pl)(k:Pk)(hp:bV W0 N ig pv (iC p))(hlv:bV W0 N (.sl vU) lv (vv (placesOf k)))(hn:fO p)(hc:k.hd.eU.length<=1000)(hN:∀b,N b->b<W0.heap.size)(aQ:Nat):
  Calls prog 151 #[pv,lv] W0 fun e W'=>∃v xs,e=.returned v/\W'.ownsRow W0.heap.size 231 4 v (tV p).length xs/\o8 W' (vw none v) p aQ (tV p) xs/\Below W0.heap.size W0 W':=by
 obtain⟨mv,ov,dv,av,rfl,_⟩:=Ie hp;obtain⟨sm,m,st,ty,sq,seq,dY,time,ss,bZ,maps,jf,jg,jh,np⟩:=p;simp only at*;obtain⟨n1,n2,n3,n4,n5,n6⟩:=hn;obtain⟨f2,f3,f4,f5⟩:=atY k;have hpl:=Rp k;obtain⟨a,cap,rfl⟩:∃a cap,lv=.slice a (placesOf k).length cap:=by
  obtain⟨vs,⟨a,cap,rfl,_⟩,rfl⟩:=hlv;exact⟨a,cap,by simp[Sh.mk,Sh.isAgg]⟩
 go_enter func151,ntmps151
 go_wp2
 obtain⟨W1,hW1⟩:∃W1,W1=((W0.alloc (.cells #[.bool sm,.bool m,.bool st,.int .i64 ty,.bool sq,.int .u16 seq,.bool dY,.int .u32 time,.bool ss,.int .u32 bZ,mv,ov,dv,av,.bool np] 29)).alloc (.cells #[.slice a (placesOf k).length cap] 52)).alloc (.cells #[.slice none 0 0] 227):=⟨_,rfl⟩;have hb0:Below W0.heap.size W0 W1:=by
  rw[hW1];exact(((eD _ W0).alloc (aS _) _).alloc (by simp) _).alloc (by simp;omega) _
 rw[<-hW1];have hsz:W1.heap.size=W0.heap.size+3:=by rw[hW1];simp
 have hP:W1.heap[W0.heap.size]?=some (.cells #[.bool sm,.bool m,.bool st,.int .i64 ty,.bool sq,.int .u16 seq,.bool dY,.int .u32 time,.bool ss,.int .u32 bZ,mv,ov,dv,av,.bool np] 29 (0,0)):=by
  rw[hW1,lX _ _ _ (by simp;omega),lX _ _ _ (by simp)];exact mZ W0 _
 have hF:CJ W0 W1 (W0.heap.size+1) (W0.heap.size+1+1) (.slice a (placesOf k).length cap) ⟨sm,m,st,ty,sq,seq,dY,time,ss,bZ,maps,jf,jg,jh,np⟩ aQ (.slice none 0 0) []:=by
  have bl:=Boxed.new (W0.alloc (.cells #[.bool sm,.bool m,.bool st,.int .i64 ty,.bool sq,.int .u16 seq,.bool dY,.int .u32 time,.bool ss,.int .u32 bZ,mv,ov,dv,av,.bool np] 29)) 52 (.slice a (placesOf k).length cap);have bo:=Boxed.new ((W0.alloc (.cells #[.bool sm,.bool m,.bool st,.int .i64 ty,.bool sq,.int .u16 seq,.bool dY,.int .u32 time,.bool ss,.int .u32 bZ,mv,ov,dv,av,.bool np] 29)).alloc (.cells #[.slice a (placesOf k).length cap] 52)) 227 (.slice none 0 0);simp only[zo]at bl bo;refine⟨[],by rw[hW1];exact bo,kF _ _ _ _,rfl,by rw[hW1];exact bl.alloc _,hb0,by omega,by omega,by omega⟩
 clear hW1;have hk1:=aX.below hb0;have hl1:=hlv.mono hb0.size (fun b hb hlt=>⟨hb0.block b hlt,hb⟩);have hR:RF W0 W1 N W0.heap.size (W0.heap.size+1) (W0.heap.size+1+1) (.slice a (placesOf k).length cap) mv ov dv av ⟨sm,m,st,ty,sq,seq,dY,time,ss,bZ,maps,jf,jg,jh,np⟩ k aQ (.slice none 0 0) []:=⟨hk1,hl1,hP,hF⟩;clear hk1 hl1 hP hF;have q:∀i u,(Om ⟨sm,m,st,ty,sq,seq,dY,time,ss,bZ,maps,jf,jg,jh,np⟩ mv ov dv av)[i]?=some u->W1.cell? ⟨W0.heap.size,i,none⟩=some u:=fun i u hu=>by simp[World.cell?,hR.pl,hu]
 have q0:W1.cell? ⟨W0.heap.size,0,none⟩=some (.bool sm):=q 0 _ rfl;have q1:W1.cell? ⟨W0.heap.size,1,none⟩=some (.bool m):=q 1 _ rfl;have q2:W1.cell? ⟨W0.heap.size,2,none⟩=some (.bool st):=q 2 _ rfl;have q3:W1.cell? ⟨W0.heap.size,3,none⟩=some (.int .i64 ty):=q 3 _ rfl;have q4:W1.cell? ⟨W0.heap.size,4,none⟩=some (.bool sq):=q 4 _ rfl;have q5:W1.cell? ⟨W0.heap.size,5,none⟩=some (.int .u16 seq):=q 5 _ rfl;have q6:W1.cell? ⟨W0.heap.size,6,none⟩=some (.bool dY):=q 6 _ rfl;have q7:W1.cell? ⟨W0.heap.size,7,none⟩=some (.int .u32 time):=q 7 _ rfl;have q8:W1.cell? ⟨W0.heap.size,8,none⟩=some (.bool ss):=q 8 _ rfl;have q9:W1.cell? ⟨W0.heap.size,9,none⟩=some (.int .u32 bZ):=q 9 _ rfl;have q10:W1.cell? ⟨W0.heap.size,10,none⟩=some (mv):=q 10 _ rfl;have q11:W1.cell? ⟨W0.heap.size,11,none⟩=some (ov):=q 11 _ rfl;have q12:W1.cell? ⟨W0.heap.size,12,none⟩=some (dv):=q 12 _ rfl;have q13:W1.cell? ⟨W0.heap.size,13,none⟩=some (av):=q 13 _ rfl;have q14:W1.cell? ⟨W0.heap.size,14,none⟩=some (.bool np):=q 14 _ rfl;clear q;rename_i Q' K hK;have tail:∀(W:World) (u12 u13:Value) (b14:Bool) (v:Value),RF W0 W N W0.heap.size (W0.heap.size+1) (W0.heap.size+1+1) (.slice a (placesOf k).length cap) mv ov dv av ⟨sm,m,st,ty,sq,seq,dY,time,ss,bZ,maps,jf,jg,jh,np⟩ k aQ v (Dn ⟨sm,m,st,ty,sq,seq,dY,time,ss,bZ,maps,jf,jg,jh,np⟩)->K {tmps:= #[.agg #[.bool sm,.bool m,.bool st,.int .i64 ty,.bool sq,.int .u16 seq,.bool dY,.int .u32 time,.bool ss,.int .u32 bZ,mv,ov,dv,av,.bool np],.slice a (placesOf k).length cap,eY W0.heap.size,eY (W0.heap.size+1),.slice none 0 0,eY (W0.heap.size+1+1),.func (.func 194) #[] #[eY (W0.heap.size+1),eY (W0.heap.size+1+1)],.func (.func 194) #[] #[eY (W0.heap.size+1),eY (W0.heap.size+1+1)],.func (.func 194) #[] #[eY (W0.heap.size+1),eY (W0.heap.size+1+1)],eY W0.heap.size,.bool sm,.bool sm,u12,u13,.bool b14,.agg #[.bool sm,.bool m,.bool st,.int .i64 ty,.bool sq,.int .u16 seq,.bool dY,.int .u32 time,.bool ss,.int .u32 bZ,mv,ov,dv,av,.bool np],.func (.func 234) #[] #[eY (W0.heap.size+3)],.tuple #[],undef,undef,undef,undef,undef,undef,undef,undef,undef,undef,undef,undef,undef,undef,undef,undef,undef,undef,undef,undef,undef,undef,undef,undef,undef],defers:=[]} W:=by
  intro W u12 u13 b14 v hR;refine hK _ _ ?_;obtain⟨q0,q1,q2,q3,q4,q5,q6,q7,q8,q9,q10,q11,q12,q13,q14⟩:=hR.cells;simp only at q0 q1 q2 q3 q4 q5 q6 q7 q8 q9 q10 q11 q12 q13 q14;go_wp2
  rename_i K2 hK2;have hw2:seq%18446744073709551616=seq:=by omega
  have akP:=(kG.Ut (W:=W) ⟨sm,m,st,ty,sq,seq,dY,time,ss,bZ,maps,jf,jg,jh,np⟩ aQ seq.toNat 2 seq (by omega) (M:=vw (some (W0.heap.size+1+1)) v) (fun b hb=>hR.st.fresh hb) (by omega) (by decide) (by decide)).drew;go_region_held3 (fun w'=>w'.cell? ⟨W0.heap.size,0,none⟩=some (.bool sm)/\w'.cell? ⟨W0.heap.size,1,none⟩=some (.bool m)/\w'.cell? ⟨W0.heap.size,2,none⟩=some (.bool st)/\w'.cell? ⟨W0.heap.size,3,none⟩=some (.int .i64 ty)/\w'.cell? ⟨W0.heap.size,4,none⟩=some (.bool sq)/\w'.cell? ⟨W0.heap.size,5,none⟩=some (.int .u16 seq)/\w'.cell? ⟨W0.heap.size,6,none⟩=some (.bool dY)/\w'.cell? ⟨W0.heap.size,7,none⟩=some (.int .u32 time)/\w'.cell? ⟨W0.heap.size,8,none⟩=some (.bool ss)/\w'.cell? ⟨W0.heap.size,9,none⟩=some (.int .u32 bZ)/\w'.cell? ⟨W0.heap.size,10,none⟩=some (mv)/\w'.cell? ⟨W0.heap.size,11,none⟩=some (ov)/\w'.cell? ⟨W0.heap.size,12,none⟩=some (dv)/\w'.cell? ⟨W0.heap.size,13,none⟩=some (av)/\w'.cell? ⟨W0.heap.size,14,none⟩=some (.bool np)) (first|exact RF.cells (by assumption)|go_keep) (first
   |(go_at_call 196;refine(Sv _ _ _).mono ?_;rintro e w' ⟨rfl,rfl⟩)
   |(go_at_call 194;refine((hR.below ((((eD _ W).alloc (aS _) _).alloc (by simp) _).drew)).add hN aX (by omega) (aS _) hc 3 _ f3 (by simp[Dn];(try split)<;>(try split)<;>(try split)<;>simp) _ _ (.num seq.toNat 2) akP).mono ?_;rintro e W2 ⟨rfl,v2,hR2⟩))
  refine hK2 _ _ ?_;clear q0 q1 q2 q3 q4 q5 q6 q7 q8 q9 q10 q11 q12 q13 q14 hw2 akP;obtain⟨q0,q1,q2,q3,q4,q5,q6,q7,q8,q9,q10,q11,q12,q13,q14⟩:=hR2.cells;simp only at q0 q1 q2 q3 q4 q5 q6 q7 q8 q9 q10 q11 q12 q13 q14;go_wp2
  rename_i K3 hK3;have hw3:time%18446744073709551616=time:=by omega
  have akO:=(kG.Ut (W:=W2) ⟨sm,m,st,ty,sq,seq,dY,time,ss,bZ,maps,jf,jg,jh,np⟩ aQ time.toNat 4 time (by omega) (M:=vw (some (W0.heap.size+1+1)) v2) (fun b hb=>hR2.st.fresh hb) (by omega) (by decide) (by decide)).drew;go_region_held3 (fun w'=>w'.cell? ⟨W0.heap.size,0,none⟩=some (.bool sm)/\w'.cell? ⟨W0.heap.size,1,none⟩=some (.bool m)/\w'.cell? ⟨W0.heap.size,2,none⟩=some (.bool st)/\w'.cell? ⟨W0.heap.size,3,none⟩=some (.int .i64 ty)/\w'.cell? ⟨W0.heap.size,4,none⟩=some (.bool sq)/\w'.cell? ⟨W0.heap.size,5,none⟩=some (.int .u16 seq)/\w'.cell? ⟨W0.heap.size,6,none⟩=some (.bool dY)/\w'.cell? ⟨W0.heap.size,7,none⟩=some (.int .u32 time)/\w'.cell? ⟨W0.heap.size,8,none⟩=some (.bool ss)/\w'.cell? ⟨W0.heap.size,9,none⟩=some (.int .u32 bZ)/\w'.cell? ⟨W0.heap.size,10,none⟩=some (mv)/\w'.cell? ⟨W0.heap.size,11,none⟩=some (ov)/\w'.cell? ⟨W0.heap.size,12,none⟩=some (dv)/\w'.cell? ⟨W0.heap.size,13,none⟩=some (av)/\w'.cell? ⟨W0.heap.size,14,none⟩=some (.bool np)) (first|exact RF.cells (by assumption)|go_keep) (first
   |(go_at_call 196;refine(Sv _ _ _).mono ?_;rintro e w' ⟨rfl,rfl⟩)
   |(go_at_call 194;refine((hR2.below ((((eD _ W2).alloc (aS _) _).alloc (by simp) _).drew)).add hN aX (by omega) (aS _) hc 4 _ f4 (by simp[Dn];(try split)<;>(try split)<;>(try split)<;>simp) _ _ (.num time.toNat 4) akO).mono ?_;rintro e W3 ⟨rfl,v3,kU⟩))
  refine hK3 _ _ ?_;clear q0 q1 q2 q3 q4 q5 q6 q7 q8 q9 q10 q11 q12 q13 q14 hw3 akO;obtain⟨q0,q1,q2,q3,q4,q5,q6,q7,q8,q9,q10,q11,q12,q13,q14⟩:=kU.cells;simp only at q0 q1 q2 q3 q4 q5 q6 q7 q8 q9 q10 q11 q12 q13 q14;go_wp2
  rename_i K4 hK4;have hw4:bZ%18446744073709551616=bZ:=by omega
  have aCp:=(kG.Ut (W:=W3) ⟨sm,m,st,ty,sq,seq,dY,time,ss,bZ,maps,jf,jg,jh,np⟩ aQ bZ.toNat 4 bZ (by omega) (M:=vw (some (W0.heap.size+1+1)) v3) (fun b hb=>kU.st.fresh hb) (by omega) (by decide) (by decide)).drew;go_region_held3 (fun w'=>w'.cell? ⟨W0.heap.size,0,none⟩=some (.bool sm)/\w'.cell? ⟨W0.heap.size,1,none⟩=some (.bool m)/\w'.cell? ⟨W0.heap.size,2,none⟩=some (.bool st)/\w'.cell? ⟨W0.heap.size,3,none⟩=some (.int .i64 ty)/\w'.cell? ⟨W0.heap.size,4,none⟩=some (.bool sq)/\w'.cell? ⟨W0.heap.size,5,none⟩=some (.int .u16 seq)/\w'.cell? ⟨W0.heap.size,6,none⟩=some (.bool dY)/\w'.cell? ⟨W0.heap.size,7,none⟩=some (.int .u32 time)/\w'.cell? ⟨W0.heap.size,8,none⟩=some (.bool ss)/\w'.cell? ⟨W0.heap.size,9,none⟩=some (.int .u32 bZ)/\w'.cell? ⟨W0.heap.size,10,none⟩=some (mv)/\w'.cell? ⟨W0.heap.size,11,none⟩=some (ov)/\w'.cell? ⟨W0.heap.size,12,none⟩=some (dv)/\w'.cell? ⟨W0.heap.size,13,none⟩=some (av)/\w'.cell? ⟨W0.heap.size,14,none⟩=some (.bool np)) (first|exact RF.cells (by assumption)|go_keep) (first
   |(go_at_call 196;refine(Sv _ _ _).mono ?_;rintro e w' ⟨rfl,rfl⟩)
   |(go_at_call 194;refine((kU.below ((((eD _ W3).alloc (aS _) _).alloc (by simp) _).drew)).add hN aX (by omega) (aS _) hc 5 _ f5 (by simp[Dn];(try split)<;>(try split)<;>(try split)<;>simp) _ _ (.num bZ.toNat 4) aCp).mono ?_;rintro e W4 ⟨rfl,v4,qZ⟩))
  refine hK4 _ _ ?_;obtain⟨xs,g1,g2,g3,g4,g5,_⟩:=qZ.st;have qH:=g1.cell;go_wp2
  go_ret
  have e:Dn ⟨sm,m,st,ty,sq,seq,dY,time,ss,bZ,maps,jf,jg,jh,np⟩++(if sq=true then [⟨(⟨3,2,2⟩:fK).f,(⟨3,2,2⟩:fK).p,(⟨3,2,2⟩:fK).s,.num seq.toNat 2⟩]else [])++(if dY=true then [⟨(⟨4,4,4⟩:fK).f,(⟨4,4,4⟩:fK).p,(⟨4,4,4⟩:fK).s,.num time.toNat 4⟩]else [])++(if ss=true then [⟨(⟨5,8,4⟩:fK).f,(⟨5,8,4⟩:fK).p,(⟨5,8,4⟩:fK).s,.num bZ.toNat 4⟩]else [])=tV ⟨sm,m,st,ty,sq,seq,dY,time,ss,bZ,maps,jf,jg,jh,np⟩:=by
   simp only[tV,Dn,gJ]
  refine⟨v4,xs,rfl,?_,?_,g5⟩
  .rw[<-e];exact g2
  .rw[<-e];exact g3.mono (M':=vw none v4) (aS _) (fun b hb _=>⟨rfl,⟨nofun,hb.2⟩⟩)
 have hdr:kG (W1.alloc (.cells #[.bool sm,.bool m,.bool st,.int .i64 ty,.bool sq,.int .u16 seq,.bool dY,.int .u32 time,.bool ss,.int .u32 bZ,mv,ov,dv,av,.bool np] 29)).drew (vw (some (W0.heap.size+1+1)) (.slice none 0 0)) ⟨sm,m,st,ty,sq,seq,dY,time,ss,bZ,maps,jf,jg,jh,np⟩ aQ .sec (.func (.func 234) #[] #[eY (W0.heap.size+3)]):=by
  have h:=kG.ayN (W:=W1) ⟨sm,m,st,ty,sq,seq,dY,time,ss,bZ,maps,jf,jg,jh,np⟩ aQ mv ov dv av (hR.st.fresh (aS _));rw[<-hsz];exact h
 cases sm
 .first
   |go_region_held3 (fun w'=>w'.cell? ⟨W0.heap.size,0,none⟩=some (.bool false)/\w'.cell? ⟨W0.heap.size,1,none⟩=some (.bool m)/\w'.cell? ⟨W0.heap.size,2,none⟩=some (.bool st)/\w'.cell? ⟨W0.heap.size,3,none⟩=some (.int .i64 ty)/\w'.cell? ⟨W0.heap.size,4,none⟩=some (.bool sq)/\w'.cell? ⟨W0.heap.size,5,none⟩=some (.int .u16 seq)/\w'.cell? ⟨W0.heap.size,6,none⟩=some (.bool dY)/\w'.cell? ⟨W0.heap.size,7,none⟩=some (.int .u32 time)/\w'.cell? ⟨W0.heap.size,8,none⟩=some (.bool ss)/\w'.cell? ⟨W0.heap.size,9,none⟩=some (.int .u32 bZ)/\w'.cell? ⟨W0.heap.size,10,none⟩=some (mv)/\w'.cell? ⟨W0.heap.size,11,none⟩=some (ov)/\w'.cell? ⟨W0.heap.size,12,none⟩=some (dv)/\w'.cell? ⟨W0.heap.size,13,none⟩=some (av)/\w'.cell? ⟨W0.heap.size,14,none⟩=some (.bool np)) (first|exact RF.cells (by assumption)|go_keep) (first
    |(go_at_call 195;refine(afa _ _).mono ?_;rintro e w' ⟨rfl,rfl⟩)
    |(go_at_call 194;refine((hR.below (((eD _ W1).alloc (aS _) _).drew)).add hN aX (by omega) (aS _) hc 2 _ f2 (by simp) _ _ .sec hdr).mono ?_;rintro e w' ⟨rfl,v1,yV⟩;have hq:=yV.cells))
   |fail
  all_goals exact tail _ _ _ _ _ (by simpa[Dn]using yV)
 refine wp_region_held_drew (S:=(fun w'=>w'.cell? ⟨W0.heap.size,0,none⟩=some (.bool true)/\w'.cell? ⟨W0.heap.size,1,none⟩=some (.bool m)/\w'.cell? ⟨W0.heap.size,2,none⟩=some (.bool st)/\w'.cell? ⟨W0.heap.size,3,none⟩=some (.int .i64 ty)/\w'.cell? ⟨W0.heap.size,4,none⟩=some (.bool sq)/\w'.cell? ⟨W0.heap.size,5,none⟩=some (.int .u16 seq)/\w'.cell? ⟨W0.heap.size,6,none⟩=some (.bool dY)/\w'.cell? ⟨W0.heap.size,7,none⟩=some (.int .u32 time)/\w'.cell? ⟨W0.heap.size,8,none⟩=some (.bool ss)/\w'.cell? ⟨W0.heap.size,9,none⟩=some (.int .u32 bZ)/\w'.cell? ⟨W0.heap.size,10,none⟩=some (mv)/\w'.cell? ⟨W0.heap.size,11,none⟩=some (ov)/\w'.cell? ⟨W0.heap.size,12,none⟩=some (dv)/\w'.cell? ⟨W0.heap.size,13,none⟩=some (av)/\w'.cell? ⟨W0.heap.size,14,none⟩=some (.bool np))) (by kernel_rfl) ?_ (fun hHeld=>?_)
 ·(first|exact RF.cells (by assumption)|go_keep)
 refine wpAnyH_take (i:=0) (v:=?_) rfl (by kernel_rfl) (by kernel_rfl) (by kernel_rfl) (fun _ _ _ h=>h) (Or.inl ⟨by rfl,?_⟩) (by assumption) ?_;rotate_left
 .intro w hSw;first|(go_simp;done)|(go_simp;with_reducible rfl)
 (try simp only[Act.put,Al])
 refine wpAnyH_take (i:=1) (v:=?_) rfl (by kernel_rfl) (by kernel_rfl) (by kernel_rfl) (fun _ _ _ h=>h) (Or.inl ⟨by rfl,?_⟩) (by assumption) ?_;rotate_left
 .intro w hSw;first|(go_simp;done)|(go_simp;with_reducible rfl)
 (try simp only[Act.put])
 refine wpAnyH_take (i:=2) (v:=?_) rfl (by kernel_rfl) (by kernel_rfl) (by kernel_rfl) (fun _ _ _ h=>h) (Or.inl ⟨by rfl,?_⟩) (by assumption) ?_;rotate_left
 .intro w hSw;first|(go_simp;done)|(go_simp;with_reducible rfl)
 (try simp only[Act.put])
 refine wpAnyH_take (i:=3) (v:=?_) rfl (by kernel_rfl) (by kernel_rfl) (by kernel_rfl) (fun _ _ _ h=>h) (Or.inl ⟨by rfl,?_⟩) (by assumption) ?_;rotate_left
 .intro w hSw;first|(go_simp;done)|(go_simp;with_reducible rfl)
 (try simp only[Act.put])
 refine wpAnyH_take (i:=4) (v:=undef) rfl (by kernel_rfl) (by kernel_rfl) (by kernel_rfl) (fun _ _ _ h=>h) (Or.inr ⟨by rfl,rfl⟩) (by assumption) ?_
 (try simp only[Act.put])
 refine wpAnyH_take (i:=5) (v:=undef) rfl (by kernel_rfl) (by kernel_rfl) (by kernel_rfl) (fun _ _ _ h=>h) (Or.inr ⟨by rfl,rfl⟩) (by assumption) ?_
 (try simp only[Act.put])
 refine wpAnyH_take (i:=6) (v:=?_) rfl (by kernel_rfl) (by kernel_rfl) (by kernel_rfl) (fun _ _ _ h=>h) (Or.inl ⟨by rfl,?_⟩) (by assumption) ?_;rotate_left
 .intro w hSw;first|(go_simp;done)|(go_simp;with_reducible rfl)
 (try simp only[Act.put])
 refine wpAnyH_take (i:=7) (v:=?_) rfl (by kernel_rfl) (by kernel_rfl) (by kernel_rfl) (fun _ _ _ h=>h) (Or.inl ⟨by rfl,?_⟩) (by assumption) ?_;rotate_left
 .intro w hSw;first|(go_simp;done)|(go_simp;with_reducible rfl)
 (try simp only[Act.put])
 refine wpAnyH_ready (rs:=[8]) (by kernel_rfl) (by simp) ?_;refine AllReadyH.cons rfl (fun K hK=>?_) AllReadyH.nil;go_simp
 go_at_call 195;refine(afa _ _).mono ?_;rintro e w' ⟨rfl,rfl⟩
 refine hK.out _ _ ?_ (fun hHeld=>?_)
 ·(first|exact RF.cells (by assumption)|go_keep)
 clear hK K
 (try simp only[Act.put,Al,Aq,Ao])
 refine wpAnyH_ready (rs:=[9]) (by kernel_rfl) (by simp) ?_;refine AllReadyH.cons rfl (fun K hK=>?_) AllReadyH.nil;go_simp
 go_at_call 194;refine((hR.below (((eD _ W1).alloc (aS _) _).drew)).add hN aX (by omega) (aS _) hc 2 _ f2 (by simp) _ _ .sec hdr).mono ?_;rintro e w' ⟨rfl,v1,yV⟩;have hq:=yV.cells
 refine hK.out _ _ ?_ (fun hHeld=>?_)
 ·(first|exact RF.cells (by assumption)|go_keep)
 clear hK K
 (try simp only[Act.put,Al,Aq,Ao])
 refine wpAnyH_done (by kernel_rfl) ?_ _;exact tail _ _ _ _ _ (by simpa[Dn]using yV)
end Go.Vc
