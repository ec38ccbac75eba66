/-
  The closure that adds a stroke; the strokes of a plan's fields.
-/
import Derived.Test.YtaehhpempnelhaaGreatDoorQPw
set_option maxRecDepth 100000
namespace Go.Vc
open Go Go.Proofs Go.Plain Go.RowKit Go.Shelf
theorem aoB(W:World)(aL:KW Tryz.prog W)(N:Nat->Prop)(lv:Value)(pl:List dJ)(hlv:bq W N (.sl qw) lv (pI pl))(hpl:pl.length<=100000)(field:Int)(x:dJ)(hx:fF pl field=some x):
  Calls Tryz.prog 152 #[lv,.int .i64 field,.int .i64 0] W fun e w'=>e= .returned (.tuple #[.agg #[.int .i64 x.f,.int .i64 (x.p:Int),.int .i64 (x.s:Int)],.int .i64 0])/\Below W.heap.size W w':=by
 have hp:=(PC.mq (by decide) (U9 pl field hpl)).2 W N [lv,.int .i64 field,.int .i64 0] aL ⟨_,_,rfl,hlv,_,_,rfl,⟨_,rfl,rfl⟩,_,_,rfl,⟨_,rfl,rfl⟩,rfl⟩;rw[hx] at hp;refine hp.mono ?_;rintro e w' ⟨r,rfl,⟨vs,⟨v1,r1,rfl,hv1,v2,r2,rfl,⟨_,hv2,rfl⟩,rfl⟩,rfl⟩,hb⟩;simp only[Rd] at hv2;subst hv2;obtain rfl:=acn hv1;exact ⟨rfl,hb⟩
theorem Dp(w:World)(x y z u:Value)(t:TypeId):∀j c,[x,y,z,u][j]?=some c->(w.alloc (.cells #[x,y,z,u] t)).cell? ((⟨w.heap.size,0,none⟩:Addr).add j)=some c:=by
 intro j c hj;have h:=World.alloc_heap_new w (.cells #[x,y,z,u] t);have hc:∀i,(w.alloc (.cells #[x,y,z,u] t)).cell? ((⟨w.heap.size,0,none⟩:Addr).add i)= #[x,y,z,u][i]?:=by
  intro i;have ea:(⟨w.heap.size,0,none⟩:Addr).add i=⟨w.heap.size,i,none⟩:=by unfold Addr.add;split<;>simp_all
  rw[ea];show (match (w.alloc (.cells #[x,y,z,u] t)).heap[w.heap.size]? with|some (.cells c _ _)=>_|_=>none)=_;rw[h];simp
 rw[hc,<-hj];simp
theorem Dq{W W':World}(hb:Below W.heap.size W W'):W.grownBy W' none:=⟨hb.os,hb.tape,hb.output,hb.size,fun k hk _=>hb.block k hk⟩
theorem Ea(v:Value):v.ownBlock=none\/v.ownBlock≠none:=by cases v.ownBlock<;>simp
theorem gQ.form{W:World}{M:Nat->Prop}{p:Pl}{aD:Nat}{dr:Dr}{f:Value}(h:gQ W M p aD dr f):∃F caps,f= .func (.func F) #[] caps:=by
 cases dr with
 |num v n=>obtain ⟨a,b,rfl,_⟩:=h;exact ⟨_,_,rfl⟩
 |sec=>obtain ⟨a,b,rfl,_⟩:=h;exact ⟨_,_,rfl⟩
 |nI to=>obtain ⟨a,b,rfl,_⟩:=h;exact ⟨_,_,rfl⟩
 |data d=>obtain ⟨a,b,dv,rfl,_⟩:=h;exact ⟨_,_,rfl⟩
theorem apM(W0 W:World)(aL:KW Tryz.prog W)(N:Nat->Prop)(lb ob:Nat)(lv v f:Value)(p:Pl)(aD:Nat)(l:List fE)(pl:List dJ)(hlv:bq W N (.sl qw) lv (pI pl))(hpl:pl.length<=100000)(field:Int)(x:dJ)(hx:fF pl field=some x)
  (hlen:l.length<=1000) (set:Bool) (dr:Dr) (hst:wP W0 W lb ob lv p aD v l) (hdr:gQ W (pJ (some ob) v) p aD dr f):
  Calls Tryz.prog 194 (#[.bool set,.int .i64 field,f]++ #[bJ lb,bJ ob]) W fun e W'=>e= .returned (.tuple #[])/\W.heap.size<=W'.heap.size/\(∀b,b<W.heap.size->ob≠b->v.ownBlock≠some b->W'.heap[b]?=W.heap[b]?)/\∃v',wP W0 W' lb ob lv p aD v' (l++if set=true then [⟨x.f,x.p,x.s,dr⟩] else []):=by
 have hp:=aoB W aL N lv pl hlv hpl field x hx;obtain ⟨xs,h1,h2,h3,h4,h5,h6,h7,h8⟩:=hst;have c1:=h1.cell;have c4:=h4.cell;obtain ⟨i0,hi,hz0,hz1,hz2⟩:=info_parts Nz;obtain ⟨F,caps,rfl⟩:=hdr.form;refine (callsIn_wide (n:=3)).1 ?_;refine callsIn_of_wp Tryz.func194 rfl trivial ?_ rfl;simp only[Tryz.ntmps194,List.size_toArray,bn,zy,Nat.reduceAdd,Nat.reduceSub,Array.replicate_succ,Array.replicate_zero,List.push_toArray,List.append_toArray,fJ,jc];cases set with
 |false=>
  gi_wp2
  refine bodyPost_ret (results_none rfl _ _ _) rfl ?_;exact ⟨rfl,aI _,fun _ _ _ _=>rfl,v,xs,by simpa using h1,by simpa using h2,by simpa using h3,h4,h5,h6,h7,h8⟩
 |true=>
  have hone:∀u∈[Value.int .i64 x.f,.int .i64 (x.p:Int),.int .i64 (x.s:Int),.func (.func F) #[] caps],u.oneCell'=true:=by
   intro u hu;simp only[iH,List.mem_nil_iff,or_false] at hu;rcases hu with rfl|rfl|rfl|rfl
   .rfl
   .rfl
   .rfl
   .exact hdr.one
  have aqY:some ob≠v.ownBlock:=h1.not_row (by decide) h2;gi_wp2_with (first
   |(refine ⟨trivial,?_⟩;gi_at_call 152;refine (callsIn_wide.2 hp).mono ?_;rintro e w' ⟨rfl,hb⟩;have hg:=Dq hb;have g1:=h1.kept hg (by simp);have g2:=h2.kept hg (Ea v);have d1:∀o,(w'.alloc o).cell? ⟨ob,0,none⟩=some v:=fun o=>(g1.alloc o).cell;have hsz:=hb.size;have hcn:=fun o=>Dp (w'.alloc o) (.int .i64 x.f) (.int .i64 (x.p:Int)) (.int .i64 (x.s:Int)) (.func (.func F) #[] caps) 231;simp only[World.size_alloc] at hcn)
   |(gi_at_builtin;refine wpListIn_append_own_at _ rfl _ _ 227 rfl W0.heap.size 231 i0 _ 4 32 Tryz.underlying227 hi hz0 hz1 hz2 rfl (by decide) _ _ _ rfl ((g2.alloc _).alloc _) ⟨w'.heap.size+1,0,none⟩ 1 1 [.int .i64 x.f,.int .i64 (x.p:Int),.int .i64 (x.s:Int),.func (.func F) #[] caps] rfl rfl (hcn _) hone (by simp only[maxLen];omega) (by omega) (by have:=h5.size;simp;omega) ?_;intro v' w1 hown hgrow _ hat;obtain ⟨g',cap',rfl⟩:=ownsRow_succ hown;have b1:=((g1.alloc _).alloc _).kept hgrow aqY;have e1:=b1.cell;have e2:=b1.frozen))
  go_end0
  have hg3:=grownBy_setCell' w1 ob (.slice (some ⟨g',0,none⟩) (l.length+1) cap');have hnr:=b1.not_row (by decide) hown;have hs1:=hgrow.size;have hs3:=hg3.size;simp only[World.size_alloc] at hs1;have hfr:∀b,b<W.heap.size->ob≠b->v.ownBlock≠some b->(w1.setCell ⟨ob,0,none⟩ (.slice (some ⟨g',0,none⟩) (l.length+1) cap')).heap[b]?=W.heap[b]?:=by
   intro b hlt ho hv;rw[hg3.block b (by omega) (by simpa using fun e=>ho e.symm),hgrow.block b (by simp;omega) (fun e=>hv e.symm),Below.heap_alloc _ _ _ (by simp;omega),Below.heap_alloc _ _ _ (by omega),hb.block b hlt]
  have hM:∀b,b<W.heap.size->pJ (some ob) v b->pJ (some ob) (.slice (some ⟨g',0,none⟩) (l.length+1) cap') b:=by
   intro b hlt ⟨m1,m2⟩;refine ⟨m1,fun e=>?_⟩;rcases hat with h|h
   .exact m2 (h▸e)
   .rw[h] at e;simp only[World.size_alloc,bQ] at e;omega
  have hk:∀b,pJ (some ob) v b->b<W.heap.size->(w1.setCell ⟨ob,0,none⟩ (.slice (some ⟨g',0,none⟩) (l.length+1) cap')).heap[b]?=W.heap[b]?/\pJ (some ob) (.slice (some ⟨g',0,none⟩) (l.length+1) cap') b:=
   fun b hm hlt=>⟨hfr b hlt (fun e=>hm.1 (by rw[e])) hm.2,hM b hlt hm⟩
  have hS:W.heap.size<=(w1.setCell ⟨ob,0,none⟩ (.slice (some ⟨g',0,none⟩) (l.length+1) cap')).heap.size:=by omega
  refine ⟨rfl,hS,hfr,_,xs++ [.int .i64 x.f,.int .i64 (x.p:Int),.int .i64 (x.s:Int),.func (.func F) #[] caps],b1.set _,?_,?_,?_,?_,h6,h7,h8⟩
  .simpa using hown.kept hg3 (.inr (fun e=>hnr e.symm))
  .exact (h3.mono hS hk).append ⟨_,[],rfl,hdr.mono hS hk,rfl⟩
  .exact (hfr lb h4.lt (fun e=>h8 e.symm) (fun e=>(h4.not_row (by decide) h2) e.symm)).trans h4
  .have hB:=h5.size;refine ⟨?_,?_,?_,by omega,fun b hb'=>?_⟩
   .rw[hg3.os,hgrow.os];exact hb.os.trans h5.os
   .rw[hg3.tape,hgrow.tape];exact hb.tape.trans h5.tape
   .rw[hg3.output,hgrow.output];exact hb.output.trans h5.output
   .rw[hfr b (by omega) (by omega) (fun e=>by have:=h2.lt _ e;omega)];exact h5.block b hb'
theorem gQ.drew{W:World}{M:Nat->Prop}{p:Pl}{aD:Nat}{dr:Dr}{f:Value}(h:gQ W M p aD dr f):gQ W.drew M p aD dr f:=h.mono (aI _) (fun b hb _=>⟨rfl,hb⟩)
theorem uo{w:World}{N:Nat->Prop}{v:Value}{p:Pl}(h:bq w N eu v (eD p)):∃mv ov dv av,v= .agg #[.bool p.sm,.bool p.m,.bool p.st,.int .i64 p.ty,.bool p.sq,.int .u16 p.seq,.bool p.bL,.int .u32 p.time,.bool p.ss,.int .u32 p.aN,mv,ov,dv,av,.bool p.np]/\
  bq w N (.sl wm) mv (yZ p.maps)/\bq w N (.sl lU) ov (jL p.over)/\bq w N (.sl I64) dv (Ints p.drops)/\bq w N (.sl lU) av (jL p.adds):=by
 obtain ⟨vs,⟨_,a1,b1,rfl,h1,_,a2,b2,rfl,h2,_,a3,b3,rfl,h3,_,a4,b4,rfl,h4,_,a5,b5,rfl,h5,_,a6,b6,rfl,h6,_,a7,b7,rfl,h7,_,a8,b8,rfl,h8,_,a9,b9,rfl,h9,_,a10,b10,rfl,h10,_,a11,b11,rfl,h11,_,a12,b12,rfl,h12,_,a13,b13,rfl,h13,_,a14,b14,rfl,h14,_,a15,b15,rfl,h15,h16⟩,rfl⟩:=h;have l11:=h11;have l12:=h12;have l13:=h13;have l14:=h14;obtain ⟨x11,y11,rfl,_⟩:=h11;obtain ⟨x12,y12,rfl,_⟩:=h12;obtain ⟨x13,y13,rfl,_⟩:=h13;obtain ⟨x14,y14,rfl,_⟩:=h14;simp only[Rd] at h1 h2 h3 h4 h5 h6 h7 h8 h9 h10 h15 h16;subst h1 h2 h3 h4 h5 h6 h7 h8 h9 h10 h15 h16;exact ⟨_,_,_,_,rfl,⟨_,l11,rfl⟩,⟨_,l12,rfl⟩,⟨_,l13,rfl⟩,⟨_,l14,rfl⟩⟩
end Go.Vc
