/-
  The contract of part.ReadBye at an empty body, walked: it ranges over a function.
-/
import Derived.RangeFuncBox
import Derived.RangeFuncLeaves
import Derived.Shelf.Abstract
import Derived.WalkKit
import Derived.OwnWalkIn
import Derived.TacticsInMore
import Derived.LoopNIn
import Derived.LoopIn
import Derived.Maps.AppendAt
import Derived.Test.YtaehhpempnelhaaGreatDoorQBase3
import Derived.Test.YtaehhpempnelhaaGreatDoorQTx1
import Derived.Test.YtaehhpempnelhaaGreatDoorChecked
import Derived.Test.YtaehhpempnelhaaGreatDoorQVcs1
import Derived.Test.YtaehhpempnelhaaGreatDoorQTx7
import Derived.Test.YtaehhpempnelhaaGreatDoorQZd
set_option maxRecDepth 100000
namespace Go.Vc
open Go Go.Proofs Go.Plain Go.RowKit Go.Shelf
attribute [local go_sem] Oper.semAt_some
theorem alS(l Bn:Nat)(a:Option Addr)(cap:Nat)(J Jx:List Int->World->Prop)(n:Nat)(W:World)(hBn:Boxed W Bn 22 (.slice a 0 cap))(h0:J [] W):
  CallsIn Fence.wide n Tryz.prog 183 #[.func (.yield l) #[] #[],.pointer (some ⟨Bn,0,none⟩)] W fun e W'=>(∃v,e= .returned v)/\
   ((∃ys,ys=([]:List Int)/\J ys W')\/(∃pre,True/\Jx pre W')):=by
 refine callsIn_of_wp Tryz.func183 rfl trivial ?_ rfl;simp only[Tryz.ntmps183,List.size_toArray,bn,zy,Nat.reduceAdd,Nat.reduceSub,Array.replicate_succ,Array.replicate_zero,List.push_toArray,List.append_toArray,fJ,jc];gi_wp2
 gi_loopw [3] (fun p wr=>p= .int .i64 0/\wr=W) (fun p _=>0)
 case atStart=>exact ⟨rfl,rfl⟩
 case round=>
  obtain ⟨rfl,rfl⟩:=hrel;have hc:=hBn.cell;gi_wp2
  go_end0
  exact ⟨⟨_,rfl⟩,.inl ⟨_,rfl,h0⟩⟩
theorem am0(n:Nat)(sv:Value)(w:World)(hs:∃a m c,sv= .slice a m c):
  CallsIn Fence.wide n Tryz.prog 142 #[sv] w fun e w'=>e= .returned (.func (.func 183) #[] #[.pointer (some ⟨w.heap.size,0,none⟩)])/\w'=w.alloc (.cells #[sv] 22):=by
 obtain ⟨a,m,c,rfl⟩:=hs;refine callsIn_of_wp Tryz.func142 rfl trivial ?_ rfl;simp only[Tryz.ntmps142,List.size_toArray,bn,zy,Nat.reduceAdd,Nat.reduceSub,Array.replicate_succ,Array.replicate_zero,List.push_toArray,List.append_toArray,fJ,jc];gi_wp2
 go_ret
 exact ⟨rfl,rfl⟩
theorem afU(b:List UInt8)(hb:b.length<=1000000):PC Tryz.prog R9 [(aQ,B b)] [(.bool,.bool (decide (65528<b.length\/b.length%4≠0)))]:=by
 apply afw rfl;simp only[Rw,aH,aB,aA,ay,aC,forall_const,bE,(qh b.length hb).1];congr 3
 by_cases h1:65528<b.length<;>by_cases h2:b.length%4=0<;>simp[*]<;>omega
theorem amZ(w:World)(aL:KW Tryz.prog w)(N:Nat->Prop)(a:Option Addr)(cap:Nat)(hr:bq w N aQ (.slice a 0 cap) (B [])):
  Calls Tryz.prog 141 #[.slice a 0 cap] w fun e W'=>e= .returned (.bool false)/\Below w.heap.size w W':=by
 have h:=(PC.mq (by decide) (afU [] (by decide))).2 w N [.slice a 0 cap] aL ⟨_,_,rfl,hr,rfl⟩;refine h.mono ?_;rintro e w' ⟨v,rfl,⟨vs,⟨v1,r1,rfl,⟨_,h1,rfl⟩,rfl⟩,rfl⟩,hb⟩;simp only[Rd] at h1;subst h1;exact ⟨rfl,hb⟩
abbrev mF:Array Value:= #[.slice none 0 0,.bool false,.string ⟨#[]⟩]
theorem aog(w:World)(aL:KW Tryz.prog w)(N:Nat->Prop)(a:Option Addr)(cap:Nat)(hr:bq w N aQ (.slice a 0 cap) (B [])):
  CallsIn Fence.wide 3 Tryz.prog 114 #[.int .i64 0,.slice a 0 cap] w fun e W'=>e= .returned (.tuple #[.agg #[.slice none 0 0,.bool false,.string ⟨#[]⟩],.int .i64 0])/\Below w.heap.size w W':=by
 refine callsIn_of_wp_marks Tryz.func114 rfl trivial ?_ rfl;simp only[Tryz.ntmps114,List.size_toArray,bn,zy,Nat.reduceAdd,Nat.reduceSub,Array.replicate_succ,Array.replicate_zero,List.push_toArray,List.append_toArray,fJ,jc];have hB1:Below w.heap.size w (w.alloc (.cells #[.slice none 0 0,.bool false,.string ⟨#[]⟩] 77)):=(Below.refl _ w).alloc (aI _) _;have hw:=amZ (w.alloc (.cells #[.slice none 0 0,.bool false,.string ⟨#[]⟩] 77)) (aL.below hB1) N a cap (hr.mono hB1.size fun c hc hlt=>⟨hB1.block c hlt,hc⟩);clear aL hr;gi_wp2_with (first
  |(refine ⟨trivial,?_⟩;gi_at_call 141;refine (callsIn_wide.2 hw).mono ?_;rintro e w1 ⟨rfl,hb1⟩)
  |(refine ⟨trivial,?_⟩;gi_at_call 142;refine (am0 2 _ _ ⟨_,_,_,rfl⟩).mono ?_;rintro e w2 ⟨rfl,rfl⟩))
 have bN:=Boxed.new (w1.alloc (.cells mF 77)) 22 (.slice a 0 cap);rw[World.size_alloc] at bN;have g0:w1.heap[w.heap.size]?=some (.cells mF 77 (0,0)):=(hb1.block _ (by simp)).trans (World.alloc_heap_new w _);have hlt:w.heap.size<w1.heap.size:=by have:=hb1.size;simp at this;omega
 have hb2:Below w.heap.size w w1:=hB1.trans (hb1.mono (by simp));have hB3:Below w1.heap.size w1 ((w1.alloc (.cells mF 77)).alloc (.cells #[.slice a 0 cap] 22)):=((Below.refl _ w1).alloc (aI _) _).alloc (by simp) _;have g1:((w1.alloc (.cells mF 77)).alloc (.cells #[.slice a 0 cap] 22)).heap[w1.heap.size]?=some (.cells mF 77 (0,0)):=(Below.heap_alloc _ _ _ (by simp)).trans (World.alloc_heap_new w1 _);refine wpIn_rangeFunc_ownG (α:=Int) rfl (by decide) (gf:=183) (lb:= #[.pointer (some ⟨w1.heap.size+1,0,none⟩)]) rfl trivial (enters_of Tryz.func183 (by kernel_rfl) rfl)
  (encs:=fun x=> #[.int .u32 x]) (Kp:=fun _ _=>True) (S:=fun ys=>ys=[]) (Sp:=fun _=>True) (N:=0)
  (fun l J Jx W hW hJ _ hY h0=>alS l (w1.heap.size+1) a cap J Jx _ W (bN.kept (W':=W) (row:=none) ⟨hW.os,hW.tape,hW.output,hW.size,fun k hk _=>hW.block k hk⟩ (by simp)) h0)
  (fun _ _=>trivial) (fun _ _ _ _ _ _ _ _=>trivial)
  (Below.refl _ _) (fun _=>rfl)
  (fun _ W=>W.heap[w.heap.size]?=some (.cells mF 77 (0,0))/\W.heap[w1.heap.size]?=some (.cells mF 77 (0,0))/\Below w.heap.size w W)
  (fun _ _ _=>False) ?hI (fun _ _ _ _ _ hs _ _=>hs)
  ⟨(hB3.block _ hlt).trans g0,g1,hb2.trans (hB3.mono (by omega))⟩
  (fun x=> {tmps:= #[.int .i64 0,.slice a 0 cap,undef,undef,.pointer (some ⟨w.heap.size,0,none⟩),.int .i64 0,.pointer (some ⟨w1.heap.size,0,none⟩),.int .u32 x,undef,undef,undef,.int .i64 0,.bool false,.bool false,.int .i64 0,.bool false,.bool false,undef,.slice a 0 cap,.bool false,undef,.slice a 0 cap,.int .i64 0,.int .i64 0,.int .i64 0,.bool false,undef,.slice a 0 cap,.int .i64 0,.int .i64 0,.slice a 0 cap,.func (.func 183) #[] #[.pointer (some ⟨w1.heap.size+1,0,none⟩)],.int .u32 x,undef,undef,undef,undef,undef,undef,undef,undef,undef,undef,undef,undef,undef,undef,undef,undef,undef,undef,undef,undef,undef,undef,undef,undef,undef,undef,undef],defers:=[]}) ?assign ?body ?done ?stop
 case hI=>
  rintro s A A' row ⟨h1,h2,h3⟩ hg hr;have ne:∀k,k<=w1.heap.size->some k≠row:=by
   intro k hk e;have:=(hr k e.symm).1;simp at this;omega
  have l1:w1.heap.size<A.heap.size:=(fu.1 h2).1;refine ⟨(hg.block _ (by omega) (ne _ (by omega))).trans h1,(hg.block _ l1 (ne _ (by omega))).trans h2,?_⟩;exact h3.trans ⟨hg.os,hg.tape,hg.output,hg.size,fun k hk=>hg.block k (by omega) (ne k (by omega))⟩
 case assign=>
  intro l x W K hK;gi_wp2
  exact hK
 case body=>
  rintro l pre x W _ hlt;exact absurd hlt (by omega)
 case done=>
  rintro D ys W hD rfl ⟨h1,h2,h3⟩ hK;have e0:W.cell? ⟨w1.heap.size,0,none⟩=some (.slice none 0 0):=by simp[World.cell?,h2,mF]
  have e1:W.cell? ⟨w1.heap.size,1,none⟩=some (.bool false):=by simp[World.cell?,h2,mF]
  have e2:W.cell? ⟨w1.heap.size,2,none⟩=some (.string ⟨#[]⟩):=by simp[World.cell?,h2,mF]
  have f0:W.cell? ⟨w.heap.size,0,none⟩=some (.slice none 0 0):=by simp[World.cell?,h1,mF]
  have f1:W.cell? ⟨w.heap.size,1,none⟩=some (.bool false):=by simp[World.cell?,h1,mF]
  have f2:W.cell? ⟨w.heap.size,2,none⟩=some (.string ⟨#[]⟩):=by simp[World.cell?,h1,mF]
  have fz:=fun j=>Lib.frozen_of_heap h1 j;gi_wp2
  change bodyPostM _ _ _ _ _ _ _ (lJ W w.heap.size 0 [.slice none 0 0,.bool false,.string ⟨#[]⟩])
  obtain ⟨hz1,hz2,hz3,yT⟩:=xG (w:=w) (g:=w.heap.size) (aI _) [.slice none 0 0,.bool false,.string ⟨#[]⟩] 0 W mF h1 h3;have hsz:w1.heap.size<W.heap.size:=(fu.1 h2).1;have hK2:=(hz3 D (by simp at hD;omega)).trans hK;have hDl:D<W.heap.size:=(fu.1 hK).1;generalize lJ W w.heap.size 0 [.slice none 0 0,.bool false,.string ⟨#[]⟩]=Wz at*;have hp:=grownBy_putObj' Wz D (.deferred none);refine ⟨by simp,.inl ⟨_,_,rfl,run_takeDeferred hK2,?_⟩⟩;refine ⟨_,wR (cs:=mF) rfl _ _ w.heap.size 77 (0,0) _ rfl ((hp.block w.heap.size (by omega) (by simp at hD |-;omega)).trans hz1) Tryz.underlying77 rfl (by kernel_rfl) _ rfl,rfl,?_⟩;exact hz2.trans ⟨hp.os,hp.tape,hp.output,hp.size,fun k hk=>hp.block k (by have:=hz2.size;omega) (by simp at hD |-;omega)⟩
 case stop=>
  rintro D c pre W _ _ h _;exact h.elim
abbrev ais:FuncId:=114
abbrev FM:Sh:= .pair (.sl U32) (.pair .bool (.pair .str .unit))
abbrev Gb:C:= .ls [.ls [],.bool false,.str []]
theorem ags:PC Tryz.prog ais [(I64,.int 0),(aQ,B [])] [(FM,Gb),(I64,.int 0)]:=by
 refine PC.oF (by decide) ⟨⟨_,Tryz.func114,by kernel_rfl,by kernel_rfl⟩,fun w N vs aL hrd=>?_⟩;obtain ⟨_,_,rfl,⟨_,rfl,rfl⟩,v,_,rfl,hr,rfl⟩:=hrd;obtain ⟨a,cap,rfl⟩:∃a cap,v= .slice a 0 cap:=by
  obtain ⟨vs,⟨a,cap,rfl,_⟩,rfl⟩:=hr;exact ⟨a,cap,by simp[Sh.mk,Sh.isAgg,B,ofBytes]⟩
 refine (callsIn_wide.1 (aog w aL N a cap hr)).mono ?_;rintro e w' ⟨rfl,hbe⟩;refine ⟨_,rfl,⟨[.agg mF,.int .i64 0],⟨_,_,rfl,⟨mF.toList,?_,rfl⟩,_,_,rfl,⟨_,rfl,rfl⟩,rfl⟩,rfl⟩,hbe⟩;refine ⟨rfl,[.slice none 0 0],[.bool false,.string ⟨#[]⟩],rfl,⟨none,0,rfl,by simp,by simp[maxLen],by simp⟩,rfl,[.bool false],[.string ⟨#[]⟩],rfl,rfl,rfl,[.string ⟨#[]⟩],[],rfl,rfl,rfl⟩
end Go.Vc
