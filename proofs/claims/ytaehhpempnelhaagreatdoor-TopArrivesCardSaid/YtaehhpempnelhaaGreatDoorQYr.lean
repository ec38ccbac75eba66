/-
  The walks of the reader's methods (say): a reader is a block of the caller's own.
-/
import Derived.Test.YtaehhpempnelhaaGreatDoorProg
import Derived.Test.YtaehhpempnelhaaGreatDoorChecked
import Derived.WalkKit
import Derived.BigCall
import Derived.Lib.Builder
import Derived.Lib.OthersKept
import Derived.Test.YtaehhpempnelhaaGreatDoorQBase1
import Derived.Lib.MapLaws
set_option maxRecDepth 100000
namespace Go.Vc
open Go Go.Proofs Go.RowKit Go.Plain
def dX(W:World)(rb:Nat)(sv:Value)(wr:Bool):Prop:=W.heap[rb]?=some (.cells #[sv,.bool wr] 133 (0,0))
def gT(W:World)(lo rb:Nat)(sv:Value)(ws:List (List UInt8)):Prop:=
 ∃a cap,sv= .slice a ws.length cap/\ws.length<=cap/\cap<=maxLen/\(ws≠[]->∃b o,a=some ⟨b,o,none⟩/\b≠rb/\b<lo/\∀j x,ws[j]?=some x->W.cell? ⟨b,o+j,none⟩=some (.string ⟨x.toArray⟩))
theorem dX.cell0{W:World}{rb:Nat}{sv:Value}{wr:Bool}(h:dX W rb sv wr):W.cell? ⟨rb,0,none⟩=some sv:=by rw[Lib.cell_of_heap h];rfl
theorem dX.cell1{W:World}{rb:Nat}{sv:Value}{wr:Bool}(h:dX W rb sv wr):W.cell? ⟨rb,1,none⟩=some (.bool wr):=by rw[Lib.cell_of_heap h];rfl
theorem dX.frozen{W:World}{rb:Nat}{sv:Value}{wr:Bool}(h:dX W rb sv wr)(j:Nat):W.frozen? ⟨rb,j,none⟩=false:=Lib.frozen_of_heap h j
theorem dX.set0{W:World}{rb:Nat}{sv:Value}{wr:Bool}(h:dX W rb sv wr)(lD:Value):dX (W.setCell ⟨rb,0,none⟩ lD) rb lD wr:=by
 unfold dX at h |-;simp[World.setCell,Array.getElem?_modify,h]
theorem dX.set1{W:World}{rb:Nat}{sv:Value}{wr:Bool}(h:dX W rb sv wr)(b:Bool):dX (W.setCell ⟨rb,1,none⟩ (.bool b)) rb sv b:=by
 unfold dX at h |-;simp[World.setCell,Array.getElem?_modify,h]
theorem zB(w:World)(b i:Nat)(v:Value):w.grownBy (w.setCell ⟨b,i,none⟩ v) (some b):=
 ⟨rfl,rfl,rfl,by simp[World.setCell],fun k _ hk=>Below.heap_setCell _ _ _ _ (fun e=>hk (by simp[e]))⟩
theorem YJ{W W':World}{rb b:Nat}(hg:W.grownBy W' (some rb))(hne:b≠rb)(hlt:b<W.heap.size)(j:Nat):W'.cell? ⟨b,j,none⟩=W.cell? ⟨b,j,none⟩:=by
 have:=hg.block b hlt (by simp;exact fun e=>hne e);unfold World.cell?;rw[this]
theorem gT.grown{W W':World}{lo rb:Nat}{sv:Value}{ws:List (List UInt8)}(h:gT W lo rb sv ws)(hlo:lo<=W.heap.size)(hg:W.grownBy W' (some rb)):gT W' lo rb sv ws:=by
 obtain ⟨a,cap,h1,h2,h3,h4⟩:=h;refine ⟨a,cap,h1,h2,h3,fun hne=>?_⟩;obtain ⟨b,o,e1,e2,e3,e4⟩:=h4 hne;exact ⟨b,o,e1,e2,e3,fun j x hx=>by rw[YJ hg e2 (by omega)];exact e4 j x hx⟩
set_option maxHeartbeats 4000000 in
theorem MC(W:World)(lo rb:Nat)(hlo:lo<=W.heap.size)(sv:Value)(wr:Bool)(ws:List (List UInt8))(h:dX W rb sv wr)(hw:gT W lo rb sv ws):
  Calls Tryz.prog 96 #[.pointer (some ⟨rb,0,none⟩)] W fun e W'=>∃lD,e= .returned (.string ⟨(ws.headD []).toArray⟩)/\dX W' rb lD (wr||ws.isEmpty)/\gT W' lo rb lD ws.tail/\W.grownBy W' (some rb):=by
 have hw0:=hw;obtain ⟨a,cap,rfl,hcap,hmax,hb⟩:=hw;have c1:=h.cell1;have f0:=h.frozen 0;have f1:=h.frozen 1;cases ws with
 |nil=>
  have c0:W.cell? ⟨rb,0,none⟩=some (.slice a 0 cap):=h.cell0;have hfin:=h.set1 true;have hgr:=zB W rb 1 (.bool true);have hw1:=hw0.grown hlo hgr;clear hb hcap hw0;go_enter Tryz.func96,Tryz.ntmps96
  go_wp2
  go_ret
  exact ⟨_,rfl,by simpa using hfin,hw1,hgr⟩
 |cons x ws=>
  obtain ⟨b,o,rfl,hne,hlt,hc⟩:=hb (by simp);have c0:W.cell? ⟨rb,0,none⟩=some (.slice (some ⟨b,o,none⟩) (ws.length+1) cap):=h.cell0;have cx:W.cell? ⟨b,o,none⟩=some (.string ⟨x.toArray⟩):=by have:=hc 0 x rfl;simpa using this
  have asi:ws.length+1<=cap:=by simpa using hcap
  have i0:(0:Int)<=0/\(0:Int)<((ws.length+1:Nat):Int):=by omega
  clear hb;by_cases h1:cap=1
  .subst h1;have hws:ws=[]:=jH (by omega);subst hws;have hfin:=h.set0 (.slice (some ⟨b,o,none⟩) 0 0);have hgr:=zB W rb 0 (.slice (some ⟨b,o,none⟩) 0 0);have hw1:gT (W.setCell ⟨rb,0,none⟩ (.slice (some ⟨b,o,none⟩) 0 0)) lo rb (.slice (some ⟨b,o,none⟩) 0 0) []:=⟨_,_,rfl,by simp,by simp,fun h=>absurd rfl h⟩;clear hc hw0 hcap;go_enter Tryz.func96,Tryz.ntmps96
   go_wp2
   go_ret
   exact ⟨_,rfl,by simpa using hfin,hw1,hgr⟩
  .have hfin:=h.set0 (.slice (some ⟨b,o+1,none⟩) ws.length (cap-1));have hgr:=zB W rb 0 (.slice (some ⟨b,o+1,none⟩) ws.length (cap-1));have hw1:gT (W.setCell ⟨rb,0,none⟩ (.slice (some ⟨b,o+1,none⟩) ws.length (cap-1))) lo rb (.slice (some ⟨b,o+1,none⟩) ws.length (cap-1)) ws:=by
    refine ⟨_,_,rfl,by omega,by omega,fun _=>⟨b,o+1,rfl,hne,hlt,fun j y hy=>?_⟩⟩;rw[YJ hgr hne (by omega)];have:=hc (j+1) y (by simpa using hy);rw[show o+1+j=o+(j+1) by omega];exact this
   have hcp:1<=cap:=by omega
   clear hc hw0 hcap;go_enter Tryz.func96,Tryz.ntmps96
   go_wp2
   go_ret
   exact ⟨_,rfl,by simpa using hfin,hw1,hgr⟩
def xZ(most:Nat):List (List UInt8)->Nat->Nat×Bool
 | [],v=>(v,false)
 |c::r,v=>if 48<=(Lib.decodeL c).1/\(Lib.decodeL c).1<=57 then (if 10*v+((Lib.decodeL c).1-48)>most then (0,true) else xZ most r (10*v+((Lib.decodeL c).1-48))) else (0,true)
def aX(most:Nat)(w:List UInt8):Nat×Bool:=xZ most (chunks w) 0
theorem abM{s:List UInt8}{p:Nat}:Utf8.decode ⟨s.toArray⟩ p=Lib.decodeL (s.drop p):=(Lib.decodeL_drop ⟨s.toArray⟩ p).symm
theorem dX.lt{W:World}{rb:Nat}{sv:Value}{wr:Bool}(h:dX W rb sv wr):rb<W.heap.size:=(fu.1 h).1
theorem dX.of_heap{W W':World}{rb:Nat}{sv:Value}{wr:Bool}(h:dX W rb sv wr)(hk:W'.heap[rb]?=W.heap[rb]?):dX W' rb sv wr:=by unfold dX at h |-;rw[hk];exact h
theorem ajV{a w:World}{row:Option Nat}(h:a.grownBy w row){k:Nat}(hk:a.heap.size<=k)(s:ByteArray)(pos:Nat):a.grownBy (w.iterAt k s pos) row:=
 ⟨h.os,h.tape,h.output,by rw[Lib.iterAt_size];exact h.size,fun j hj hn=>by rw[Lib.iterAt_other w k j s pos (by omega)];exact h.block j hj hn⟩
theorem nM{a w w':World}{row:Option Nat}(h:a.grownBy w row)(k:w.grownBy w' row):a.grownBy w' row:=
 ⟨k.os.trans h.os,k.tape.trans h.tape,k.output.trans h.output,kL h.size k.size,fun j hj hn=>(k.block j (zx hj h.size) hn).trans (h.block j hj hn)⟩
theorem Lr{a w:World}{row:Option Nat}(h:a.grownBy w row)(o:Obj):a.grownBy (w.alloc o) row:=nM h (World.grownBy_alloc w o row)
theorem gT.jv{W W':World}{lo rb:Nat}{sv:Value}{ws:List (List UInt8)}(h:gT W lo rb sv ws)(hk:∀k,k<lo->k≠rb->W'.heap[k]?=W.heap[k]?):gT W' lo rb sv ws:=by
 obtain ⟨a,cap,h1,h2,h3,h4⟩:=h;refine ⟨a,cap,h1,h2,h3,fun hne=>?_⟩;obtain ⟨b,o,e1,e2,e3,e4⟩:=h4 hne;refine ⟨b,o,e1,e2,e3,fun j x hx=>?_⟩;have:=e4 j x hx;unfold World.cell? at this |-;rw[hk b e3 e2];exact this
theorem Yo(most:Nat)(c:List UInt8)(r:List (List UInt8))(v:Nat):xZ most (c::r) v=if 48<=(Lib.decodeL c).1/\(Lib.decodeL c).1<=57 then (if 10*v+((Lib.decodeL c).1-48)>most then (0,true) else xZ most r (10*v+((Lib.decodeL c).1-48))) else (0,true):=rfl
set_option maxHeartbeats 4000000 in
theorem GX(W:World)(lo rb:Nat)(hlo:lo<=W.heap.size)(sv:Value)(wb:Bool)(ws:List (List UInt8))(most:Nat)(hm:most<1000000000000000000)(s:List UInt8)(hs:ws.headD []=s)(hlen:s.length<=1000000)(R:Nat×Bool)(hRR:aX most s=R)(h:dX W rb sv wb)(hw:gT W lo rb sv ws):
  Calls Tryz.prog 98 #[.pointer (some ⟨rb,0,none⟩),.int .u64 most] W fun e W'=>∃lD,e= .returned (.int .u64 (R.1:Nat))/\dX W' rb lD ((wb||ws.isEmpty)||R.2)/\gT W' lo rb lD ws.tail/\W.grownBy W' (some rb):=by
 have FV:=h.lt;go_enter Tryz.func98,Tryz.ntmps98
 go_wp2_with (go_at_call 96;refine (MC W lo rb hlo sv wb ws h hw).mono ?_)
 first|(rintro e W1 ⟨jC,rfl,h1,w1,g1⟩)|(intro e W1 jC he h1 w1 g1;subst he)
 simp only[hs];have hg1:=g1.size;go_wp2
 go_loopw [6] (fun p W2=>∃(pos v:Nat),p= .int .u64 (v:Int)/\pos<=s.length/\v<=most/\dX W2 rb jC (wb||ws.isEmpty)/\gT W2 lo rb jC ws.tail/\W.grownBy W2 (some rb)/\W2.heap[W1.heap.size]?=some (.stringIter ⟨s.toArray⟩ pos)/\R=xZ most (chunks (s.drop pos)) v) (fun _ W2=>s.length-W2.iterPos W1.heap.size)
 case atStart=>
  refine ⟨0,0,rfl,by omega,by omega,h1.of_heap (Lib.alloc_old W1 _ rb h1.lt),w1.jv (fun k hk _=>Lib.alloc_old W1 _ k (by omega)),Lr g1 _,World.iter_heap W1 _ 0,by rw[<-hRR];rfl⟩
 case round=>
  obtain ⟨pos,v,rfl,hp,hv,hR,hWd,hG,hit,qY⟩:=hrel;have hsz:W1.heap.size<wr.heap.size:=(fu.1 hit).1;have hS:(⟨s.toArray⟩:ByteArray).size=s.length:=by simp[ByteArray.size]
  have hrb:rb≠W1.heap.size:=by have:=h1.lt;omega
  by_cases hpl:pos<s.length
  .have hne:s.drop pos≠[]:=by intro h;have:=congrArg List.length h;simp at this;omega
   have hnx:∀ty,(Instr.next (.pointer (some ⟨W1.heap.size,0,none⟩)) true ty).run Tryz.prog wr=_:=fun ty=>Lib.run_next_any_at wr W1.heap.size ⟨s.toArray⟩ pos ty hit (by omega);simp only[abM] at hnx;have hwd:=xg (s.drop pos);have hd1:=zJ hne;have hdc:=(DC hne).2;have hck:=wX hne;have hdl:(Lib.decodeL (s.drop pos)).1<=2147483647:=by have:=decode_le ⟨s.toArray⟩ pos;rwa[abM] at this
   have hst:xZ most (chunks (s.drop pos)) v=if 48<=(Lib.decodeL (s.drop pos)).1/\(Lib.decodeL (s.drop pos)).1<=57 then (if 10*v+((Lib.decodeL (s.drop pos)).1-48)>most then (0,true) else xZ most (chunks (s.drop (pos+(Lib.decodeL (s.drop pos)).2))) (10*v+((Lib.decodeL (s.drop pos)).1-48))) else (0,true):=by
    rw[hck,Yo,hdc,rC];rfl
   have hR2:=hR.of_heap (Lib.iterAt_other wr W1.heap.size rb ⟨s.toArray⟩ (pos+(Lib.decodeL (s.drop pos)).2) hrb);have hW2:=hWd.jv (W':=wr.iterAt W1.heap.size ⟨s.toArray⟩ (pos+(Lib.decodeL (s.drop pos)).2)) (fun k hk hkr=>Lib.iterAt_other wr W1.heap.size k ⟨s.toArray⟩ _ (by omega));have hit2:=Lib.iterAt_heap wr W1.heap.size ⟨s.toArray⟩ pos (pos+(Lib.decodeL (s.drop pos)).2) hit;have hG2:=ajV hG (k:=W1.heap.size) hg1 ⟨s.toArray⟩ (pos+(Lib.decodeL (s.drop pos)).2);unfold bf at hwd hd1;rw[jV] at hd1;generalize wr.iterAt W1.heap.size ⟨s.toArray⟩ (pos+(Lib.decodeL (s.drop pos)).2)=wn at*;generalize hrr:(Lib.decodeL (s.drop pos)).1=r at*;have c1:=hR2.cell1;have f1:=hR2.frozen 1;by_cases hlow:r<48
   .have t1:decide (((r:Nat):Int)<48)=true:=decide_eq_true (by omega);have hbad:R=(0,true):=by rw[qY,hst,if_neg (by omega)]
    have hfin:=hR2.set1 true;have hwf:=hW2.jv (W':=wn.setCell ⟨rb,1,none⟩ (.bool true)) (fun k hk hkr=>Below.heap_setCell _ _ _ _ (fun e=>hkr (by simp[e])));have hgf:=nM hG2 (zB wn rb 1 (.bool true));subst hbad;clear qY hst hck hdc hRR;go_wp2
    go_ret
    first|exact ⟨rfl,_,by simpa using hfin,hwf,hgf⟩|exact ⟨_,rfl,by simpa using hfin,hwf,hgf⟩
   .by_cases hhi:57<r
    .have t1:decide (((r:Nat):Int)<48)=false:=decide_eq_false (by omega);have t2:decide (57<((r:Nat):Int))=true:=decide_eq_true (by omega);have hbad:R=(0,true):=by rw[qY,hst,if_neg (by omega)]
     have hfin:=hR2.set1 true;have hwf:=hW2.jv (W':=wn.setCell ⟨rb,1,none⟩ (.bool true)) (fun k hk hkr=>Below.heap_setCell _ _ _ _ (fun e=>hkr (by simp[e])));have hgf:=nM hG2 (zB wn rb 1 (.bool true));subst hbad;clear qY hst hck hdc hRR;go_wp2
     go_ret
     first|exact ⟨rfl,_,by simpa using hfin,hwf,hgf⟩|exact ⟨_,rfl,by simpa using hfin,hwf,hgf⟩
    .have t1:decide (((r:Nat):Int)<48)=false:=decide_eq_false (by omega);have t2:decide (57<((r:Nat):Int))=false:=decide_eq_false (by omega);rw[if_pos ⟨by omega,by omega⟩] at hst;obtain ⟨q,rfl⟩:∃q,r=48+q:=⟨r-48,by omega⟩;simp only[Nat.add_sub_cancel_left] at hst;by_cases hbig:10*v+q>most
     .have hbad:R=(0,true):=by rw[qY,hst,if_pos hbig]
      have hfin:=hR2.set1 true;have hwf:=hW2.jv (W':=wn.setCell ⟨rb,1,none⟩ (.bool true)) (fun k hk hkr=>Below.heap_setCell _ _ _ _ (fun e=>hkr (by simp[e])));have hgf:=nM hG2 (zB wn rb 1 (.bool true));have t3:(most:Int)<10*(v:Int)+(q:Int):=by omega
      subst hbad;clear qY hst hck hdc hRR;go_wp2
      go_ret
      first|exact ⟨rfl,_,by simpa using hfin,hwf,hgf⟩|exact ⟨_,rfl,by simpa using hfin,hwf,hgf⟩
     .have t3:¬(most:Int)<10*(v:Int)+(q:Int):=by omega
      rw[if_neg hbig] at hst;go_wp2
      go_roundw
      case rel=>exact ⟨pos+(Lib.decodeL (s.drop pos)).2,10*v+q,by congr 1;omega,by omega,by omega,hR2,hW2,hG2,hit2,qY.trans hst⟩
      case measure=>simp only[World.iterPos,hit2,hit];omega
  .have hnx:∀ty,(Instr.next (.pointer (some ⟨W1.heap.size,0,none⟩)) true ty).run Tryz.prog wr=_:=fun ty=>Lib.run_next_end_at wr W1.heap.size ⟨s.toArray⟩ pos ty hit (by omega);rw[AO (by omega),zo] at qY;have hend:R=(v,false):=qY;subst hend;clear qY hRR;go_wp2
   go_ret
   first|exact ⟨rfl,_,by simpa using hR,hWd,hG⟩|exact ⟨_,rfl,by simpa using hR,hWd,hG⟩
theorem zC(most:Nat):∀(l:List (List UInt8)) (v:Nat),v<=most->(xZ most l v).1<=most
 | [],v,h=>h
 |c::r,v,h=>by
  rw[Yo];split
  .split
   .exact bK _
   .exact zC most r _ (by omega)
  .exact bK _
end Go.Vc
