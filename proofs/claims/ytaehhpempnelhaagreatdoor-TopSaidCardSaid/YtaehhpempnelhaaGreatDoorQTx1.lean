/-
  Contracts of functions of the program, each out of its condition or by a walk, and plain lemmas.
-/
import Derived.Test.YtaehhpempnelhaaGreatDoorProg
import Derived.BigCall
import Derived.Lib.Builder
import Derived.Shelf.Strings.BuilderRune
import Derived.Shelf.Small.Strs
import Derived.Shelf.Strings.Search1
import Derived.Shelf.Unicode.Decode
import Derived.Shelf.Unicode.DecodeSlow
import Derived.Shelf.Unicode.DecodeAny
import Derived.Test.YtaehhpempnelhaaGreatDoorQVcs1
import Derived.Lib.TrimUEq
set_option maxRecDepth 100000
namespace Go.Vc
open Go Go.Proofs Go.RowKit Go.Plain Tryz
def gL(W:World)(rb:Nat)(sv:Value)(wr:Bool):Prop:=W.heap[rb]?=some (.cells #[sv,.bool wr] 133 (0,0))
def jI(W:World)(lo rb:Nat)(sv:Value)(ws:List (List UInt8)):Prop:=
 ∃a cap,sv=.slice a ws.length cap/\ws.length<=cap/\cap<=maxLen/\(ws≠[]->∃b o,a=some ⟨b,o,none⟩/\b≠rb/\b<lo/\∀j x,ws[j]?=some x->W.cell? ⟨b,o+j,none⟩=some (.string ⟨x.toArray⟩))
theorem gL.cell0{W:World}{rb:Nat}{sv:Value}{wr:Bool}(h:gL W rb sv wr):W.cell? ⟨rb,0,none⟩=some sv:=by rw[fA h];rfl
theorem gL.cell1{W:World}{rb:Nat}{sv:Value}{wr:Bool}(h:gL W rb sv wr):W.cell? ⟨rb,1,none⟩=some (.bool wr):=by rw[fA h];rfl
theorem gL.frozen{W:World}{rb:Nat}{sv:Value}{wr:Bool}(h:gL W rb sv wr)(j:Nat):W.frozen? ⟨rb,j,none⟩=false:=iY h j
theorem gL.set0{W:World}{rb:Nat}{sv:Value}{wr:Bool}(h:gL W rb sv wr)(p9:Value):gL (W.setCell ⟨rb,0,none⟩ p9) rb p9 wr:=by
 unfold gL at h |-;simp[World.setCell,zn,h]
theorem gL.set1{W:World}{rb:Nat}{sv:Value}{wr:Bool}(h:gL W rb sv wr)(b:Bool):gL (W.setCell ⟨rb,1,none⟩ (.bool b)) rb sv b:=by
 unfold gL at h |-;simp[World.setCell,zn,h]
theorem uq(w:World)(b i:Nat)(v:Value):w.grownBy (w.setCell ⟨b,i,none⟩ v) (some b):=
 ⟨rfl,rfl,rfl,by simp[World.setCell],fun k _ hk=>gu _ _ _ _ (fun e=>hk (by simp[e]))⟩
theorem aeT{W W':World}{rb b:Nat}(hg:W.grownBy W' (some rb))(hne:b≠rb)(hlt:b<W.heap.size)(j:Nat):W'.cell? ⟨b,j,none⟩=W.cell? ⟨b,j,none⟩:=by
 have:=hg.block b hlt (by simp;exact fun e=>hne e);unfold World.cell?;rw[this]
theorem jI.grown{W W':World}{lo rb:Nat}{sv:Value}{ws:List (List UInt8)}(h:jI W lo rb sv ws)(hlo:lo<=W.heap.size)(hg:W.grownBy W' (some rb)):jI W' lo rb sv ws:=by
 obtain⟨a,cap,h1,h2,h3,h4⟩:=h;refine⟨a,cap,h1,h2,h3,fun hne=>?_⟩;obtain⟨b,o,e1,e2,e3,e4⟩:=h4 hne;exact⟨b,o,e1,e2,e3,fun j x hx=>by rw[aeT hg e2 (by omega)];exact e4 j x hx⟩
set_option maxHeartbeats 4000000 in
theorem SC(W:World)(lo rb:Nat)(hlo:lo<=W.heap.size)(sv:Value)(wr:Bool)(ws:List (List UInt8))(h:gL W rb sv wr)(hw:jI W lo rb sv ws):
  Calls prog 96 #[.pointer (some ⟨rb,0,none⟩)] W fun e W'=>∃p9,e=.returned (.string ⟨(ws.headD []).toArray⟩)/\gL W' rb p9 (wr||ws.isEmpty)/\jI W' lo rb p9 ws.tail/\W.grownBy W' (some rb):=by
 have hw0:=hw;obtain⟨a,cap,rfl,hcap,hmax,hb⟩:=hw;have c1:=h.cell1;have f0:=h.frozen 0;have f1:=h.frozen 1;cases ws with
 |nil=>
  have c0:W.cell? ⟨rb,0,none⟩=some (.slice a 0 cap):=h.cell0;have hfin:=h.set1 true;have hgr:=uq W rb 1 (.bool true);have hw1:=hw0.grown hlo hgr;clear hb hcap hw0;go_enter func96,ntmps96
  go_wp2
  go_ret
  exact⟨_,rfl,by simpa using hfin,hw1,hgr⟩
 |cons x ws=>
  obtain⟨b,o,rfl,hne,hlt,hc⟩:=hb (by simp);have c0:W.cell? ⟨rb,0,none⟩=some (.slice (some ⟨b,o,none⟩) (ws.length+1) cap):=h.cell0;have cx:W.cell? ⟨b,o,none⟩=some (.string ⟨x.toArray⟩):=by have:=hc 0 x rfl;simpa using this
  have aDz:ws.length+1<=cap:=by simpa using hcap
  have i0:(0:Int)<=0/\(0:Int)<((ws.length+1:Nat):Int):=by omega
  clear hb;by_cases h1:cap=1
  .subst h1;have hws:ws=[]:=oC (by omega);subst hws;have hfin:=h.set0 (.slice (some ⟨b,o,none⟩) 0 0);have hgr:=uq W rb 0 (.slice (some ⟨b,o,none⟩) 0 0);have hw1:jI (W.setCell ⟨rb,0,none⟩ (.slice (some ⟨b,o,none⟩) 0 0)) lo rb (.slice (some ⟨b,o,none⟩) 0 0) []:=⟨_,_,rfl,by simp,by simp,fun h=>absurd rfl h⟩;clear hc hw0 hcap;go_enter func96,ntmps96
   go_wp2
   go_ret
   exact⟨_,rfl,by simpa using hfin,hw1,hgr⟩
  have hfin:=h.set0 (.slice (some ⟨b,o+1,none⟩) ws.length (cap-1));have hgr:=uq W rb 0 (.slice (some ⟨b,o+1,none⟩) ws.length (cap-1));have hw1:jI (W.setCell ⟨rb,0,none⟩ (.slice (some ⟨b,o+1,none⟩) ws.length (cap-1))) lo rb (.slice (some ⟨b,o+1,none⟩) ws.length (cap-1)) ws:=by
   refine⟨_,_,rfl,by omega,by omega,fun _=>⟨b,o+1,rfl,hne,hlt,fun j y hy=>?_⟩⟩;rw[aeT hgr hne (by omega)];have:=hc (j+1) y (by simpa using hy);rw[show o+1+j=o+(j+1) by omega];exact this
  have hcp:1<=cap:=by omega
  clear hc hw0 hcap;go_enter func96,ntmps96
  go_wp2
  go_ret
  exact⟨_,rfl,by simpa using hfin,hw1,hgr⟩
def BD(most:Nat):List (List UInt8)->Nat->Nat×Bool
 | [],v=>(v,false)
 |c::r,v=>if 48<=(Lib.decodeL c).1/\(Lib.decodeL c).1<=57 then(if 10*v+((Lib.decodeL c).1-48)>most then(0,true)else BD most r (10*v+((Lib.decodeL c).1-48)))else(0,true)
def dw(most:Nat)(w:List UInt8):Nat×Bool:=BD most (chunks w) 0
theorem aie{s:List UInt8}{p:Nat}:Utf8.decode ⟨s.toArray⟩ p=Lib.decodeL (s.drop p):=(Lib.decodeL_drop ⟨s.toArray⟩ p).symm
theorem gL.lt{W:World}{rb:Nat}{sv:Value}{wr:Bool}(h:gL W rb sv wr):rb<W.heap.size:=(iX.1 h).1
theorem gL.of_heap{W W':World}{rb:Nat}{sv:Value}{wr:Bool}(h:gL W rb sv wr)(hk:W'.heap[rb]?=W.heap[rb]?):gL W' rb sv wr:=by unfold gL at h |-;rw[hk];exact h
theorem asL{a w:World}{row:Option Nat}(h:a.grownBy w row){k:Nat}(hk:a.heap.size<=k)(s:ByteArray)(pos:Nat):a.grownBy (w.iterAt k s pos) row:=
 ⟨h.os,h.tape,h.output,by rw[Lib.iterAt_size];exact h.size,fun j hj hn=>by rw[Lib.iterAt_other w k j s pos (by omega)];exact h.block j hj hn⟩
theorem jY{a w w':World}{row:Option Nat}(h:a.grownBy w row)(k:w.grownBy w' row):a.grownBy w' row:=
 ⟨k.os.trans h.os,k.tape.trans h.tape,k.output.trans h.output,zw h.size k.size,fun j hj hn=>(k.block j (nK hj h.size) hn).trans (h.block j hj hn)⟩
theorem xM{a w:World}{row:Option Nat}(h:a.grownBy w row)(o:Obj):a.grownBy (w.alloc o) row:=jY h (Am w o row)
theorem jI.pI{W W':World}{lo rb:Nat}{sv:Value}{ws:List (List UInt8)}(h:jI W lo rb sv ws)(hk:∀k,k<lo->k≠rb->W'.heap[k]?=W.heap[k]?):jI W' lo rb sv ws:=by
 obtain⟨a,cap,h1,h2,h3,h4⟩:=h;refine⟨a,cap,h1,h2,h3,fun hne=>?_⟩;obtain⟨b,o,e1,e2,e3,e4⟩:=h4 hne;refine⟨b,o,e1,e2,e3,fun j x hx=>?_⟩;have:=e4 j x hx;unfold World.cell? at this |-;rw[hk b e3 e2];exact this
theorem Sc(most:Nat)(c:List UInt8)(r:List (List UInt8))(v:Nat):BD most (c::r) v=if 48<=(Lib.decodeL c).1/\(Lib.decodeL c).1<=57 then(if 10*v+((Lib.decodeL c).1-48)>most then(0,true)else BD most r (10*v+((Lib.decodeL c).1-48)))else(0,true):=rfl
set_option maxHeartbeats 4000000 in
theorem M0(W:World)(lo rb:Nat)(hlo:lo<=W.heap.size)(sv:Value)(wb:Bool)(ws:List (List UInt8))(most:Nat)(hm:most<1000000000000000000)(s:List UInt8)(hs:ws.headD []=s)(hlen:s.length<=1000000)(R:Nat×Bool)(hRR:dw most s=R)(h:gL W rb sv wb)(hw:jI W lo rb sv ws):
  Calls prog 98 #[.pointer (some ⟨rb,0,none⟩),.int .u64 most] W fun e W'=>∃p9,e=.returned (.int .u64 (R.1:Nat))/\gL W' rb p9 ((wb||ws.isEmpty)||R.2)/\jI W' lo rb p9 ws.tail/\W.grownBy W' (some rb):=by
 have LM:=h.lt;go_enter func98,ntmps98
 go_wp2_with (go_at_call 96;refine(SC W lo rb hlo sv wb ws h hw).mono ?_)
 first|(rintro e W1 ⟨oG,rfl,h1,w1,g1⟩)|(intro e W1 oG he h1 w1 g1;subst he)
 simp only[hs];have hg1:=g1.size;go_wp2
 go_loopw [6] (fun p W2=>∃(pos v:Nat),p=.int .u64 (v:Int)/\pos<=s.length/\v<=most/\gL W2 rb oG (wb||ws.isEmpty)/\jI W2 lo rb oG ws.tail/\W.grownBy W2 (some rb)/\W2.heap[W1.heap.size]?=some (.stringIter ⟨s.toArray⟩ pos)/\R=BD most (chunks (s.drop pos)) v) (fun _ W2=>s.length-W2.iterPos W1.heap.size)
 case atStart=>
  refine⟨0,0,rfl,by omega,by omega,h1.of_heap (iT W1 _ rb h1.lt),w1.pI (fun k hk _=>iT W1 _ k (by omega)),xM g1 _,World.iter_heap W1 _ 0,by rw[<-hRR];rfl⟩
 case round=>
  obtain⟨pos,v,rfl,hp,hv,hR,hWd,hG,hit,Ag⟩:=hrel;have hsz:W1.heap.size<wr.heap.size:=(iX.1 hit).1;have hS:(⟨s.toArray⟩:ByteArray).size=s.length:=by simp[ByteArray.size]
  have hrb:rb≠W1.heap.size:=by have:=h1.lt;omega
  by_cases hpl:pos<s.length
  .have hne:s.drop pos≠[]:=by intro h;have:=pX List.length h;simp at this;omega
   have hnx:∀ty,(Instr.next (.pointer (some ⟨W1.heap.size,0,none⟩)) true ty).run prog wr=_:=fun ty=>Lib.run_next_any_at wr W1.heap.size ⟨s.toArray⟩ pos ty hit (by omega);simp only[aie]at hnx;have hwd:=Bb (s.drop pos);have hd1:=Db hne;have hdc:=(JQ hne).2;have hck:=A8 hne;have hdl:(Lib.decodeL (s.drop pos)).1<=2147483647:=by have:=decode_le ⟨s.toArray⟩ pos;rwa[aie]at this
   have hst:BD most (chunks (s.drop pos)) v=if 48<=(Lib.decodeL (s.drop pos)).1/\(Lib.decodeL (s.drop pos)).1<=57 then(if 10*v+((Lib.decodeL (s.drop pos)).1-48)>most then(0,true)else BD most (chunks (s.drop (pos+(Lib.decodeL (s.drop pos)).2))) (10*v+((Lib.decodeL (s.drop pos)).1-48)))else(0,true):=by
    rw[hck,Sc,hdc,xq];rfl
   have hR2:=hR.of_heap (Lib.iterAt_other wr W1.heap.size rb ⟨s.toArray⟩ (pos+(Lib.decodeL (s.drop pos)).2) hrb);have hW2:=hWd.pI (W':=wr.iterAt W1.heap.size ⟨s.toArray⟩ (pos+(Lib.decodeL (s.drop pos)).2)) (fun k hk hkr=>Lib.iterAt_other wr W1.heap.size k ⟨s.toArray⟩ _ (by omega));have hit2:=Lib.iterAt_heap wr W1.heap.size ⟨s.toArray⟩ pos (pos+(Lib.decodeL (s.drop pos)).2) hit;have hG2:=asL hG (k:=W1.heap.size) hg1 ⟨s.toArray⟩ (pos+(Lib.decodeL (s.drop pos)).2);unfold bQ at hwd hd1;rw[lW]at hd1;generalize wr.iterAt W1.heap.size ⟨s.toArray⟩ (pos+(Lib.decodeL (s.drop pos)).2)=wn at*;generalize hrr:(Lib.decodeL (s.drop pos)).1=r at*;have c1:=hR2.cell1;have f1:=hR2.frozen 1;by_cases hlow:r<48
   .have t1:decide (((r:Nat):Int)<48)=true:=iH (by omega);have hbad:R=(0,true):=by rw[Ag,hst,zq (by omega)]
    have hfin:=hR2.set1 true;have hwf:=hW2.pI (W':=wn.setCell ⟨rb,1,none⟩ (.bool true)) (fun k hk hkr=>gu _ _ _ _ (fun e=>hkr (by simp[e])));have hgf:=jY hG2 (uq wn rb 1 (.bool true));subst hbad;clear Ag hst hck hdc hRR;go_wp2
    go_ret
    first|exact⟨rfl,_,by simpa using hfin,hwf,hgf⟩|exact⟨_,rfl,by simpa using hfin,hwf,hgf⟩
   .by_cases hhi:57<r
    .have t1:decide (((r:Nat):Int)<48)=false:=gQ (by omega);have t2:decide (57<((r:Nat):Int))=true:=iH (by omega);have hbad:R=(0,true):=by rw[Ag,hst,zq (by omega)]
     have hfin:=hR2.set1 true;have hwf:=hW2.pI (W':=wn.setCell ⟨rb,1,none⟩ (.bool true)) (fun k hk hkr=>gu _ _ _ _ (fun e=>hkr (by simp[e])));have hgf:=jY hG2 (uq wn rb 1 (.bool true));subst hbad;clear Ag hst hck hdc hRR;go_wp2
     go_ret
     first|exact⟨rfl,_,by simpa using hfin,hwf,hgf⟩|exact⟨_,rfl,by simpa using hfin,hwf,hgf⟩
    .have t1:decide (((r:Nat):Int)<48)=false:=gQ (by omega);have t2:decide (57<((r:Nat):Int))=false:=gQ (by omega);rw[aC ⟨by omega,by omega⟩]at hst;obtain⟨q,rfl⟩:∃q,r=48+q:=⟨r-48,by omega⟩;simp only[xA]at hst;by_cases hbig:10*v+q>most
     .have hbad:R=(0,true):=by rw[Ag,hst,aC hbig]
      have hfin:=hR2.set1 true;have hwf:=hW2.pI (W':=wn.setCell ⟨rb,1,none⟩ (.bool true)) (fun k hk hkr=>gu _ _ _ _ (fun e=>hkr (by simp[e])));have hgf:=jY hG2 (uq wn rb 1 (.bool true));have t3:(most:Int)<10*(v:Int)+(q:Int):=by omega
      subst hbad;clear Ag hst hck hdc hRR;go_wp2
      go_ret
      first|exact⟨rfl,_,by simpa using hfin,hwf,hgf⟩|exact⟨_,rfl,by simpa using hfin,hwf,hgf⟩
     .have t3:¬(most:Int)<10*(v:Int)+(q:Int):=by omega
      rw[zq hbig]at hst;go_wp2
      go_roundw
      case rel=>exact⟨pos+(Lib.decodeL (s.drop pos)).2,10*v+q,by congr 1;omega,by omega,by omega,hR2,hW2,hG2,hit2,Ag.trans hst⟩
      case measure=>simp only[World.iterPos,hit2,hit];omega
  have hnx:∀ty,(Instr.next (.pointer (some ⟨W1.heap.size,0,none⟩)) true ty).run prog wr=_:=fun ty=>Lib.run_next_end_at wr W1.heap.size ⟨s.toArray⟩ pos ty hit (by omega);rw[FZ (by omega),zf]at Ag;have hend:R=(v,false):=Ag;subst hend;clear Ag hRR;go_wp2
  go_ret
  first|exact⟨rfl,_,by simpa using hR,hWd,hG⟩|exact⟨_,rfl,by simpa using hR,hWd,hG⟩
theorem EF(most:Nat):∀(l:List (List UInt8)) (v:Nat),v<=most->(BD most l v).1<=most
 | [],v,h=>h
 |c::r,v,h=>by
  rw[Sc];split
  .split
   .exact cu _
   .exact EF most r _ (by omega)
  exact cu _
end Go.Vc
namespace Go.Proofs
open Go.Shelf Go.RowKit
def Tryz.bren:Go.Shelf.Ren:=⟨fun|167=>126|168=>129|169=>105|240=>130|242=>168|276=>169|278=>216|n=>n,fun|70=>192|72=>194|37=>22|5=>5|9=>9|4=>4|164=>310|3=>3|0=>0|20=>20|21=>21|51=>24|46=>98|80=>186|75=>197|127=>242|n=>n,fun|n=>n⟩
theorem Tryz.laysB167:Go.Proofs.Lays.n167 Tryz.prog Tryz.bren:= {
 mixed:=by kernel_rfl
 f167:=Tryz.func126.trans (congrArg some (by kernel_rfl))
 f240:=Tryz.func130.trans (congrArg some (by kernel_rfl))
 f276:=Tryz.func169.trans (congrArg some (by kernel_rfl))
 t0:=Tryz.underlying0
 a0:=Tryz.isAgg0
 z0:=Tryz.sizeOf0
 v0:=Tryz.zeroValue0
 t4:=Tryz.underlying4
 a4:=Tryz.isAgg4
 z4:=Tryz.sizeOf4
 v4:=Tryz.zeroValue4
 t5:=Tryz.underlying5
 a5:=Tryz.isAgg5
 z5:=Tryz.sizeOf5
 v5:=Tryz.zeroValue5
 t9:=Tryz.underlying9
 a9:=Tryz.isAgg9
 z9:=Tryz.sizeOf9
 v9:=Tryz.zeroValue9
 t20:=Tryz.underlying20
 a20:=Tryz.isAgg20
 z20:=Tryz.sizeOf20
 v20:=Tryz.zeroValue20
 t37:=Tryz.underlying22
 a37:=Tryz.isAgg22
 z37:=Tryz.sizeOf22
 v37:=Tryz.zeroValue22
 t70:=Tryz.underlying192
 a70:=Tryz.isAgg192
 z70:=Tryz.sizeOf192
 v70:=Tryz.zeroValue192
 t72:=Tryz.underlying194
 a72:=Tryz.isAgg194
 z72:=Tryz.sizeOf194
 v72:=Tryz.zeroValue194
 t75:=Tryz.underlying197
 a75:=Tryz.isAgg197
 z75:=Tryz.sizeOf197
 v75:=Tryz.zeroValue197
 t164:=Tryz.underlying310
 a164:=Tryz.isAgg310
 z164:=Tryz.sizeOf310
 v164:=Tryz.zeroValue310}
theorem Tryz.laysB168:Go.Proofs.Lays.n168 Tryz.prog Tryz.bren:= {
 mixed:=by kernel_rfl
 f168:=Tryz.func129.trans (congrArg some (by kernel_rfl))
 f240:=Tryz.func130.trans (congrArg some (by kernel_rfl))
 f242:=Tryz.func168.trans (congrArg some (by kernel_rfl))
 f276:=Tryz.func169.trans (congrArg some (by kernel_rfl))
 f278:=Tryz.func216.trans (congrArg some (by kernel_rfl))
 t0:=Tryz.underlying0
 a0:=Tryz.isAgg0
 z0:=Tryz.sizeOf0
 v0:=Tryz.zeroValue0
 t3:=Tryz.underlying3
 a3:=Tryz.isAgg3
 z3:=Tryz.sizeOf3
 v3:=Tryz.zeroValue3
 t4:=Tryz.underlying4
 a4:=Tryz.isAgg4
 z4:=Tryz.sizeOf4
 v4:=Tryz.zeroValue4
 t5:=Tryz.underlying5
 a5:=Tryz.isAgg5
 z5:=Tryz.sizeOf5
 v5:=Tryz.zeroValue5
 t9:=Tryz.underlying9
 a9:=Tryz.isAgg9
 z9:=Tryz.sizeOf9
 v9:=Tryz.zeroValue9
 t20:=Tryz.underlying20
 a20:=Tryz.isAgg20
 z20:=Tryz.sizeOf20
 v20:=Tryz.zeroValue20
 t21:=Tryz.underlying21
 a21:=Tryz.isAgg21
 z21:=Tryz.sizeOf21
 v21:=Tryz.zeroValue21
 t37:=Tryz.underlying22
 a37:=Tryz.isAgg22
 z37:=Tryz.sizeOf22
 v37:=Tryz.zeroValue22
 t46:=Tryz.underlying98
 a46:=Tryz.isAgg98
 z46:=Tryz.sizeOf98
 v46:=Tryz.zeroValue98
 t51:=Tryz.underlying24
 a51:=Tryz.isAgg24
 z51:=Tryz.sizeOf24
 v51:=Tryz.zeroValue24
 t70:=Tryz.underlying192
 a70:=Tryz.isAgg192
 z70:=Tryz.sizeOf192
 v70:=Tryz.zeroValue192
 t72:=Tryz.underlying194
 a72:=Tryz.isAgg194
 z72:=Tryz.sizeOf194
 v72:=Tryz.zeroValue194
 t75:=Tryz.underlying197
 a75:=Tryz.isAgg197
 z75:=Tryz.sizeOf197
 v75:=Tryz.zeroValue197
 t164:=Tryz.underlying310
 a164:=Tryz.isAgg310
 z164:=Tryz.sizeOf310
 v164:=Tryz.zeroValue310}
theorem Tryz.laysB169:Go.Proofs.Lays.n169 Tryz.prog Tryz.bren:= {
 mixed:=by kernel_rfl
 f169:=Tryz.func105.trans (congrArg some (by kernel_rfl))
 t0:=Tryz.underlying0
 a0:=Tryz.isAgg0
 z0:=Tryz.sizeOf0
 v0:=Tryz.zeroValue0
 t3:=Tryz.underlying3
 a3:=Tryz.isAgg3
 z3:=Tryz.sizeOf3
 v3:=Tryz.zeroValue3
 t9:=Tryz.underlying9
 a9:=Tryz.isAgg9
 z9:=Tryz.sizeOf9
 v9:=Tryz.zeroValue9
 t37:=Tryz.underlying22
 a37:=Tryz.isAgg22
 z37:=Tryz.sizeOf22
 v37:=Tryz.zeroValue22
 t70:=Tryz.underlying192
 a70:=Tryz.isAgg192
 z70:=Tryz.sizeOf192
 v70:=Tryz.zeroValue192
 t72:=Tryz.underlying194
 a72:=Tryz.isAgg194
 z72:=Tryz.sizeOf194
 v72:=Tryz.zeroValue194
 t127:=Tryz.underlying242
 a127:=Tryz.isAgg242
 z127:=Tryz.sizeOf242
 v127:=Tryz.zeroValue242}
theorem Tryz.bextra:Builder.Extra Tryz.prog Tryz.bren:= {
 sizeBuilder:=by kernel_rfl
 liesBuilder:=by kernel_rfl
 t5:=Tryz.underlying5
 a5:=Tryz.isAgg5
 z5:=Tryz.sizeOf5
 v5:=Tryz.zeroValue5
 infoByte:=by kernel_rfl
 cellsByte:=by kernel_rfl
 sizeByte:=by kernel_rfl
 neB5:=by decide}
theorem Tryz.WriteByte_k(B b:Nat)(bs:List Value)(c:Int)(w:World)(h:Lib.IsBuilderF 194 5 B b bs w)(hlen:bs.length+1<=140737488355328)(hBw:B<=w.heap.size):
  Calls Tryz.prog 126 #[.pointer (some ⟨b,0,none⟩),.int .u8 c] w fun e w'=>e=.returned .nilIface/\(Lib.BuilderAtF 194 5 B b (.pointer (some ⟨b,0,none⟩)) (bs++ [.int .u8 c]) w'/\Below B w w'/\Lib.OthersKept 5 (some b) w w'):=
 Any.Builder_WriteByte_k Tryz.laysB167 Tryz.bextra B b bs c w h hlen hBw
theorem Tryz.WriteRune_k(B b:Nat)(bs:List Value)(r:Int)(hr0: -2147483648<=r)(hr1:r<=2147483647)(w:World)(h:Lib.IsBuilderF 194 5 B b bs w)(hlen:bs.length+4<=140737488355328)(hBw:B<=w.heap.size):
  Calls Tryz.prog 129 #[.pointer (some ⟨b,0,none⟩),.int .i32 r] w fun e w'=>e=.returned (.tuple #[.int .i64 (Lib.runeCells r).length,.nilIface])/\(Lib.BuilderAtF 194 5 B b (.pointer (some ⟨b,0,none⟩)) (bs++Lib.runeCells r) w'/\Below B w w'/\Lib.OthersKept 5 (some b) w w'):=
 Any.Builder_WriteRune_k Tryz.laysB168 Tryz.bextra B b bs r hr0 hr1 w h hlen hBw
theorem Tryz.String_k(B b:Nat)(l:List UInt8)(w:World)(h:Lib.IsBuilderF 194 5 B b (Lib.byteCells l) w)(hBw:B<=w.heap.size):
  Calls Tryz.prog 105 #[.pointer (some ⟨b,0,none⟩)] w fun e w'=>e=.returned (.string ⟨l.toArray⟩)/\(Lib.IsBuilderF 194 5 B b (Lib.byteCells l) w'/\Below B w w'/\Lib.OthersKept 5 (some b) w w'):=
 Any.Builder_String_any_k Tryz.laysB169 Tryz.bextra B b l w h hBw
#print axioms Tryz.WriteRune_k
end Go.Proofs
namespace Go.Vc
abbrev aV:Sh:=.sl (.int .u8)
abbrev I64:Sh:=.int .i64
abbrev I32:Sh:=.int .i32
abbrev U8:Sh:=.int .u8
abbrev U16:Sh:=.int .u16
abbrev U32:Sh:=.int .u32
abbrev U64:Sh:=.int .u64
end Go.Vc
namespace Go.Proofs
open Go.Shelf
def Tryz.lays137_ren:Go.Shelf.Ren:=⟨fun|137=>238|217=>247|266=>250|n=>n,fun|9=>9|5=>5|3=>3|n=>n,fun|n=>n⟩
theorem Tryz.lays137:Go.Proofs.Lays.n137 Tryz.prog Tryz.lays137_ren:= {
 mixed:=by kernel_rfl
 f137:=Tryz.func238.trans (congrArg some (by kernel_rfl))
 f217:=Tryz.func247.trans (congrArg some (by kernel_rfl))
 f266:=Tryz.func250.trans (congrArg some (by kernel_rfl))
 t3:=Tryz.underlying3
 a3:=Tryz.isAgg3
 z3:=Tryz.sizeOf3
 v3:=Tryz.zeroValue3
 t5:=Tryz.underlying5
 a5:=Tryz.isAgg5
 z5:=Tryz.sizeOf5
 v5:=Tryz.zeroValue5
 t9:=Tryz.underlying9
 a9:=Tryz.isAgg9
 z9:=Tryz.sizeOf9
 v9:=Tryz.zeroValue9}
open Go.RowKit in
theorem Tryz.strings_IndexByte(s:ByteArray)(c:Int)(w:World):
  Calls Tryz.prog 238 #[.string s,.int .u8 c] w fun e w'=>e=.returned (.int .i64 (Lib.indexByte s.data.toList c.toNat.toUInt8))/\w'=w:=Any.strings_IndexByte Tryz.lays137 s c w
def Tryz.lays197_ren:Go.Shelf.Ren:=⟨fun|197=>167|260=>215|n=>n,fun|9=>9|21=>21|3=>3|4=>4|5=>5|105=>307|119=>383|0=>0|46=>98|139=>386|138=>385|n=>n,fun|3=>4|4=>5|n=>n⟩
theorem Tryz.lays197:Go.Proofs.Lays.n197 Tryz.prog Tryz.lays197_ren:= {
 mixed:=by kernel_rfl
 f197:=Tryz.func167.trans (congrArg some (by kernel_rfl))
 f260:=Tryz.func215.trans (congrArg some (by kernel_rfl))
 t0:=Tryz.underlying0
 a0:=Tryz.isAgg0
 z0:=Tryz.sizeOf0
 v0:=Tryz.zeroValue0
 t3:=Tryz.underlying3
 a3:=Tryz.isAgg3
 z3:=Tryz.sizeOf3
 v3:=Tryz.zeroValue3
 t4:=Tryz.underlying4
 a4:=Tryz.isAgg4
 z4:=Tryz.sizeOf4
 v4:=Tryz.zeroValue4
 t5:=Tryz.underlying5
 a5:=Tryz.isAgg5
 z5:=Tryz.sizeOf5
 v5:=Tryz.zeroValue5
 t9:=Tryz.underlying9
 a9:=Tryz.isAgg9
 z9:=Tryz.sizeOf9
 v9:=Tryz.zeroValue9
 t21:=Tryz.underlying21
 a21:=Tryz.isAgg21
 z21:=Tryz.sizeOf21
 v21:=Tryz.zeroValue21
 t46:=Tryz.underlying98
 a46:=Tryz.isAgg98
 z46:=Tryz.sizeOf98
 v46:=Tryz.zeroValue98
 t105:=Tryz.underlying307
 a105:=Tryz.isAgg307
 z105:=Tryz.sizeOf307
 v105:=Tryz.zeroValue307
 t119:=Tryz.underlying383
 a119:=Tryz.isAgg383
 z119:=Tryz.sizeOf383
 t138:=Tryz.underlying385
 a138:=Tryz.isAgg385
 z138:=Tryz.sizeOf385
 v138:=Tryz.zeroValue385
 t139:=Tryz.underlying386
 a139:=Tryz.isAgg386
 z139:=Tryz.sizeOf386
 v139:=Tryz.zeroValue386
 g3:=by kernel_rfl
 g4:=by kernel_rfl}
def Tryz.lays260_ren:Go.Shelf.Ren:=⟨fun|260=>215|n=>n,fun|9=>9|21=>21|3=>3|4=>4|5=>5|119=>383|0=>0|46=>98|139=>386|138=>385|n=>n,fun|3=>4|4=>5|n=>n⟩
theorem Tryz.lays260:Go.Proofs.Lays.n260 Tryz.prog Tryz.lays260_ren:= {
 mixed:=by kernel_rfl
 f260:=Tryz.func215.trans (congrArg some (by kernel_rfl))
 t0:=Tryz.underlying0
 a0:=Tryz.isAgg0
 z0:=Tryz.sizeOf0
 v0:=Tryz.zeroValue0
 t3:=Tryz.underlying3
 a3:=Tryz.isAgg3
 z3:=Tryz.sizeOf3
 v3:=Tryz.zeroValue3
 t4:=Tryz.underlying4
 a4:=Tryz.isAgg4
 z4:=Tryz.sizeOf4
 v4:=Tryz.zeroValue4
 t5:=Tryz.underlying5
 a5:=Tryz.isAgg5
 z5:=Tryz.sizeOf5
 v5:=Tryz.zeroValue5
 t9:=Tryz.underlying9
 a9:=Tryz.isAgg9
 z9:=Tryz.sizeOf9
 v9:=Tryz.zeroValue9
 t21:=Tryz.underlying21
 a21:=Tryz.isAgg21
 z21:=Tryz.sizeOf21
 v21:=Tryz.zeroValue21
 t46:=Tryz.underlying98
 a46:=Tryz.isAgg98
 z46:=Tryz.sizeOf98
 v46:=Tryz.zeroValue98
 t119:=Tryz.underlying383
 a119:=Tryz.isAgg383
 z119:=Tryz.sizeOf383
 t138:=Tryz.underlying385
 a138:=Tryz.isAgg385
 z138:=Tryz.sizeOf385
 v138:=Tryz.zeroValue385
 t139:=Tryz.underlying386
 a139:=Tryz.isAgg386
 z139:=Tryz.sizeOf386
 v139:=Tryz.zeroValue386
 g3:=by kernel_rfl
 g4:=by kernel_rfl}
open Go.RowKit Go.Lib in
theorem Tryz.utf8_DecodeRuneInString(s:ByteArray)(w:World)(hT:Lib.Utf8Tabs 4 5 w):
  Calls Tryz.prog 167 #[.string s] w fun e w'=>e=.returned (.tuple #[.int .i32 (Lib.decodeGo s).1,.int .i64 (Lib.decodeGo s).2])/\Below w.heap.size w w':=Any.utf8_DecodeRuneInString Tryz.lays197 s w hT
end Go.Proofs
namespace Go.Vc
open Go Go.Proofs Go.Plain Tryz
theorem ae6:zR prog "unicode/utf8.first" =some 4:=by kernel_rfl
theorem aeg:zR prog "unicode/utf8.acceptRanges" =some 5:=by kernel_rfl
theorem agO:∀c:Fin 256,U2 c.1=Lib.firstT c.1:=by decide+kernel
theorem Tk:∀i:Fin 16,Ui[2*i.1]?=some (Lib.accLo i.1:Int)/\Ui[2*i.1+1]?=some (Lib.accHi i.1:Int):=by decide+kernel
theorem azk{w:World}(h:KW prog w):Lib.Utf8Tabs 4 5 w:=by
 have h1:=h.1 (_,_) (List.mem_cons_self) 4 ae6;have h2:=h.1 (_,_) (List.mem_cons_of_mem _ List.mem_cons_self) 5 aeg;refine⟨fun c hc=>?_,fun i hi=>⟨?_,?_⟩⟩
 .have:=h1 c (.int .u8 (U2 c)) (by simp[hc]);rw[kD]at this;rw[this,agO ⟨c,hc⟩]
 .have:=h2 (2*i) (.int .u8 (Lib.accLo i)) (by rw[ow,(Tk ⟨i,hi⟩).1];rfl);rwa[kD]at this
 have:=h2 (2*i+1) (.int .u8 (Lib.accHi i)) (by rw[ow,(Tk ⟨i,hi⟩).2];rfl);rwa[kD]at this
theorem aui{s:List UInt8}(h:s≠[]):Lib.decodeGo ⟨s.toArray⟩=Lib.decodeL s:=by
 unfold Lib.decodeGo Lib.decodeL;rw[zq (by cases s with|nil=>exact absurd rfl h|cons x t=>simp[ByteArray.size])]
abbrev alW:FuncId:=167
theorem av8(s:List UInt8)(hs:s≠[]):PC prog alW [(.str,.str s)] [(.int .i32,.int ((Lib.decodeL s).1:Nat)),(.int .i64,.int ((Lib.decodeL s).2:Nat))]:=by
 refine PC.qX (by decide) ⟨⟨_,func167,by kernel_rfl,by kernel_rfl⟩,fun w N vs aX hrd=>?_⟩;obtain⟨v,r,rfl,⟨us,hu,rfl⟩,hr⟩:=hrd;simp only[fI]at hr;subst hr;simp only[Rd]at hu;subst hu;have hc:=Tryz.utf8_DecodeRuneInString ⟨s.toArray⟩ w (azk aX);rw[aui hs]at hc;refine hc.mono fun e w' ⟨he,hb⟩=>⟨_,he,⟨[.int .i32 ((Lib.decodeL s).1:Nat),.int .i64 ((Lib.decodeL s).2:Nat)],⟨_,_,rfl,⟨_,rfl,rfl⟩,_,_,rfl,⟨_,rfl,rfl⟩,rfl⟩,?_⟩,hb⟩;simp
theorem aCc{p:Prop}[Decidable p]{a b:Bool}:(if p then a else b)=true↔(p/\a=true\/¬p/\b=true):=by by_cases h:p<;>simp[h]
theorem KV{s:List UInt8}{p:Nat}:Utf8.decode ⟨s.toArray⟩ p=Lib.decodeL (s.drop p):=(Lib.decodeL_drop ⟨s.toArray⟩ p).symm
theorem OD{s:List UInt8}{p:Nat}(h:p<s.length):s.drop p≠[]:=by
 intro e;have:=pX List.length e;simp at this;omega
theorem abw(r:Int):PC prog acB [(I32,.int r)] [(.bool,.bool (decide (32<=r/\r≠127)))]:=by
 apply ao3 rfl;simp only[aaK,aJ,aG];congr 3
 rw[Cj];simp only[aCc,dQ,xk,and_false,pz]
theorem abv(s:List UInt8)(p:Nat)(h:p<s.length)(hs:s.length<=1000000):PC prog acA [(.str,.str s),(I64,.int (p:Int)),(I32,.int ((Lib.decodeL (s.drop p)).1:Nat))] [(.bool,.bool (stray (s.drop p)))]:=by
 apply ao2 rfl;simp only[aaJ,aJ,aG];unfold stray;refine⟨fun hc=>?_,fun hc=>⟨by omega,by omega,by omega,?_⟩⟩
 .rw[gQ (show ¬(Lib.decodeL (s.drop p)).1=65533 by omega)];rfl
 rw[dF,dF,jQ];refine⟨_,_,av8 _ (OD h),?_⟩;simp only[kM,aG];rw[iH (show(Lib.decodeL (s.drop p)).1=65533 by omega),Bool.true_and];congr 3
 apply decide_eq_decide.2;omega
theorem may_step{l:List UInt8}(h:l≠[]):wX l=(decide (32<=(Lib.decodeL l).1)&&(decide ((Lib.decodeL l).1≠127)&& !stray l)&&wX (l.drop (bQ l))):=by
 unfold wX;rw[A8 h,List.all_cons];have hd:=(JQ h).2;have hst:stray (l.take (bQ l))=stray l:=by unfold stray;rw[hd]
 unfold jW;rw[hd,hst]
theorem MU(s:List UInt8)(hs:s.length<=1000000):PC prog aeI [(.str,.str s)] [(.bool,.bool (wX s))]:=by
 apply asj rfl;simp only[adk,aJ,aG];refine VC.jw (fun p:Nat=> [.bool false,.int (p:Int)]) (fun p=>p<=s.length/\wX s=wX (s.drop p)) (fun p=>s.length-p) 0 rfl ⟨cu _,rfl⟩ fun p hi=>?_;obtain⟨i1,i2⟩:=hi;simp only[aJ,aG,dF];refine⟨fun hc=>?_,fun hc=>?_⟩
 .have hp:p<s.length:=by omega
  have hne:=OD hp;have hw:=Bb (s.drop p);have hle:=Db hne;rw[lW]at hle;rw[may_step hne,xq]at i2;rw[KV];have hwd:((Lib.decodeL (s.drop p)).2:Nat)=bQ (s.drop p):=rfl;rw[hwd];refine⟨by omega,by omega,_,abw _,_,fun _=>abv s p hp hs,fun hx=>?_,fun hx=>?_⟩
  .simp only[kM,aG]at hx;have:wX s=false:=by
    rw[i2];rcases hx with hx|hx
    .have:¬(32<=(Lib.decodeL (s.drop p)).1/\(Lib.decodeL (s.drop p)).1≠127):=fun h2=>hx ⟨by omega,by omega⟩;by_cases h32:32<=(Lib.decodeL (s.drop p)).1
     .have:(Lib.decodeL (s.drop p)).1=127:=Classical.byContradiction fun h3=>this ⟨h32,h3⟩;simp[this]
     simp[h32]
    .simp[hx]
   rw[this]
  .simp only[kM,aG]at hx;refine⟨p+bQ (s.drop p),?_,⟨by omega,?_⟩,by omega⟩
   .rw[aC (show((p:Nat):Int)<((s.length:Nat):Int) by omega)];congr 3
   .rw[i2];obtain⟨h1,h2⟩:=Classical.not_not.1 hx.1;have h3:=hx.2;rw[h3,iH (show 32<=(Lib.decodeL (s.drop p)).1 by omega),iH (show(Lib.decodeL (s.drop p)).1≠127 by omega)];rfl
 have:p=s.length:=by omega
 subst this;rw[i2,List.drop_length];unfold wX;rw[zf];rfl
def vL(l:List UInt8):Nat:=if stray l=true then 0 else bQ l
section
variable{n b0 b1 b2 b3:Nat}
end
theorem aen{l:List UInt8}(h:l≠[]):(vL l=0/\bQ l=1/\stray l=true/\128<=(l.getD 0 0).toNat)\/(vL l=1/\bQ l=1/\stray l=false/\(Lib.decodeL l).1=(l.getD 0 0).toNat/\(l.getD 0 0).toNat<128)\/
  (2<=vL l/\vL l=bQ l/\stray l=false/\128<=(Lib.decodeL l).1/\128<=(l.getD 0 0).toNat):=by
 cases dec h with
 |ascii x t hl hx hd=>
  have hs:stray l=false:=by unfold stray;rw[hd,gQ (show ¬x.toNat=65533 by omega)];rfl
  have hw:bQ l=1:=by unfold bQ;rw[hd]
  refine .inr (.inl ⟨by unfold vL;rw[hs,zq (by decide),hw],hw,hs,?_,?_⟩)
  .rw[hd,hl];rfl
  rw[hl];exact hx
 |bad x t hl hx hd=>
  have hs:stray l=true:=by unfold stray;rw[hd];rfl
  exact .inl ⟨by unfold vL;rw[aC hs],by unfold bQ;rw[hd],hs,by rw[hl];exact hx⟩
 |many c t hl hc h2 hw hr hd=>
  have hs:stray l=false:=by unfold stray;rw[gQ (show ¬(Lib.decodeL l).2=1 by omega),Bool.and_false]
  have e:vL l=bQ l:=by unfold vL;rw[hs,zq (by decide)]
  have e2:bQ l=c.length:=hw;refine .inr (.inr ⟨by omega,e,hs,hr,?_⟩);cases c with
  |nil=>simp at h2
  |cons x u=>rw[hl];exact hc x (by simp)
theorem Nl{l:List UInt8}(h:l≠[])(k:UInt8)(hk:k.toNat<128):l.take (bQ l)=[k]↔(Lib.decodeL l).1=k.toNat:=by
 cases dec h with
 |ascii x t hl hx hd=>
  have hw:bQ l=1:=by unfold bQ;rw[hd]
  rw[hw,hd,hl];simp only[Cb,vY,kE,lC];exact⟨fun e=>by rw[e],fun e=>UInt8.toNat_inj.1 e⟩
 |bad x t hl hx hd=>
  have hw:bQ l=1:=by unfold bQ;rw[hd]
  rw[hw,hd,hl];simp only[Cb,vY,kE,lC];refine⟨fun e=>?_,fun e=>?_⟩
  .exfalso;rw[e]at hx;omega
  exfalso;omega
 |many c t hl hc h2 hw hr hd=>
  have e2:bQ l=c.length:=hw;refine⟨fun e=>?_,fun e=>?_⟩
  .exfalso;have:=pX List.length e;rw[jV,e2,hl,cO]at this;simp at this;omega
  exfalso;omega
theorem cur_step(s:List UInt8){f p w:Nat}(hf:f<=p)(hp:p+w<=s.length):(s.take p).drop f++(s.drop p).take w=(s.take (p+w)).drop f:=by
 rw[List.take_add,List.drop_append_of_le_length (by rw[jV];omega)]
def D9(o:Option (List (List UInt8))):List C:=(o.getD []).map .str
def Ql(o:Option (List (List UInt8))):Int:=if o.isSome then 0 else 6
theorem aqX(s:List UInt8)(hs:s.length<=1000000):PC prog acC [(.str,.str s)] [(.sl .str,.ls (D9 (nE s))),(I64,.int (Ql (nE s)))]:=by
 apply ao4 rfl;simp only[aaL,aJ,aG];refine VC.jw (fun x:List (List UInt8)×Nat×Nat×Bool×Bool=> [.ls [],.int 0,.ls (x.1.map .str),.int (x.2.1:Int),.bool x.2.2.2.1,.bool x.2.2.2.2,.int (x.2.2.1:Int)])
  (fun x=>x.2.1<=x.2.2.1/\x.2.2.1<=s.length/\x.1.length<=x.2.1/\nE s=(wd x.2.2.2.1 x.2.2.2.2 ((s.take x.2.2.1).drop x.2.1) (chunks (s.drop x.2.2.1))).map (x.1++·)) (fun x=>s.length-x.2.2.1) ([],0,0,false,false) rfl
  ⟨aS _,cu _,aS _,by simp[nE]⟩ fun x hi=>?_
 obtain⟨out,f,p,q,t⟩:=x;obtain⟨i1,i2,i3,i4⟩:=hi;simp only at i1 i2 i3 i4;simp only[aJ,aG,dF,bJ];refine⟨fun hc=>?_,fun hc=>?_⟩
 .have hp:p<s.length:=by omega
  have hne:=OD hp;have hw:=Bb (s.drop p);have hle:=Db hne;rw[lW]at hle;rw[KV];have hwd:((Lib.decodeL (s.drop p)).2:Nat)=bQ (s.drop p):=rfl;have c34:=Nl hne 34 (by decide);have c92:=Nl hne 92 (by decide);have c32:=Nl hne 32 (by decide);rw[A8 hne,xq]at i4;have hcur:=cur_step s (w:=bQ (s.drop p)) i1 (by omega);rw[hwd,aC (show((p:Nat):Int)<((s.length:Nat):Int) by omega)];have go:∀q' t',nE s=(wd q' t' ((s.take (p+bQ (s.drop p))).drop f) (chunks (s.drop (p+bQ (s.drop p))))).map (out++·)->∃s':List (List UInt8)×Nat×Nat×Bool×Bool,
    [C.ls [],C.int 0,C.ls (out.map C.str),C.int (f:Int),C.bool q',C.bool t',C.int ((p:Int)+(bQ (s.drop p):Nat))]=
     [C.ls [],C.int 0,C.ls (s'.1.map C.str),C.int (s'.2.1:Int),C.bool s'.2.2.2.1,C.bool s'.2.2.2.2,C.int (s'.2.2.1:Int)]/\
    (s'.2.1<=s'.2.2.1/\s'.2.2.1<=s.length/\s'.1.length<=s'.2.1/\nE s=(wd s'.2.2.2.1 s'.2.2.2.2 ((s.take s'.2.2.1).drop s'.2.1) (chunks (s.drop s'.2.2.1))).map (s'.1++·))/\s.length-s'.2.2.1<s.length-p:=
   fun q' t' h=>⟨(out,f,p+bQ (s.drop p),q',t'),rfl,⟨by simp only;omega,by simp only;omega,i3,h⟩,by simp only;omega⟩
  have hcl:((s.take p).drop f).length=p-f:=by rw[lW,jV];omega
  rw[wd]at i4;refine⟨by omega,by omega,fun ht=>?_,fun ht=>⟨fun h34=>?_,fun h34=>⟨fun hq=>?_,fun hq=>⟨fun h32=>⟨fun hpf=>?_,fun hpf=>?_⟩,fun h32=>?_⟩⟩⟩⟩
  .rw[aC ht,hcur]at i4;exact go q false i4
  .have e:(Lib.decodeL (s.drop p)).1=34:=by omega
   rw[zq (by rw[ht];decide),aC (c34.2 e),hcur]at i4;rw[ht];exact go (!q) false i4
  .have e:¬(Lib.decodeL (s.drop p)).1=34:=by omega
   rw[zq (by rw[ht];decide),zq (fun h=>e (c34.1 h)),aC hq,hcur]at i4;have e2:decide ((((Lib.decodeL (s.drop p)).1:Nat):Int)=92)=decide ((s.drop p).take (bQ (s.drop p))=[92]):=by
    apply decide_eq_decide.2;rw[c92];have:UInt8.toNat 92=92:=rfl;omega
   rw[e2];exact go q _ i4
  .have e:¬(Lib.decodeL (s.drop p)).1=34:=by omega
   have e3:(Lib.decodeL (s.drop p)).1=32:=by omega
   have hcn:(s.take p).drop f=[]:=oC (by omega);rw[zq (by rw[ht];decide),zq (fun h=>e (c34.1 h)),zq (by rw[hq];decide),aC (c32.2 e3),aC hcn]at i4;rw[i4];rfl
  .have e:¬(Lib.decodeL (s.drop p)).1=34:=by omega
   have e3:(Lib.decodeL (s.drop p)).1=32:=by omega
   have hcn:¬(s.take p).drop f=[]:=fun h=>by rw[h]at hcl;simp at hcl;omega
   have hw1:bQ (s.drop p)=1:=by
    have:=pX List.length (c32.2 e3);rw[jV,lW]at this;simp at this;omega
   rw[zq (by rw[ht];decide),zq (fun h=>e (c34.1 h)),zq (by rw[hq];decide),aC (c32.2 e3),zq hcn,hw1,Option.map_map]at i4;refine⟨by omega,by omega,by omega,by simp only[bR,eB];omega,by omega,(out++ [(s.take p).drop f],p+1,p+1,q,t),?_,⟨aS _,by simp only;omega,by simp;omega,?_⟩,by simp only;omega⟩
   .rw[hw1,gW];rfl
   rw[i4,hq,ht];have hd:(s.take (p+1)).drop (p+1)=[]:=oC (by rw[lW,jV];omega);simp only[hd];congr 1
   funext y
   simp
  .have e:¬(Lib.decodeL (s.drop p)).1=34:=by omega
   have e3:¬(Lib.decodeL (s.drop p)).1=32:=by omega
   rw[zq (by rw[ht];decide),zq (fun h=>e (c34.1 h)),zq (by rw[hq];decide),zq (fun h=>e3 (c32.1 h)),hcur]at i4;rw[ht];exact go q false i4
 have:p=s.length:=by omega
 subst this;rw[List.drop_length,zf,wd,jQ]at i4;refine⟨fun hx=>?_,fun hx=>⟨by omega,by omega,by omega,by simp only[bR,eB];omega,?_⟩⟩
 .rw[aC (by
   rcases hx with hx|hx
   .exact .inl hx
   .exact .inr (oC (by rw[lW];omega)))]at i4
  rw[i4];rfl
 rw[zq (by
  rintro(h|h)
  .rw[h]at hx;simp at hx
  .have:=pX List.length h;rw[lW]at this;simp at this;omega)]at i4
 rw[i4,jQ];simp[D9,Ql]
theorem aeS{l:List UInt8}(h:l≠[])(k:UInt8)(hk:k.toNat<128):l.take (bQ l)=[k]↔(l.getD 0 0).toNat=k.toNat:=by
 rw[Nl h k hk];rcases aen h with⟨r1,r2,r3,r4⟩|⟨r1,r2,r3,r4,r5⟩|⟨r1,r2,r3,r4,r5⟩
 .have:(Lib.decodeL l).1=65533:=by
   unfold stray at r3;simp only[bB,dQ]at r3;exact r3.1
  omega
 .omega
 omega
theorem U4{l:List UInt8}(h:l≠[]):jW (l.take (bQ l))=(decide (32<=(Lib.decodeL l).1)&&(decide ((Lib.decodeL l).1≠127)&& !stray l)):=by
 have hd:=(JQ h).2;have hst:stray (l.take (bQ l))=stray l:=by unfold stray;rw[hd]
 unfold jW;rw[hd,hst]
theorem take_one{l:List UInt8}(h:l≠[]):l.take 1=[l.getD 0 0]:=by cases l with|nil=>exact absurd rfl h|cons x t=>rfl
theorem agn{l:List UInt8}(h:l≠[]):
  (vL l=1/\bQ l=1/\((l.getD 0 0).toNat=34\/(l.getD 0 0).toNat=92)/\qc (l.take (bQ l))=[92,l.getD 0 0])\/
  ((vL l=0\/vL l=1/\((l.getD 0 0).toNat<32\/(l.getD 0 0).toNat=127))/\bQ l=1/\qc (l.take (bQ l))=[92,oo ((l.getD 0 0).toNat/16),oo ((l.getD 0 0).toNat%16)])\/
  (vL l=bQ l/\(vL l=1->¬((l.getD 0 0).toNat=34\/(l.getD 0 0).toNat=92)/\¬((l.getD 0 0).toNat<32\/(l.getD 0 0).toNat=127))/\qc (l.take (bQ l))=l.take (bQ l)):=by
 have ho:=U4 h;have c34:=aeS h 34 (by decide);have c92:=aeS h 92 (by decide);have b34:UInt8.toNat 34=34:=rfl;have b92:UInt8.toNat 92=92:=rfl;rw[b34]at c34;rw[b92]at c92;have h1:=take_one h;rcases aen h with⟨r1,r2,r3,r4⟩|⟨r1,r2,r3,r4,r5⟩|⟨r1,r2,r3,r4,r5⟩
 .refine .inr (.inl ⟨.inl r1,r2,?_⟩);rw[r3]at ho;unfold qc qk;rw[ho,zq (by simp),r2,h1];rfl
 .by_cases hq:(l.getD 0 0).toNat=34\/(l.getD 0 0).toNat=92
  .refine .inl ⟨r1,r2,hq,?_⟩;have:jW (l.take (bQ l))=true:=by
    rw[ho,r3,r4,iH (show 32<=(l.getD 0 0).toNat by omega),iH (show(l.getD 0 0).toNat≠127 by omega)];rfl
   unfold qc qk;rw[aC this,aC (hq.imp c34.2 c92.2),r2,h1];rfl
  .have hcc:¬(l.take (bQ l)=[34]\/l.take (bQ l)=[92]):=fun hh=>hq (hh.imp c34.1 c92.1);by_cases hb:(l.getD 0 0).toNat<32\/(l.getD 0 0).toNat=127
   .refine .inr (.inl ⟨.inr ⟨r1,hb⟩,r2,?_⟩);have:¬jW (l.take (bQ l))=true:=by
     rw[ho,r3,r4];simp only[bB,dQ];omega
    unfold qc qk;rw[zq this,r2,h1];rfl
   .refine .inr (.inr ⟨by omega,fun _=>⟨hq,hb⟩,?_⟩);have:jW (l.take (bQ l))=true:=by
     rw[ho,r3,r4,iH (show 32<=(l.getD 0 0).toNat by omega),iH (show(l.getD 0 0).toNat≠127 by omega)];rfl
    unfold qc qk;rw[aC this,zq hcc];simp
 have hcc:¬(l.take (bQ l)=[34]\/l.take (bQ l)=[92]):=fun hh=>by
  rcases hh with hh|hh
  .have:=c34.1 hh;omega
  .have:=c92.1 hh;omega
 refine .inr (.inr ⟨r2,fun h1=>by omega,?_⟩);have:jW (l.take (bQ l))=true:=by
  rw[ho,r3,iH (show 32<=(Lib.decodeL l).1 by omega),iH (show(Lib.decodeL l).1≠127 by omega)];rfl
 unfold qc qk;rw[aC this,zq hcc];simp
def yC(x:UInt8):Int:=if oZ x<16 then(oZ x:Int)else-1
theorem azy:∀n:Fin 256,Lib.indexByte [48,49,50,51,52,53,54,55,56,57,97,98,99,100,101,102] (UInt8.ofNat n.1)=yC (UInt8.ofNat n.1):=by decide+kernel
def rest(s:List UInt8)(i:Nat):List UInt8:=(s.drop i).take (s.length-1-i)
theorem ajS{x:UInt8}{k:Nat}(hk:k<256):x=UInt8.ofNat k↔x.toNat=k:=by
 constructor
 .rintro rfl;rw[zu,F3 (by simpa using hk)]
 intro h;apply UInt8.toNat_inj.1;rw[h,zu,F3 (by simpa using hk)]
abbrev asP:FuncId:=102
abbrev arN:FuncId:=162
def aix:Prop:=∀s:List UInt8,s.length<=1000000->PC prog asP [(.str,.str s)] [(.str,.str (qs s))]
def ahe:Prop:=∀s:List UInt8,s.length<=1000000->PC prog arN [(.str,.str s)] [(.str,.str ((lo s).getD [])),(.bool,.bool (lo s).isSome)]
theorem OZ:∀(n:Nat) (s o:List UInt8),s.length<=n->lo s=some o->o.length<=s.length
 |0,s,o,hn,h=>by
  have:s=[]:=oC (by omega);subst this;rw[lo.eq_def]at h;simp at h;rw[h];exact aS _
 |n+1,s,o,hn,h=>by
  rw[lo.eq_def]at h;split at h
  .simp at h;rw[<-h];exact aS _
  .rename_i x t;simp only[bR]at hn |-;split at h
   .cases h
   split at h
   .split at h
    .cases h
    .rename_i y u;simp only[bR]at hn |-;split at h
     .obtain ⟨o2,h2,rfl⟩:=Aj.1 h;have:=OZ n u o2 (by omega) h2;simp only[bR];omega
     .split at h
      .cases h
      .rename_i z v;simp only[bR]at hn |-;split at h
       .obtain ⟨o2,h2,rfl⟩:=Aj.1 h;have:=OZ n v o2 (by omega) h2;simp only[bR];omega
       .cases h
   obtain ⟨o2,h2,rfl⟩:=Aj.1 h;have:=OZ n t o2 (by omega) h2;simp only[bR];omega
def Gc(s:List UInt8):Int:=if(mI s).isSome then 0 else 6
theorem aoj(hQ:aix)(hL:ahe)(s:List UInt8)(hs:s.length<=1000000):PC prog aap [(.str,.str s)] [(.str,.str ((mI s).getD [])),(I64,.int (Gc s))]:=by
 apply ana rfl;simp only[Y9,aJ,aG,Aw];have hend:(((s.length:Nat):Int)-1).toNat=s.length-1:=by omega
 have hone:(1:Int).toNat=1:=rfl;rw[hend,hone];have c0:=ajS (x:=s.getD 0 0) (k:=34) (by decide);have cl:=ajS (x:=s.getD (s.length-1) 0) (k:=34) (by decide);rw[show UInt8.ofNat 34=34 from rfl]at c0 cl;unfold Gc;refine⟨fun _=>by omega,fun _=>by omega,fun _=>by omega,fun _=>by omega,fun hx=>?_,fun hx=>⟨by omega,by omega,by omega,?_⟩⟩
 .have:mI s=none:=by
   unfold mI;rw[zq];rintro⟨h1,h2,h3⟩;have:=c0.1 h2;have:=cl.1 h3;omega
  rw[this];rfl
 have he:2<=s.length/\s.getD 0 0=34/\s.getD (s.length-1) 0=34:=⟨by omega,c0.2 (by omega),cl.2 (by omega)⟩;have hu:mI s=(match lo (inner s)with|some o=>if qs o=s then some o else none|none=>none):=by unfold mI;rw[aC he];cases lo (inner s)<;>rfl
 have hin:(s.take (s.length-1)).drop 1=inner s:=by unfold inner;rw[List.drop_take];rfl
 have hil:(inner s).length<=1000000:=by unfold inner;rw[jV,lW];omega
 rw[hin];refine⟨_,_,hL (inner s) hil,?_⟩;have hlen:((lo (inner s)).getD []).length<=1000000:=by
  cases hlo:lo (inner s)with
  |none=>simp
  |some o=>have:=OZ _ _ o (aS _) hlo;simp only[F8];omega
 refine⟨_,fun _=>hQ _ hlen,?_⟩;simp only[kM,aG];cases hlo:lo (inner s)with
 |none=>
  rw[hlo]at hu;simp only at hu;rw[hu];simp
 |some o=>
  rw[hlo]at hu;simp only at hu;rw[hu];by_cases hq:qs o=s
  .simp[hq]
  simp[hq]
end Go.Vc
