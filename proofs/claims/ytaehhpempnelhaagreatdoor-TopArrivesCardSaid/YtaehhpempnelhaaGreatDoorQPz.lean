/-
  The strokes of a plan's elements: what is read of slices, what stands between two additions.
-/
import Derived.Deep.RegionHeld3
import Derived.Deep.AppendLies
import Derived.Test.YtaehhpempnelhaaGreatDoorQPx
set_option maxRecDepth 100000
namespace Go.Vc
open Go Go.Proofs Go.Plain Go.RowKit Go.Shelf
theorem Jq{w:World}{N:Nat->Prop}{s:Sh}{v:Value}{l:List C}(h:bq w N (.sl s) v (.ls l)):∃a cap,v= .slice a l.length cap/\
  ∀i c,l[i]?=some c->∃b off us,a=some ⟨b,off,none⟩/\N b/\b<w.heap.size/\kZ w b (off+i*s.size) us/\Rd w N s us c:=by
 obtain ⟨vs,⟨a,cap,rfl,_,_,h4⟩,rfl⟩:=h;refine ⟨a,cap,rfl,fun i c hi=>?_⟩;obtain ⟨b,off,e,hb,hlt,hr⟩:=h4 (by intro hn;rw[C.kU] at hn;rw[hn] at hi;simp at hi);obtain ⟨us,h5,h6,h7⟩:=hr i c hi;exact ⟨b,off,us,e,hb,hlt,h6,h7⟩
theorem ap4{w:World}{N:Nat->Prop}{v:Value}{l:List Mp}(h:bq w N (.sl wm) v (yZ l)):∃a cap,v= .slice a l.length cap/\
  ∀i x,l[i]?=some x->∃b off,a=some ⟨b,off,none⟩/\b<w.heap.size/\w.cell? ⟨b,off+i*2,none⟩=some (.int .i64 x.fr)/\w.cell? ⟨b,off+i*2+1,none⟩=some (.int .i64 x.to):=by
 obtain ⟨a,cap,rfl,hs⟩:=Jq h;refine ⟨a,cap,by simp,fun i x hi=>?_⟩;obtain ⟨b,off,us,e,_,hlt,hc,_,va,vb,rfl,h8,_,vc,vd,rfl,h9,h10⟩:=hs i (qF x) (by simp[hi]);simp only[Rd] at h8 h9 h10;subst h8 h9 h10;exact ⟨b,off,e,hlt,hc 0 _ rfl,hc 1 _ rfl⟩
theorem acf{w:World}{N:Nat->Prop}{v:Value}{l:List Sp}(h:bq w N (.sl yH) v (yX l)):∃a cap,v= .slice a l.length cap/\
  ∀i x,l[i]?=some x->∃b off,a=some ⟨b,off,none⟩/\b<w.heap.size/\w.cell? ⟨b,off+i*3,none⟩=some (.int .i64 (x.id:Int))/\w.cell? ⟨b,off+i*3+1,none⟩=some (.int .i64 (x.pos:Int))/\w.cell? ⟨b,off+i*3+2,none⟩=some (.int .i64 (x.size:Int)):=by
 obtain ⟨a,cap,rfl,hs⟩:=Jq h;refine ⟨a,cap,by simp,fun i x hi=>?_⟩;obtain ⟨b,off,us,e,_,hlt,hc,_,va,vb,rfl,h8,_,vc,vd,rfl,h9,_,ve,vf,rfl,h10,h11⟩:=hs i (wO x) (by simp[hi]);simp only[Rd] at h8 h9 h10 h11;subst h8 h9 h10 h11;exact ⟨b,off,e,hlt,hc 0 _ rfl,hc 1 _ rfl,hc 2 _ rfl⟩
theorem aqi{w:World}{N:Nat->Prop}{v:Value}{l:List El}(h:bq w N (.sl lU) v (jL l)):∃a cap,v= .slice a l.length cap/\
  ∀i x,l[i]?=some x->∃b off d dc,a=some ⟨b,off,none⟩/\b<w.heap.size/\w.cell? ⟨b,off+i*2,none⟩=some (.int .i64 x.id)/\w.cell? ⟨b,off+i*2+1,none⟩=some (.slice d x.data.length dc)/\bq w N aQ (.slice d x.data.length dc) (B x.data):=by
 obtain ⟨a,cap,rfl,hs⟩:=Jq h;refine ⟨a,cap,by simp,fun i x hi=>?_⟩;obtain ⟨b,off,us,e,_,hlt,hc,_,va,vb,rfl,h8,_,vc,vd,rfl,h9,h10⟩:=hs i (kT x) (by simp[hi]);simp only[Rd] at h8 h10;subst h8 h10;have hd:=h9;obtain ⟨d,dc,rfl,_⟩:=h9;have el:(kT x).tl.hd.toList.length=x.data.length:=by simp[C.tl,C.hd,ofBytes]
 have c1:=hc 1 _ rfl;have hd2:bq w N aQ (.slice d (kT x).tl.hd.toList.length dc) (B x.data):=⟨_,hd,rfl⟩;rw[el] at c1 hd2;exact ⟨b,off,d,dc,e,hlt,hc 0 _ rfl,c1,hd2⟩
def MZ(Z:Nat->Prop)(v:Value)(b:Nat):Prop:=v.ownBlock≠some b/\Z b
structure nK (Z:Nat->Prop) (Bs:Nat) (W2 W:World) (p:Pl) (aD:Nat) (v:Value) (l:List fE) (xs:List Value):Prop where
 own:W.ownsRow Bs 231 4 v l.length xs
 sk:jG W (MZ Z v) p aD l xs
 bX:Below Bs W2 W
theorem nK.below{Z:Nat->Prop}{Bs:Nat}{W2 W W':World}{p:Pl}{aD:Nat}{v:Value}{l:List fE}{xs:List Value}(h:nK Z Bs W2 W p aD v l xs)(hz:Bs<=W.heap.size)(hb:Below W.heap.size W W'):nK Z Bs W2 W' p aD v l xs:=
 ⟨h.own.kept (Dq hb) (Ea v),h.sk.mono hb.size (fun b hm hlt=>⟨hb.block b hlt,hm⟩),h.bX.trans (hb.mono hz)⟩
theorem nK.fresh{Z:Nat->Prop}{Bs:Nat}{W2 W:World}{p:Pl}{aD:Nat}{v:Value}{l:List fE}{xs:List Value}(h:nK Z Bs W2 W p aD v l xs){b:Nat}(hb:W.heap.size<=b\/b<Bs)(hz:Z b):MZ Z v b:=
 ⟨fun e=>by have:=h.own.lt _ e;omega,hz⟩
theorem nK.add{Z:Nat->Prop}{Bs:Nat}{W2 W W1:World}{p:Pl}{aD:Nat}{v v':Value}{l:List fE}{xs:List Value}{s:fE}{f:Value}(h:nK Z Bs W2 W p aD v l xs)(hz:Bs<=W.heap.size)(hdr:gQ W (MZ Z v) p aD s.dr f)
  (hown:W1.ownsRow Bs 231 4 v' (l.length+1) (xs++ [.int .i64 s.field,.int .i64 (s.pos:Int),.int .i64 (s.size:Int),f])) (hg:W.grownBy W1 v.ownBlock) (hat:v'.ownBlock=v.ownBlock\/v'.ownBlock=some W.heap.size):
  nK Z Bs W2 W1 p aD v' (l++ [s]) (xs++ [.int .i64 s.field,.int .i64 (s.pos:Int),.int .i64 (s.size:Int),f]):=by
 have hk:∀b,MZ Z v b->b<W.heap.size->W1.heap[b]?=W.heap[b]?/\MZ Z v' b:=by
  intro b hm hlt;refine ⟨hg.block b hlt (fun e=>hm.1 e.symm),fun e=>?_,hm.2⟩;rcases hat with h1|h1
  .exact hm.1 (h1▸e)
  .rw[h1] at e;cases e;omega
 refine ⟨by simpa using hown,(h.sk.mono hg.size hk).append ⟨_,[],rfl,hdr.mono hg.size hk,rfl⟩,h.bX.grown hg hz (fun k e=>(h.own.lt k e).1)⟩
end Go.Vc
