/-
  Strokes in memory, and the closure that adds one.
-/
import Derived.Maps.OwnIn
import Derived.Test.YtaehhpempnelhaaGreatDoorQPv
set_option maxRecDepth 100000
namespace Go.Vc
open Go Go.Proofs Go.Plain Go.RowKit Go.Shelf
def jG(W:World)(M:Nat->Prop)(p:Pl)(aD:Nat):List fE->List Value->Prop
 | [],xs=>xs=[]
 |s::l,xs=>∃f r,xs= .int .i64 s.field:: .int .i64 (s.pos:Int):: .int .i64 (s.size:Int)::f::r/\gQ W M p aD s.dr f/\jG W M p aD l r
theorem jG.mono{W W':World}{M M':Nat->Prop}{p:Pl}{aD:Nat}(hs:W.heap.size<=W'.heap.size)(hk:∀b,M b->b<W.heap.size->W'.heap[b]?=W.heap[b]?/\M' b):∀ {l:List fE} {xs:List Value},jG W M p aD l xs->jG W' M' p aD l xs
 | [],_,h=>h
 |_::_,_,⟨f,r,h1,h2,h3⟩=>⟨f,r,h1,h2.mono hs hk,jG.mono hs hk h3⟩
theorem jG.append{W:World}{M:Nat->Prop}{p:Pl}{aD:Nat}:∀ {l m:List fE} {xs ys:List Value},jG W M p aD l xs->jG W M p aD m ys->jG W M p aD (l++m) (xs++ys)
 | [],_,xs,_,h,h2=>by rw[show xs=[] from h];exact h2
 |_::_,_,_,_,⟨f,r,h1,h2,h3⟩,h4=>⟨f,r++_,by rw[h1];rfl,h2,jG.append h3 h4⟩
theorem gQ.one{W:World}{M:Nat->Prop}{p:Pl}{aD:Nat}{dr:Dr}{f:Value}(h:gQ W M p aD dr f):f.oneCell'=true:=by
 cases dr with
 |num v n=>obtain ⟨a,b,rfl,_⟩:=h;rfl
 |sec=>obtain ⟨a,b,rfl,_⟩:=h;rfl
 |nI to=>obtain ⟨a,b,rfl,_⟩:=h;rfl
 |data d=>obtain ⟨a,b,dv,rfl,_⟩:=h;rfl
theorem jG.one{W:World}{M:Nat->Prop}{p:Pl}{aD:Nat}:∀ {l:List fE} {xs:List Value},jG W M p aD l xs->∀u∈xs,u.oneCell'=true
 | [],xs,h=>by rw[show xs=[] from h];intro u hu;cases hu
 |_::l,_,⟨f,r,h1,h2,h3⟩=>by
  rw[h1];intro u hu;rcases iH.1 hu with rfl|hu
  .rfl
  rcases iH.1 hu with rfl|hu
  .rfl
  rcases iH.1 hu with rfl|hu
  .rfl
  rcases iH.1 hu with rfl|hu
  .exact h2.one
  .exact h3.one u hu
def pJ(o:Option Nat)(v:Value)(b:Nat):Prop:=o≠some b/\v.ownBlock≠some b
theorem acn{w:World}{N:Nat->Prop}{v:Value}{x:dJ}(h:bq w N qw v (Bc x)):v= .agg #[.int .i64 x.f,.int .i64 (x.p:Int),.int .i64 (x.s:Int)]:=by
 obtain ⟨vs,⟨_,va,vb,rfl,h1,_,vc,vd,rfl,h2,_,ve,vf,rfl,h3,h4⟩,rfl⟩:=h;simp only[Rd] at h1 h2 h3 h4;subst h1 h2 h3 h4;rfl
def wP(W0 W:World)(lb ob:Nat)(lv:Value)(p:Pl)(aD:Nat)(v:Value)(l:List fE):Prop:=
 ∃xs,Boxed W ob 227 v/\W.ownsRow W0.heap.size 231 4 v l.length xs/\jG W (pJ (some ob) v) p aD l xs/\Boxed W lb 52 lv/\Below W0.heap.size W0 W/\W0.heap.size<=lb/\W0.heap.size<=ob/\lb≠ob
theorem wP.below{W0 W W':World}{lb ob:Nat}{lv:Value}{p:Pl}{aD:Nat}{v:Value}{l:List fE}(h:wP W0 W lb ob lv p aD v l)(hb:Below W.heap.size W W'):wP W0 W' lb ob lv p aD v l:=by
 obtain ⟨xs,h1,h2,h3,h4,h5,h6,h7,h8⟩:=h;have hg:W.grownBy W' none:=⟨hb.os,hb.tape,hb.output,hb.size,fun k hk _=>hb.block k hk⟩;refine ⟨xs,h1.kept hg (by simp),h2.kept hg (by cases hv:v.ownBlock<;>simp),h3.mono hb.size (fun b hm hlt=>⟨hb.block b hlt,hm⟩),h4.kept hg (by simp),h5.trans (hb.mono h5.size),h6,h7,h8⟩
theorem wP.fresh{W0 W:World}{lb ob:Nat}{lv:Value}{p:Pl}{aD:Nat}{v:Value}{l:List fE}(h:wP W0 W lb ob lv p aD v l){b:Nat}(hb:W.heap.size<=b):pJ (some ob) v b:=by
 obtain ⟨xs,h1,h2,h3,h4,h5,h6,h7,h8⟩:=h;have:=h1.lt;exact ⟨fun e=>by cases e;omega,fun e=>by have:=h2.lt _ e;omega⟩
theorem Nz:(Tryz.prog.info? 231).map (fun i=>(i.zero,i.size,i.bytes))=some (some (.agg #[.int .i64 0,.int .i64 0,.int .i64 0,.nilFunc]),4,32):=by kernel_rfl
end Go.Vc
