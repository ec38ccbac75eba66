/-
  The strokes of a plan over bytes.
-/
import Derived.Test.YtaehhpempnelhaaGreatDoorQPy
import Derived.Test.YtaehhpempnelhaaGreatDoorQWa
set_option maxRecDepth 100000
namespace Go.Vc
open Go Go.Proofs Go.Plain Go.RowKit Go.Shelf
theorem BU{w:World}{N:Nat->Prop}{v:Value}{k:Pk}(h:bq w N lS v (jY k)):∃ca cc ea ec ya yc,v= .agg #[.bool k.hd.pad,.bool k.hd.ext,.bool k.hd.mark,.int .i64 k.hd.typ,.int .u16 k.hd.seq,.int .u32 k.hd.time,.int .u32 k.hd.aN,.slice ca k.hd.bD.length cc,.int .u16 (k.aD:Int),.slice ea k.ext.length ec,.slice ya k.pay.length yc,.int .i64 (k.pad:Int)]:=by
 obtain ⟨vs,⟨_,hd,b1,rfl,⟨_,a6,b6,rfl,h6,_,a7,b7,rfl,h7,_,a8,b8,rfl,h8,_,a9,b9,rfl,h9,_,a10,b10,rfl,h10,_,a11,b11,rfl,h11,_,a12,b12,rfl,h12,_,a13,b13,rfl,h13,h14⟩,_,a2,b2,rfl,h2,_,a3,b3,rfl,h3,_,a4,b4,rfl,h4,_,a5,b5,rfl,h5,h15⟩,rfl⟩:=h;obtain ⟨x3,y3,rfl,_⟩:=h3;obtain ⟨x4,y4,rfl,_⟩:=h4;obtain ⟨x5,y5,rfl,_⟩:=h13;simp only[Rd] at h2 h5 h6 h7 h8 h9 h10 h11 h12 h14 h15;subst h2 h5 h6 h7 h8 h9 h10 h11 h12 h14 h15;refine ⟨x5,y5,x3,y3,x4,y4,?_⟩;simp[Sh.mk,Sh.isAgg,C.hd,C.tl,ofBytes]
theorem Jp{w:World}{N:Nat->Prop}{s:Sh}{v:Value}{c:C}(h:bq w N s v c):bq w (fun b=>b<w.heap.size) s v c:=h.mono (aI _) (fun _ _ hlt=>⟨rfl,hlt⟩)
theorem dw{w w':World}{s:Sh}{v:Value}{c:C}(h:bq w (fun b=>b<w.heap.size) s v c)(hb:Below w.heap.size w w'):bq w' (fun b=>b<w'.heap.size) s v c:=h.mono hb.size (fun b hlt _=>⟨hb.block b hlt,zx hlt hb.size⟩)
theorem BL(W:World)(aL:KW Tryz.prog W)(bv:Value)(b:List UInt8)(hb:bq W (fun b=>b<W.heap.size) aQ bv (B b))(hbl:b.length<=1000000):
  Calls Tryz.prog 13 #[bv] W fun e w'=>∃kv,e= .returned (.tuple #[kv,.int .i64 (cZ b)])/\bq w' (fun b=>b<w'.heap.size) lS kv (jY (jR b))/\Below W.heap.size W w':=by
 refine ((PC.mq (by decide) (Dn b hbl)).2 W _ [bv] aL ⟨_,_,rfl,hb,rfl⟩).mono ?_;rintro e w' ⟨r,rfl,⟨vs,⟨v1,r1,rfl,hv1,v2,r2,rfl,⟨_,hv2,rfl⟩,rfl⟩,rfl⟩,hb⟩;simp only[Rd] at hv2;subst hv2;exact ⟨v1,rfl,Jp hv1,hb⟩
theorem EB(W:World)(aL:KW Tryz.prog W)(pv:Value)(p:Pl)(hp:bq W (fun b=>b<W.heap.size) eu pv (eD p)):
  Calls Tryz.prog 148 #[pv] W fun e w'=>e= .returned (.bool (decide (jg p)))/\Below W.heap.size W w':=by
 refine ((PC.mq (by decide) (ai7 p)).2 W _ [pv] aL ⟨_,_,rfl,hp,rfl⟩).mono ?_;rintro e w' ⟨r,rfl,⟨vs,⟨v2,r2,rfl,⟨_,hv2,rfl⟩,rfl⟩,rfl⟩,hb⟩;simp only[Rd] at hv2;subst hv2;exact ⟨rfl,hb⟩
theorem EC(W:World)(aL:KW Tryz.prog W)(pv:Value)(p:Pl)(hp:bq W (fun b=>b<W.heap.size) eu pv (eD p)):
  Calls Tryz.prog 51 #[pv] W fun e w'=>e= .returned (.bool (decide (gU p)))/\Below W.heap.size W w':=by
 refine ((PC.mq (by decide) (KG p)).2 W _ [pv] aL ⟨_,_,rfl,hp,rfl⟩).mono ?_;rintro e w' ⟨r,rfl,⟨vs,⟨v2,r2,rfl,⟨_,hv2,rfl⟩,rfl⟩,rfl⟩,hb⟩;simp only[Rd] at hv2;subst hv2;refine ⟨?_,hb⟩;have e1:decide (p.maps≠[]\/p.over≠[]\/p.drops≠[]\/p.adds≠[])=decide (gU p):=decide_eq_decide.2 Iff.rfl;rw[e1];rfl
theorem E9(W:World)(aL:KW Tryz.prog W)(pv kv:Value)(p:Pl)(k:Pk)(hp:bq W (fun b=>b<W.heap.size) eu pv (eD p))(hk:bq W (fun b=>b<W.heap.size) lS kv (jY k))(hf:iE p)(hn:gH p)(ho:k.ok)(hb:k.ext.length<=1000000)(hpy:k.pay.length<=1000000)(hd:k.pad<=1000000):
  Calls Tryz.prog 149 #[pv,kv] W fun e w'=>e= .returned (.bool (decide (fD p k=0)))/\Below W.heap.size W w':=by
 refine ((PC.mq (by decide) (ajL p k hf hn ho hb hpy hd)).2 W _ [pv,kv] aL ⟨_,_,rfl,hp,_,_,rfl,hk,rfl⟩).mono ?_;rintro e w' ⟨r,rfl,⟨vs,⟨v2,r2,rfl,⟨_,hv2,rfl⟩,rfl⟩,rfl⟩,hb⟩;simp only[Rd] at hv2;subst hv2;exact ⟨rfl,hb⟩
theorem F7(W:World)(aL:KW Tryz.prog W)(bv:Value)(b:List UInt8)(k:Pk)(hk:Hid (bG b=k))(hb:bq W (fun b=>b<W.heap.size) aQ bv (B b))(hbl:b.length<=1000000)(he:cZ b=0):
  Calls Tryz.prog 150 #[bv] W fun e w'=>∃lv,e= .returned (.tuple #[lv,.int .i64 0])/\bq w' (fun b=>b<w'.heap.size) (.sl qw) lv (pI (placesOf k))/\Below W.heap.size W w':=by
 have h:=akm b hbl;rw[if_pos he,he,show bG b=k from hk] at h;refine ((PC.mq (by decide) h).2 W _ [bv] aL ⟨_,_,rfl,hb,rfl⟩).mono ?_;rintro e w' ⟨r,rfl,⟨vs,⟨v1,r1,rfl,hv1,v2,r2,rfl,⟨_,hv2,rfl⟩,rfl⟩,rfl⟩,hb⟩;simp only[Rd] at hv2;subst hv2;exact ⟨v1,rfl,Jp hv1,hb⟩
theorem Fa(W:World)(aL:KW Tryz.prog W)(lv:Value)(l:List dJ)(hl:bq W (fun b=>b<W.heap.size) (.sl qw) lv (pI l))(hll:l.length<=100000)(f E:Int)(hE:Hid (E=if (fF l f).isSome then 0 else 8)):
  Calls Tryz.prog 152 #[lv,.int .i64 f,.int .i64 0] W fun e w'=>∃x:dJ,e= .returned (.tuple #[.agg #[.int .i64 x.f,.int .i64 (x.p:Int),.int .i64 (x.s:Int)],.int .i64 E])/\Hid (x=(fF l f).getD dJ.zero)/\Below W.heap.size W w':=by
 refine ((PC.mq (by decide) (U9 l f hll)).2 W _ [lv,.int .i64 f,.int .i64 0] aL ⟨_,_,rfl,hl,_,_,rfl,⟨_,rfl,rfl⟩,_,_,rfl,⟨_,rfl,rfl⟩,rfl⟩).mono ?_;rintro e w' ⟨r,rfl,⟨vs,⟨v1,r1,rfl,hv1,v2,r2,rfl,⟨_,hv2,rfl⟩,rfl⟩,rfl⟩,hb⟩;simp only[Rd] at hv2;subst hv2;obtain rfl:=acn hv1;refine ⟨_,?_,rfl,hb⟩;rw[show E=_ from hE];rfl
theorem EL{w:World}{N:Nat->Prop}{v:Value}{l:List dJ}(h:bq w N (.sl qw) v (pI l)):∃a cap,v= .slice a l.length cap:=by
 obtain ⟨vs,⟨a,cap,rfl,_⟩,rfl⟩:=h;exact ⟨a,cap,by simp[Sh.mk,Sh.isAgg]⟩
def jW(p:Pl)(b:List UInt8):Int:=if cZ b≠0 then cZ b else if jg p/\fD p (bG b)=0 then 0 else 9
end Go.Vc
