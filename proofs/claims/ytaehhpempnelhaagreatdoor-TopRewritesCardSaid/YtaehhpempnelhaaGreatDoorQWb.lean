/-
  The strokes of a plan over bytes.
-/
import Derived.Test.YtaehhpempnelhaaGreatDoorQPy
import Derived.Test.YtaehhpempnelhaaGreatDoorQWa
set_option maxRecDepth 100000
namespace Go.Vc
open Go Go.Proofs Go.Plain Go.RowKit Go.Shelf
theorem zB {w:World} {N:Nat→Prop} {v:Value} {k:Pk} (h:bE w N gU v (fP k)):∃ca cc ea ec ya yc,v= .agg #[.bool k.hd.pad,.bool k.hd.ext,.bool k.hd.mark,.int .i64 k.hd.typ,.int .u16 k.hd.seq,.int .u32 k.hd.time,.int .u32 k.hd.aH,.slice ca k.hd.aI.length cc,.int .u16 (k.ak:Int),.slice ea k.ext.length ec,.slice ya k.pay.length yc,.int .i64 (k.pad:Int)]:=by
 obtain ⟨vs,⟨_,hd,b1,rfl,⟨_,a6,b6,rfl,h6,_,a7,b7,rfl,h7,_,a8,b8,rfl,h8,_,a9,b9,rfl,h9,_,a10,b10,rfl,h10,_,a11,b11,rfl,h11,_,a12,b12,rfl,h12,_,a13,b13,rfl,h13,h14⟩,_,a2,b2,rfl,h2,_,a3,b3,rfl,h3,_,a4,b4,rfl,h4,_,a5,b5,rfl,h5,h15⟩,rfl⟩:=h;obtain ⟨x3,y3,rfl,_⟩:=h3;obtain ⟨x4,y4,rfl,_⟩:=h4;obtain ⟨x5,y5,rfl,_⟩:=h13;simp only[Rd] at h2 h5 h6 h7 h8 h9 h10 h11 h12 h14 h15;subst h2 h5 h6 h7 h8 h9 h10 h11 h12 h14 h15;refine ⟨x5,y5,x3,y3,x4,y4,?_⟩;simp[Sh.mk,Sh.isAgg,C.hd,C.tl,ofBytes]
theorem FR {w:World} {N:Nat→Prop} {s:Sh} {v:Value} {c:C} (h:bE w N s v c):bE w (fun b=>b<w.heap.size) s v c:=h.mono (Nat.le_refl _) (fun _ _ hlt=>⟨rfl,hlt⟩)
theorem bT {w w':World} {s:Sh} {v:Value} {c:C} (h:bE w (fun b=>b<w.heap.size) s v c) (hb:Below w.heap.size w w'):bE w' (fun b=>b<w'.heap.size) s v c:=h.mono hb.size (fun b hlt _=>⟨hb.block b hlt,Nat.lt_of_lt_of_le hlt hb.size⟩)
theorem zl (W:World) (aN:KW Tryz.prog W) (bv:Value) (b:List UInt8) (hb:bE W (fun b=>b<W.heap.size) aV bv (B b)) (hbl:b.length≤1000000):
  Calls Tryz.prog 13 #[bv] W fun e w'=>∃kv,e= .returned (.tuple #[kv,.int .i64 (aZ b)])∧bE w' (fun b=>b<w'.heap.size) gU kv (fP (eB b))∧Below W.heap.size W w':=by
 refine ((PC.kK (by decide) (vK b hbl)).2 W _ [bv] aN ⟨_,_,rfl,hb,rfl⟩).mono ?_;rintro e w' ⟨r,rfl,⟨vs,⟨v1,r1,rfl,hv1,v2,r2,rfl,⟨_,hv2,rfl⟩,rfl⟩,rfl⟩,hb⟩;simp only[Rd] at hv2;subst hv2;exact ⟨v1,rfl,FR hv1,hb⟩
theorem BR (W:World) (aN:KW Tryz.prog W) (pv:Value) (p:Pl) (hp:bE W (fun b=>b<W.heap.size) cu pv (cK p)):
  Calls Tryz.prog 148 #[pv] W fun e w'=>e= .returned (.bool (decide (fA p)))∧Below W.heap.size W w':=by
 refine ((PC.kK (by decide) (ad5 p)).2 W _ [pv] aN ⟨_,_,rfl,hp,rfl⟩).mono ?_;rintro e w' ⟨r,rfl,⟨vs,⟨v2,r2,rfl,⟨_,hv2,rfl⟩,rfl⟩,rfl⟩,hb⟩;simp only[Rd] at hv2;subst hv2;exact ⟨rfl,hb⟩
theorem BS (W:World) (aN:KW Tryz.prog W) (pv:Value) (p:Pl) (hp:bE W (fun b=>b<W.heap.size) cu pv (cK p)):
  Calls Tryz.prog 51 #[pv] W fun e w'=>e= .returned (.bool (decide (dP p)))∧Below W.heap.size W w':=by
 refine ((PC.kK (by decide) (O6 p)).2 W _ [pv] aN ⟨_,_,rfl,hp,rfl⟩).mono ?_;rintro e w' ⟨r,rfl,⟨vs,⟨v2,r2,rfl,⟨_,hv2,rfl⟩,rfl⟩,rfl⟩,hb⟩;simp only[Rd] at hv2;subst hv2;refine ⟨?_,hb⟩;have e1:decide (p.maps≠[]∨p.over≠[]∨p.drops≠[]∨p.adds≠[])=decide (dP p):=decide_eq_decide.2 Iff.rfl;rw[e1];rfl
theorem Cv (W:World) (aN:KW Tryz.prog W) (pv kv:Value) (p:Pl) (k:Pk) (hp:bE W (fun b=>b<W.heap.size) cu pv (cK p)) (hk:bE W (fun b=>b<W.heap.size) gU kv (fP k)) (hf:fq p) (hn:dO p) (ho:k.ok) (hb:k.ext.length≤1000000) (hpy:k.pay.length≤1000000) (hd:k.pad≤1000000):
  Calls Tryz.prog 149 #[pv,kv] W fun e w'=>e= .returned (.bool (decide (dU p k=0)))∧Below W.heap.size W w':=by
 refine ((PC.kK (by decide) (aeA p k hf hn ho hb hpy hd)).2 W _ [pv,kv] aN ⟨_,_,rfl,hp,_,_,rfl,hk,rfl⟩).mono ?_;rintro e w' ⟨r,rfl,⟨vs,⟨v2,r2,rfl,⟨_,hv2,rfl⟩,rfl⟩,rfl⟩,hb⟩;simp only[Rd] at hv2;subst hv2;exact ⟨rfl,hb⟩
theorem Dj (W:World) (aN:KW Tryz.prog W) (bv:Value) (b:List UInt8) (k:Pk) (hk:Hid (aL b=k)) (hb:bE W (fun b=>b<W.heap.size) aV bv (B b)) (hbl:b.length≤1000000) (he:aZ b=0):
  Calls Tryz.prog 150 #[bv] W fun e w'=>∃lv,e= .returned (.tuple #[lv,.int .i64 0])∧bE w' (fun b=>b<w'.heap.size) (.sl ng) lv (jl (placesOf k))∧Below W.heap.size W w':=by
 have h:=ae7 b hbl;rw[if_pos he,he,show aL b=k from hk] at h;refine ((PC.kK (by decide) h).2 W _ [bv] aN ⟨_,_,rfl,hb,rfl⟩).mono ?_;rintro e w' ⟨r,rfl,⟨vs,⟨v1,r1,rfl,hv1,v2,r2,rfl,⟨_,hv2,rfl⟩,rfl⟩,rfl⟩,hb⟩;simp only[Rd] at hv2;subst hv2;exact ⟨v1,rfl,FR hv1,hb⟩
theorem Cw (W:World) (aN:KW Tryz.prog W) (lv:Value) (l:List bI) (hl:bE W (fun b=>b<W.heap.size) (.sl ng) lv (jl l)) (hll:l.length≤100000) (f E:Int) (hE:Hid (E=if (eG l f).isSome then 0 else 8)):
  Calls Tryz.prog 152 #[lv,.int .i64 f,.int .i64 0] W fun e w'=>∃x:bI,e= .returned (.tuple #[.agg #[.int .i64 x.f,.int .i64 (x.p:Int),.int .i64 (x.s:Int)],.int .i64 E])∧Hid (x=(eG l f).getD bI.zero)∧Below W.heap.size W w':=by
 refine ((PC.kK (by decide) (QB l f hll)).2 W _ [lv,.int .i64 f,.int .i64 0] aN ⟨_,_,rfl,hl,_,_,rfl,⟨_,rfl,rfl⟩,_,_,rfl,⟨_,rfl,rfl⟩,rfl⟩).mono ?_;rintro e w' ⟨r,rfl,⟨vs,⟨v1,r1,rfl,hv1,v2,r2,rfl,⟨_,hv2,rfl⟩,rfl⟩,rfl⟩,hb⟩;simp only[Rd] at hv2;subst hv2;obtain rfl:=XW hv1;refine ⟨_,?_,rfl,hb⟩;rw[show E=_ from hE];rfl
theorem Cg {w:World} {N:Nat→Prop} {v:Value} {l:List bI} (h:bE w N (.sl ng) v (jl l)):∃a cap,v= .slice a l.length cap:=by
 obtain ⟨vs,⟨a,cap,rfl,_⟩,rfl⟩:=h;exact ⟨a,cap,by simp[Sh.mk,Sh.isAgg]⟩
def fO (p:Pl) (b:List UInt8):Int:=if aZ b≠0 then aZ b else if fA p∧dU p (aL b)=0 then 0 else 9
end Go.Vc
