/-
  The strokes of a plan over bytes, walked.
-/
import Derived.Test.YtaehhpempnelhaaGreatDoorQWb

set_option maxRecDepth 100000
namespace Go.Vc
open Go Go.Proofs Go.Plain Go.RowKit Go.Shelf
theorem skE_ok {p:Pl} {b:List UInt8} (h:skE p b=0):pkE b=0∧plKeeps p∧(behind p (pkRaw b)).isSome:=by
 unfold skE at h
 split at h
 ·rename_i h1;exact absurd h h1
 ·rename_i h1
  split at h
  ·rename_i h2
   refine ⟨by omega,h2.1,?_⟩
   have h3:=h2.2
   unfold apE at h3
   split at h3
   ·cases h3
   ·split at h3
    ·assumption
    ·cases h3
  ·cases h
theorem strokes_none {p:Pl} {k:Pk} (h:(findP (placesOf k) 9).isSome=false∨¬plAny p):strokes p k=stkF p:=by
 have e:stkE p k=[]:=by
  unfold stkE
  split
  ·rename_i hx
   rcases h with h|h
   ·rw[find_ext] at h
    have hl:k.ext.length=0:=by
     by_cases h0:k.ext.length=0
     ·exact h0
     ·rw[if_pos ⟨hx,h0⟩] at h;cases h
    have hc:=spots_count k.prof k.ext
    rw[List.eq_nil_of_length_eq_zero (show (spots k.prof k.ext).1.length=0 by omega)]
    rfl
   ·obtain ⟨h1,h2,_⟩:=plAny_not h
    rw[List.flatMap_eq_nil_iff]
    intro s _
    unfold stkS
    rw[h1,h2]
    rfl
  ·rfl
 unfold strokes
 rw[e,List.append_nil]
theorem strokes_some {p:Pl} {k x:Pk} (hx:behind p k=some x) (h:(findP (placesOf k) 9).isSome=true) (ha:plAny p):
  findP (placesOf k) 9=some ⟨9,extAt k,k.ext.length⟩∧(spots k.prof k.ext).2=0∧strokes p k=stkF p++(spots k.prof k.ext).1.flatMap (stkS p (narB k) (extAt k)):=by
 rw[find_ext] at h ⊢
 split at h
 ·rename_i hc
  rw[if_pos hc]
  obtain ⟨_,l,hl,_⟩:=behind_some hx
  rw[if_pos ha] at hl
  obtain ⟨w,hw,_⟩:=elems_some hl
  unfold wasOf at hw
  rw[if_pos hc.1] at hw
  refine ⟨rfl,?_,?_⟩
  ·split at hw
   ·assumption
   ·cases hw
  ·unfold strokes stkE
   rw[if_pos hc.1]
 ·cases h
theorem stkF_len (p:Pl):(stkF p).length≤4:=by
 unfold stkF
 split<;>split<;>split<;>split<;>simp
theorem cells15 {w:World} {b:Nat} {c0 c1 c2 c3 c4 c5 c6 c7 c8 c9 c10 c11 c12 c13 c14:Value} {t:TypeId} (h:w.heap[b]?=some (.cells #[c0,c1,c2,c3,c4,c5,c6,c7,c8,c9,c10,c11,c12,c13,c14] t (0,0))):
  w.cell? ⟨b,0,none⟩=some c0∧w.cell? ⟨b,1,none⟩=some c1∧w.cell? ⟨b,2,none⟩=some c2∧w.cell? ⟨b,3,none⟩=some c3∧w.cell? ⟨b,4,none⟩=some c4∧w.cell? ⟨b,5,none⟩=some c5∧w.cell? ⟨b,6,none⟩=some c6∧w.cell? ⟨b,7,none⟩=some c7∧w.cell? ⟨b,8,none⟩=some c8∧w.cell? ⟨b,9,none⟩=some c9∧w.cell? ⟨b,10,none⟩=some c10∧w.cell? ⟨b,11,none⟩=some c11∧w.cell? ⟨b,12,none⟩=some c12∧w.cell? ⟨b,13,none⟩=some c13∧w.cell? ⟨b,14,none⟩=some c14:=by
 simp[World.cell?,h]
theorem cells12 {w:World} {b:Nat} {c0 c1 c2 c3 c4 c5 c6 c7 c8 c9 c10 c11:Value} {t:TypeId} (h:w.heap[b]?=some (.cells #[c0,c1,c2,c3,c4,c5,c6,c7,c8,c9,c10,c11] t (0,0))):
  w.cell? ⟨b,0,none⟩=some c0∧w.cell? ⟨b,1,none⟩=some c1∧w.cell? ⟨b,2,none⟩=some c2∧w.cell? ⟨b,3,none⟩=some c3∧w.cell? ⟨b,4,none⟩=some c4∧w.cell? ⟨b,5,none⟩=some c5∧w.cell? ⟨b,6,none⟩=some c6∧w.cell? ⟨b,7,none⟩=some c7∧w.cell? ⟨b,8,none⟩=some c8∧w.cell? ⟨b,9,none⟩=some c9∧w.cell? ⟨b,10,none⟩=some c10∧w.cell? ⟨b,11,none⟩=some c11:=by
 simp[World.cell?,h]
/-- What the walk holds between two calls: the plan's box, the packet's. -/
structure SkW (W0 W:World) (pb kb:Nat) (pv kv bv:Value) (pc kc:Array Value) (p:Pl) (b:List UInt8) (k:Pk):Prop where
 kw:KW Tryz.prog W
 pl:W.heap[pb]?=some (.cells pc 29 (0,0))
 pk:W.heap[kb]?=some (.cells kc 43 (0,0))
 rp:RdV W (fun b=>b<W.heap.size) PlSh pv (PlC p)
 rk:RdV W (fun b=>b<W.heap.size) PkSh kv (PkC k)
 rb:RdV W (fun b=>b<W.heap.size) Byt bv (B b)
 bel:Below W0.heap.size W0 W
theorem SkW.below {W0 W W':World} {pb kb:Nat} {pv kv bv:Value} {pc kc:Array Value} {p:Pl} {b:List UInt8} {k:Pk} (h:SkW W0 W pb kb pv kv bv pc kc p b k) (hb:Below W.heap.size W W'):SkW W0 W' pb kb pv kv bv pc kc p b k:=
 ⟨h.kw.below hb,(hb.block pb (Array.getElem?_eq_some_iff.1 h.pl).1).trans h.pl,(hb.block kb (Array.getElem?_eq_some_iff.1 h.pk).1).trans h.pk,rd_keep h.rp hb,rd_keep h.rk hb,rd_keep h.rb hb,h.bel.trans (hb.mono h.bel.size)⟩
theorem isSome_of {o:Option Plc} (h:Hid ((8:Int)=if o.isSome then 0 else 8)):o.isSome=false:=by
 have h:(8:Int)=if o.isSome then 0 else 8:=h
 cases ho:o.isSome with
 |false=>rfl
 |true=>rw[ho] at h;simp at h
theorem isSome_of' {o:Option Plc} (h:Hid ((0:Int)=if o.isSome then 0 else 8)):o.isSome=true:=by
 have h:(0:Int)=if o.isSome then 0 else 8:=h
 cases ho:o.isSome with
 |true=>rfl
 |false=>rw[ho] at h;simp at h
set_option maxHeartbeats 1600000 in
theorem st_sk1 (W0:World) (hkw:KW Tryz.prog W0) (pv bv:Value) (p:Pl) (b:List UInt8) (k:Pk) (hkk:Hid (pkRaw b=k)) (hp:RdV W0 (fun b=>b<W0.heap.size) PlSh pv (PlC p)) (hb:RdV W0 (fun b=>b<W0.heap.size) Byt bv (B b)) (hbl:b.length≤1000000) (few:plFew p) (num:plNum p) (he:pkE b=0) (ko:k.ok) (hkb:k.ext.length≤1000000∧k.pay.length≤1000000∧k.pad≤1000000) (hcs:k.hd.csrc.length≤15) (hk:¬plKeeps p) (hf:True) (E:Int) (hs:Hid (E=0)) (ha:True):
  Calls Tryz.prog 119 #[pv,bv] W0 fun e W'=>∃v,e= .returned (.tuple #[v,.int .i64 9])∧Below W0.heap.size W0 W':=by
 have hp0:=hp
 obtain ⟨mv,ov,dv,av,rfl,_⟩:=rd_pl hp
 have hbX:=Below.alloc (Below.refl W0.heap.size W0) (Nat.le_refl _) (.cells #[.bool p.sm,.bool p.m,.bool p.st,.int .i64 p.ty,.bool p.sq,.int .u16 p.seq,.bool p.stm,.int .u32 p.time,.bool p.ss,.int .u32 p.ssrc,mv,ov,dv,av,.bool p.np] 29)
 have hPl0:=World.alloc_heap_new W0 (.cells #[.bool p.sm,.bool p.m,.bool p.st,.int .i64 p.ty,.bool p.sq,.int .u16 p.seq,.bool p.stm,.int .u32 p.time,.bool p.ss,.int .u32 p.ssrc,mv,ov,dv,av,.bool p.np] 29)
 have hrd:=c_pread _ (hkw.below hbX) bv b (rd_keep hb hbX) hbl
 rw[show pkOf b=k from by unfold pkOf;rw[if_pos he];exact hkk,he] at hrd
 have hpl:(placesOf k).length≤100000:=by have:=placesOf_len k;omega
 go_enter Tryz.func119,Tryz.ntmps119
 go_wp2_with (first
  |(go_at_call 13;refine hrd.mono ?_;rintro e w1 ⟨kv,rfl,hkv,hbe⟩;obtain ⟨ca,cc,ea,ec,ya,yc,rfl⟩:=rd_pk2 hkv;have z1:=hbe.size;simp only[World.size_alloc] at z1;have hB:=Below.alloc (Below.refl w1.heap.size w1) (Nat.le_refl _) (.cells #[.bool k.hd.pad,.bool k.hd.ext,.bool k.hd.mark,.int .i64 k.hd.typ,.int .u16 k.hd.seq,.int .u32 k.hd.time,.int .u32 k.hd.ssrc,.slice ca k.hd.csrc.length cc,.int .u16 (k.prof:Int),.slice ea k.ext.length ec,.slice ya k.pay.length yc,.int .i64 (k.pad:Int)] 43);have hK:=World.alloc_heap_new w1 (.cells #[.bool k.hd.pad,.bool k.hd.ext,.bool k.hd.mark,.int .i64 k.hd.typ,.int .u16 k.hd.seq,.int .u32 k.hd.time,.int .u32 k.hd.ssrc,.slice ca k.hd.csrc.length cc,.int .u16 (k.prof:Int),.slice ea k.ext.length ec,.slice ya k.pay.length yc,.int .i64 (k.pad:Int)] 43);have S2:SkW W0 (w1.alloc (.cells #[.bool k.hd.pad,.bool k.hd.ext,.bool k.hd.mark,.int .i64 k.hd.typ,.int .u16 k.hd.seq,.int .u32 k.hd.time,.int .u32 k.hd.ssrc,.slice ca k.hd.csrc.length cc,.int .u16 (k.prof:Int),.slice ea k.ext.length ec,.slice ya k.pay.length yc,.int .i64 (k.pad:Int)] 43)) W0.heap.size w1.heap.size (.agg #[.bool p.sm,.bool p.m,.bool p.st,.int .i64 p.ty,.bool p.sq,.int .u16 p.seq,.bool p.stm,.int .u32 p.time,.bool p.ss,.int .u32 p.ssrc,mv,ov,dv,av,.bool p.np]) (.agg #[.bool k.hd.pad,.bool k.hd.ext,.bool k.hd.mark,.int .i64 k.hd.typ,.int .u16 k.hd.seq,.int .u32 k.hd.time,.int .u32 k.hd.ssrc,.slice ca k.hd.csrc.length cc,.int .u16 (k.prof:Int),.slice ea k.ext.length ec,.slice ya k.pay.length yc,.int .i64 (k.pad:Int)]) bv #[.bool p.sm,.bool p.m,.bool p.st,.int .i64 p.ty,.bool p.sq,.int .u16 p.seq,.bool p.stm,.int .u32 p.time,.bool p.ss,.int .u32 p.ssrc,mv,ov,dv,av,.bool p.np] #[.bool k.hd.pad,.bool k.hd.ext,.bool k.hd.mark,.int .i64 k.hd.typ,.int .u16 k.hd.seq,.int .u32 k.hd.time,.int .u32 k.hd.ssrc,.slice ca k.hd.csrc.length cc,.int .u16 (k.prof:Int),.slice ea k.ext.length ec,.slice ya k.pay.length yc,.int .i64 (k.pad:Int)] p b k:=⟨((hkw.below hbX).below hbe).below hB,(hB.block _ (by omega)).trans ((hbe.block _ (by simp)).trans hPl0),hK,rd_keep (rd_keep (rd_keep hp0 hbX) hbe) hB,rd_keep hkv hB,rd_keep (rd_keep (rd_keep hb hbX) hbe) hB,hbX.trans ((hbe.mono (by simp)).trans (hB.mono (by omega)))⟩;clear hB hK hkv hbe;obtain ⟨q0,q1,q2,q3,q4,q5,q6,q7,q8,q9,q10,q11,q12,q13,q14⟩:=cells15 S2.pl;obtain ⟨k0,k1,k2,k3,k4,k5,k6,k7,k8,k9,k10,k11⟩:=cells12 S2.pk)
  |(go_at_call 148;refine (c_keeps _ S2.kw _ p S2.rp).mono ?_;rintro e w3 ⟨rfl,hb3⟩;have S3:=S2.below hb3;clear q0 q1 q2 q3 q4 q5 q6 q7 q8 q9 q10 q11 q12 q13 q14 k0 k1 k2 k3 k4 k5 k6 k7 k8 k9 k10 k11;obtain ⟨q0,q1,q2,q3,q4,q5,q6,q7,q8,q9,q10,q11,q12,q13,q14⟩:=cells15 S3.pl;obtain ⟨k0,k1,k2,k3,k4,k5,k6,k7,k8,k9,k10,k11⟩:=cells12 S3.pk)
  |(go_at_call 149;refine (c_fits _ S3.kw _ _ p k S3.rp S3.rk few num ko hkb.1 hkb.2.1 hkb.2.2).mono ?_;rintro e w4 ⟨rfl,hb4⟩;have S4:=S3.below hb4;clear q0 q1 q2 q3 q4 q5 q6 q7 q8 q9 q10 q11 q12 q13 q14 k0 k1 k2 k3 k4 k5 k6 k7 k8 k9 k10 k11;obtain ⟨q0,q1,q2,q3,q4,q5,q6,q7,q8,q9,q10,q11,q12,q13,q14⟩:=cells15 S4.pl;obtain ⟨k0,k1,k2,k3,k4,k5,k6,k7,k8,k9,k10,k11⟩:=cells12 S4.pk)
  |(go_at_call 150;refine (c_of _ S4.kw _ b k hkk S4.rb hbl he).mono ?_;rintro e w5 ⟨lv,rfl,hlv,hb5⟩;have S5:=S4.below hb5;clear q0 q1 q2 q3 q4 q5 q6 q7 q8 q9 q10 q11 q12 q13 q14 k0 k1 k2 k3 k4 k5 k6 k7 k8 k9 k10 k11;obtain ⟨q0,q1,q2,q3,q4,q5,q6,q7,q8,q9,q10,q11,q12,q13,q14⟩:=cells15 S5.pl;obtain ⟨k0,k1,k2,k3,k4,k5,k6,k7,k8,k9,k10,k11⟩:=cells12 S5.pk;obtain ⟨la,lc,rfl⟩:=rd_pcs hlv)
  |(go_at_call 151;refine (st_fields w5 S5.kw _ _ _ p k S5.rp hlv num (by omega) (fun _ h=>h) k.prof).mono ?_;rintro e w6 ⟨v1,xs1,rfl,o6,k6',hb6⟩;have S6:=S5.below hb6;clear q0 q1 q2 q3 q4 q5 q6 q7 q8 q9 q10 q11 q12 q13 q14 k0 k1 k2 k3 k4 k5 k6 k7 k8 k9 k10 k11;obtain ⟨q0,q1,q2,q3,q4,q5,q6,q7,q8,q9,q10,q11,q12,q13,q14⟩:=cells15 S6.pl;obtain ⟨k0,k1,k2,k3,k4,k5,k6,k7,k8,k9,k10,k11⟩:=cells12 S6.pk;have hl6:=rd_keep hlv hb6)
  |(go_at_call 152;refine (c_find _ S6.kw _ _ hl6 hpl 9 _ hs).mono ?_;rintro e w7 ⟨x,rfl,hx,hb7⟩;have hb7':=hb7.alloc hb7.size (.cells #[.int .i64 x.f,.int .i64 (x.p:Int),.int .i64 (x.s:Int)] 56);have hx7:=World.alloc_heap_new w7 (.cells #[.int .i64 x.f,.int .i64 (x.p:Int),.int .i64 (x.s:Int)] 56);have S8:=S6.below hb7';clear q0 q1 q2 q3 q4 q5 q6 q7 q8 q9 q10 q11 q12 q13 q14 k0 k1 k2 k3 k4 k5 k6 k7 k8 k9 k10 k11;obtain ⟨q0,q1,q2,q3,q4,q5,q6,q7,q8,q9,q10,q11,q12,q13,q14⟩:=cells15 S8.pl;obtain ⟨k0,k1,k2,k3,k4,k5,k6,k7,k8,k9,k10,k11⟩:=cells12 S8.pk)
  |(go_at_call 51;refine (c_elems _ S8.kw _ p S8.rp).mono ?_;rintro e w9 ⟨rfl,hb9⟩;have S9:=S8.below hb9;clear q0 q1 q2 q3 q4 q5 q6 q7 q8 q9 q10 q11 q12 q13 q14 k0 k1 k2 k3 k4 k5 k6 k7 k8 k9 k10 k11;obtain ⟨q0,q1,q2,q3,q4,q5,q6,q7,q8,q9,q10,q11,q12,q13,q14⟩:=cells15 S9.pl;obtain ⟨k0,k1,k2,k3,k4,k5,k6,k7,k8,k9,k10,k11⟩:=cells12 S9.pk;have hx9:=(hb9.block _ (by simp)).trans hx7;have hx9c:w9.cell? ⟨w7.heap.size,1,none⟩=some (.int .i64 (x.p:Int)):=by simp[World.cell?,hx9])
  |fail)
 refine bodyPost_ret (results_tmp2 rfl _ _ _) rfl ?_;exact ⟨_,rfl,S3.bel⟩
set_option maxHeartbeats 1600000 in
theorem st_sk2 (W0:World) (hkw:KW Tryz.prog W0) (pv bv:Value) (p:Pl) (b:List UInt8) (k:Pk) (hkk:Hid (pkRaw b=k)) (hp:RdV W0 (fun b=>b<W0.heap.size) PlSh pv (PlC p)) (hb:RdV W0 (fun b=>b<W0.heap.size) Byt bv (B b)) (hbl:b.length≤1000000) (few:plFew p) (num:plNum p) (he:pkE b=0) (ko:k.ok) (hkb:k.ext.length≤1000000∧k.pay.length≤1000000∧k.pad≤1000000) (hcs:k.hd.csrc.length≤15) (hk:plKeeps p) (hf:¬apE p k=0) (E:Int) (hs:Hid (E=0)) (ha:True):
  Calls Tryz.prog 119 #[pv,bv] W0 fun e W'=>∃v,e= .returned (.tuple #[v,.int .i64 9])∧Below W0.heap.size W0 W':=by
 have hp0:=hp
 obtain ⟨mv,ov,dv,av,rfl,_⟩:=rd_pl hp
 have hbX:=Below.alloc (Below.refl W0.heap.size W0) (Nat.le_refl _) (.cells #[.bool p.sm,.bool p.m,.bool p.st,.int .i64 p.ty,.bool p.sq,.int .u16 p.seq,.bool p.stm,.int .u32 p.time,.bool p.ss,.int .u32 p.ssrc,mv,ov,dv,av,.bool p.np] 29)
 have hPl0:=World.alloc_heap_new W0 (.cells #[.bool p.sm,.bool p.m,.bool p.st,.int .i64 p.ty,.bool p.sq,.int .u16 p.seq,.bool p.stm,.int .u32 p.time,.bool p.ss,.int .u32 p.ssrc,mv,ov,dv,av,.bool p.np] 29)
 have hrd:=c_pread _ (hkw.below hbX) bv b (rd_keep hb hbX) hbl
 rw[show pkOf b=k from by unfold pkOf;rw[if_pos he];exact hkk,he] at hrd
 have hpl:(placesOf k).length≤100000:=by have:=placesOf_len k;omega
 go_enter Tryz.func119,Tryz.ntmps119
 go_wp2_with (first
  |(go_at_call 13;refine hrd.mono ?_;rintro e w1 ⟨kv,rfl,hkv,hbe⟩;obtain ⟨ca,cc,ea,ec,ya,yc,rfl⟩:=rd_pk2 hkv;have z1:=hbe.size;simp only[World.size_alloc] at z1;have hB:=Below.alloc (Below.refl w1.heap.size w1) (Nat.le_refl _) (.cells #[.bool k.hd.pad,.bool k.hd.ext,.bool k.hd.mark,.int .i64 k.hd.typ,.int .u16 k.hd.seq,.int .u32 k.hd.time,.int .u32 k.hd.ssrc,.slice ca k.hd.csrc.length cc,.int .u16 (k.prof:Int),.slice ea k.ext.length ec,.slice ya k.pay.length yc,.int .i64 (k.pad:Int)] 43);have hK:=World.alloc_heap_new w1 (.cells #[.bool k.hd.pad,.bool k.hd.ext,.bool k.hd.mark,.int .i64 k.hd.typ,.int .u16 k.hd.seq,.int .u32 k.hd.time,.int .u32 k.hd.ssrc,.slice ca k.hd.csrc.length cc,.int .u16 (k.prof:Int),.slice ea k.ext.length ec,.slice ya k.pay.length yc,.int .i64 (k.pad:Int)] 43);have S2:SkW W0 (w1.alloc (.cells #[.bool k.hd.pad,.bool k.hd.ext,.bool k.hd.mark,.int .i64 k.hd.typ,.int .u16 k.hd.seq,.int .u32 k.hd.time,.int .u32 k.hd.ssrc,.slice ca k.hd.csrc.length cc,.int .u16 (k.prof:Int),.slice ea k.ext.length ec,.slice ya k.pay.length yc,.int .i64 (k.pad:Int)] 43)) W0.heap.size w1.heap.size (.agg #[.bool p.sm,.bool p.m,.bool p.st,.int .i64 p.ty,.bool p.sq,.int .u16 p.seq,.bool p.stm,.int .u32 p.time,.bool p.ss,.int .u32 p.ssrc,mv,ov,dv,av,.bool p.np]) (.agg #[.bool k.hd.pad,.bool k.hd.ext,.bool k.hd.mark,.int .i64 k.hd.typ,.int .u16 k.hd.seq,.int .u32 k.hd.time,.int .u32 k.hd.ssrc,.slice ca k.hd.csrc.length cc,.int .u16 (k.prof:Int),.slice ea k.ext.length ec,.slice ya k.pay.length yc,.int .i64 (k.pad:Int)]) bv #[.bool p.sm,.bool p.m,.bool p.st,.int .i64 p.ty,.bool p.sq,.int .u16 p.seq,.bool p.stm,.int .u32 p.time,.bool p.ss,.int .u32 p.ssrc,mv,ov,dv,av,.bool p.np] #[.bool k.hd.pad,.bool k.hd.ext,.bool k.hd.mark,.int .i64 k.hd.typ,.int .u16 k.hd.seq,.int .u32 k.hd.time,.int .u32 k.hd.ssrc,.slice ca k.hd.csrc.length cc,.int .u16 (k.prof:Int),.slice ea k.ext.length ec,.slice ya k.pay.length yc,.int .i64 (k.pad:Int)] p b k:=⟨((hkw.below hbX).below hbe).below hB,(hB.block _ (by omega)).trans ((hbe.block _ (by simp)).trans hPl0),hK,rd_keep (rd_keep (rd_keep hp0 hbX) hbe) hB,rd_keep hkv hB,rd_keep (rd_keep (rd_keep hb hbX) hbe) hB,hbX.trans ((hbe.mono (by simp)).trans (hB.mono (by omega)))⟩;clear hB hK hkv hbe;obtain ⟨q0,q1,q2,q3,q4,q5,q6,q7,q8,q9,q10,q11,q12,q13,q14⟩:=cells15 S2.pl;obtain ⟨k0,k1,k2,k3,k4,k5,k6,k7,k8,k9,k10,k11⟩:=cells12 S2.pk)
  |(go_at_call 148;refine (c_keeps _ S2.kw _ p S2.rp).mono ?_;rintro e w3 ⟨rfl,hb3⟩;have S3:=S2.below hb3;clear q0 q1 q2 q3 q4 q5 q6 q7 q8 q9 q10 q11 q12 q13 q14 k0 k1 k2 k3 k4 k5 k6 k7 k8 k9 k10 k11;obtain ⟨q0,q1,q2,q3,q4,q5,q6,q7,q8,q9,q10,q11,q12,q13,q14⟩:=cells15 S3.pl;obtain ⟨k0,k1,k2,k3,k4,k5,k6,k7,k8,k9,k10,k11⟩:=cells12 S3.pk)
  |(go_at_call 149;refine (c_fits _ S3.kw _ _ p k S3.rp S3.rk few num ko hkb.1 hkb.2.1 hkb.2.2).mono ?_;rintro e w4 ⟨rfl,hb4⟩;have S4:=S3.below hb4;clear q0 q1 q2 q3 q4 q5 q6 q7 q8 q9 q10 q11 q12 q13 q14 k0 k1 k2 k3 k4 k5 k6 k7 k8 k9 k10 k11;obtain ⟨q0,q1,q2,q3,q4,q5,q6,q7,q8,q9,q10,q11,q12,q13,q14⟩:=cells15 S4.pl;obtain ⟨k0,k1,k2,k3,k4,k5,k6,k7,k8,k9,k10,k11⟩:=cells12 S4.pk)
  |(go_at_call 150;refine (c_of _ S4.kw _ b k hkk S4.rb hbl he).mono ?_;rintro e w5 ⟨lv,rfl,hlv,hb5⟩;have S5:=S4.below hb5;clear q0 q1 q2 q3 q4 q5 q6 q7 q8 q9 q10 q11 q12 q13 q14 k0 k1 k2 k3 k4 k5 k6 k7 k8 k9 k10 k11;obtain ⟨q0,q1,q2,q3,q4,q5,q6,q7,q8,q9,q10,q11,q12,q13,q14⟩:=cells15 S5.pl;obtain ⟨k0,k1,k2,k3,k4,k5,k6,k7,k8,k9,k10,k11⟩:=cells12 S5.pk;obtain ⟨la,lc,rfl⟩:=rd_pcs hlv)
  |(go_at_call 151;refine (st_fields w5 S5.kw _ _ _ p k S5.rp hlv num (by omega) (fun _ h=>h) k.prof).mono ?_;rintro e w6 ⟨v1,xs1,rfl,o6,k6',hb6⟩;have S6:=S5.below hb6;clear q0 q1 q2 q3 q4 q5 q6 q7 q8 q9 q10 q11 q12 q13 q14 k0 k1 k2 k3 k4 k5 k6 k7 k8 k9 k10 k11;obtain ⟨q0,q1,q2,q3,q4,q5,q6,q7,q8,q9,q10,q11,q12,q13,q14⟩:=cells15 S6.pl;obtain ⟨k0,k1,k2,k3,k4,k5,k6,k7,k8,k9,k10,k11⟩:=cells12 S6.pk;have hl6:=rd_keep hlv hb6)
  |(go_at_call 152;refine (c_find _ S6.kw _ _ hl6 hpl 9 _ hs).mono ?_;rintro e w7 ⟨x,rfl,hx,hb7⟩;have hb7':=hb7.alloc hb7.size (.cells #[.int .i64 x.f,.int .i64 (x.p:Int),.int .i64 (x.s:Int)] 56);have hx7:=World.alloc_heap_new w7 (.cells #[.int .i64 x.f,.int .i64 (x.p:Int),.int .i64 (x.s:Int)] 56);have S8:=S6.below hb7';clear q0 q1 q2 q3 q4 q5 q6 q7 q8 q9 q10 q11 q12 q13 q14 k0 k1 k2 k3 k4 k5 k6 k7 k8 k9 k10 k11;obtain ⟨q0,q1,q2,q3,q4,q5,q6,q7,q8,q9,q10,q11,q12,q13,q14⟩:=cells15 S8.pl;obtain ⟨k0,k1,k2,k3,k4,k5,k6,k7,k8,k9,k10,k11⟩:=cells12 S8.pk)
  |(go_at_call 51;refine (c_elems _ S8.kw _ p S8.rp).mono ?_;rintro e w9 ⟨rfl,hb9⟩;have S9:=S8.below hb9;clear q0 q1 q2 q3 q4 q5 q6 q7 q8 q9 q10 q11 q12 q13 q14 k0 k1 k2 k3 k4 k5 k6 k7 k8 k9 k10 k11;obtain ⟨q0,q1,q2,q3,q4,q5,q6,q7,q8,q9,q10,q11,q12,q13,q14⟩:=cells15 S9.pl;obtain ⟨k0,k1,k2,k3,k4,k5,k6,k7,k8,k9,k10,k11⟩:=cells12 S9.pk;have hx9:=(hb9.block _ (by simp)).trans hx7;have hx9c:w9.cell? ⟨w7.heap.size,1,none⟩=some (.int .i64 (x.p:Int)):=by simp[World.cell?,hx9])
  |fail)
 refine bodyPost_ret (results_tmp2 rfl _ _ _) rfl ?_;exact ⟨_,rfl,S4.bel⟩
set_option maxHeartbeats 1600000 in
theorem st_sk3 (W0:World) (hkw:KW Tryz.prog W0) (pv bv:Value) (p:Pl) (b:List UInt8) (k:Pk) (hkk:Hid (pkRaw b=k)) (hp:RdV W0 (fun b=>b<W0.heap.size) PlSh pv (PlC p)) (hb:RdV W0 (fun b=>b<W0.heap.size) Byt bv (B b)) (hbl:b.length≤1000000) (few:plFew p) (num:plNum p) (he:pkE b=0) (ko:k.ok) (hkb:k.ext.length≤1000000∧k.pay.length≤1000000∧k.pad≤1000000) (hcs:k.hd.csrc.length≤15) (hk:plKeeps p) (hf:apE p k=0) (hs:Hid ((8:Int)=if (findP (placesOf k) 9).isSome then 0 else 8)) (ha:True):
  Calls Tryz.prog 119 #[pv,bv] W0 fun e W'=>∃v,e= .returned (.tuple #[v,.int .i64 0])∧Below W0.heap.size W0 W'∧∃xs,W'.ownsRow W0.heap.size 231 4 v (strokes p k).length xs∧SkAt W' (fun b=>v.ownBlock≠some b) p k.prof (strokes p k) xs:=by
 have hp0:=hp
 obtain ⟨mv,ov,dv,av,rfl,_⟩:=rd_pl hp
 have hbX:=Below.alloc (Below.refl W0.heap.size W0) (Nat.le_refl _) (.cells #[.bool p.sm,.bool p.m,.bool p.st,.int .i64 p.ty,.bool p.sq,.int .u16 p.seq,.bool p.stm,.int .u32 p.time,.bool p.ss,.int .u32 p.ssrc,mv,ov,dv,av,.bool p.np] 29)
 have hPl0:=World.alloc_heap_new W0 (.cells #[.bool p.sm,.bool p.m,.bool p.st,.int .i64 p.ty,.bool p.sq,.int .u16 p.seq,.bool p.stm,.int .u32 p.time,.bool p.ss,.int .u32 p.ssrc,mv,ov,dv,av,.bool p.np] 29)
 have hrd:=c_pread _ (hkw.below hbX) bv b (rd_keep hb hbX) hbl
 rw[show pkOf b=k from by unfold pkOf;rw[if_pos he];exact hkk,he] at hrd
 have hpl:(placesOf k).length≤100000:=by have:=placesOf_len k;omega
 go_enter Tryz.func119,Tryz.ntmps119
 go_wp2_with (first
  |(go_at_call 13;refine hrd.mono ?_;rintro e w1 ⟨kv,rfl,hkv,hbe⟩;obtain ⟨ca,cc,ea,ec,ya,yc,rfl⟩:=rd_pk2 hkv;have z1:=hbe.size;simp only[World.size_alloc] at z1;have hB:=Below.alloc (Below.refl w1.heap.size w1) (Nat.le_refl _) (.cells #[.bool k.hd.pad,.bool k.hd.ext,.bool k.hd.mark,.int .i64 k.hd.typ,.int .u16 k.hd.seq,.int .u32 k.hd.time,.int .u32 k.hd.ssrc,.slice ca k.hd.csrc.length cc,.int .u16 (k.prof:Int),.slice ea k.ext.length ec,.slice ya k.pay.length yc,.int .i64 (k.pad:Int)] 43);have hK:=World.alloc_heap_new w1 (.cells #[.bool k.hd.pad,.bool k.hd.ext,.bool k.hd.mark,.int .i64 k.hd.typ,.int .u16 k.hd.seq,.int .u32 k.hd.time,.int .u32 k.hd.ssrc,.slice ca k.hd.csrc.length cc,.int .u16 (k.prof:Int),.slice ea k.ext.length ec,.slice ya k.pay.length yc,.int .i64 (k.pad:Int)] 43);have S2:SkW W0 (w1.alloc (.cells #[.bool k.hd.pad,.bool k.hd.ext,.bool k.hd.mark,.int .i64 k.hd.typ,.int .u16 k.hd.seq,.int .u32 k.hd.time,.int .u32 k.hd.ssrc,.slice ca k.hd.csrc.length cc,.int .u16 (k.prof:Int),.slice ea k.ext.length ec,.slice ya k.pay.length yc,.int .i64 (k.pad:Int)] 43)) W0.heap.size w1.heap.size (.agg #[.bool p.sm,.bool p.m,.bool p.st,.int .i64 p.ty,.bool p.sq,.int .u16 p.seq,.bool p.stm,.int .u32 p.time,.bool p.ss,.int .u32 p.ssrc,mv,ov,dv,av,.bool p.np]) (.agg #[.bool k.hd.pad,.bool k.hd.ext,.bool k.hd.mark,.int .i64 k.hd.typ,.int .u16 k.hd.seq,.int .u32 k.hd.time,.int .u32 k.hd.ssrc,.slice ca k.hd.csrc.length cc,.int .u16 (k.prof:Int),.slice ea k.ext.length ec,.slice ya k.pay.length yc,.int .i64 (k.pad:Int)]) bv #[.bool p.sm,.bool p.m,.bool p.st,.int .i64 p.ty,.bool p.sq,.int .u16 p.seq,.bool p.stm,.int .u32 p.time,.bool p.ss,.int .u32 p.ssrc,mv,ov,dv,av,.bool p.np] #[.bool k.hd.pad,.bool k.hd.ext,.bool k.hd.mark,.int .i64 k.hd.typ,.int .u16 k.hd.seq,.int .u32 k.hd.time,.int .u32 k.hd.ssrc,.slice ca k.hd.csrc.length cc,.int .u16 (k.prof:Int),.slice ea k.ext.length ec,.slice ya k.pay.length yc,.int .i64 (k.pad:Int)] p b k:=⟨((hkw.below hbX).below hbe).below hB,(hB.block _ (by omega)).trans ((hbe.block _ (by simp)).trans hPl0),hK,rd_keep (rd_keep (rd_keep hp0 hbX) hbe) hB,rd_keep hkv hB,rd_keep (rd_keep (rd_keep hb hbX) hbe) hB,hbX.trans ((hbe.mono (by simp)).trans (hB.mono (by omega)))⟩;clear hB hK hkv hbe;obtain ⟨q0,q1,q2,q3,q4,q5,q6,q7,q8,q9,q10,q11,q12,q13,q14⟩:=cells15 S2.pl;obtain ⟨k0,k1,k2,k3,k4,k5,k6,k7,k8,k9,k10,k11⟩:=cells12 S2.pk)
  |(go_at_call 148;refine (c_keeps _ S2.kw _ p S2.rp).mono ?_;rintro e w3 ⟨rfl,hb3⟩;have S3:=S2.below hb3;clear q0 q1 q2 q3 q4 q5 q6 q7 q8 q9 q10 q11 q12 q13 q14 k0 k1 k2 k3 k4 k5 k6 k7 k8 k9 k10 k11;obtain ⟨q0,q1,q2,q3,q4,q5,q6,q7,q8,q9,q10,q11,q12,q13,q14⟩:=cells15 S3.pl;obtain ⟨k0,k1,k2,k3,k4,k5,k6,k7,k8,k9,k10,k11⟩:=cells12 S3.pk)
  |(go_at_call 149;refine (c_fits _ S3.kw _ _ p k S3.rp S3.rk few num ko hkb.1 hkb.2.1 hkb.2.2).mono ?_;rintro e w4 ⟨rfl,hb4⟩;have S4:=S3.below hb4;clear q0 q1 q2 q3 q4 q5 q6 q7 q8 q9 q10 q11 q12 q13 q14 k0 k1 k2 k3 k4 k5 k6 k7 k8 k9 k10 k11;obtain ⟨q0,q1,q2,q3,q4,q5,q6,q7,q8,q9,q10,q11,q12,q13,q14⟩:=cells15 S4.pl;obtain ⟨k0,k1,k2,k3,k4,k5,k6,k7,k8,k9,k10,k11⟩:=cells12 S4.pk)
  |(go_at_call 150;refine (c_of _ S4.kw _ b k hkk S4.rb hbl he).mono ?_;rintro e w5 ⟨lv,rfl,hlv,hb5⟩;have S5:=S4.below hb5;clear q0 q1 q2 q3 q4 q5 q6 q7 q8 q9 q10 q11 q12 q13 q14 k0 k1 k2 k3 k4 k5 k6 k7 k8 k9 k10 k11;obtain ⟨q0,q1,q2,q3,q4,q5,q6,q7,q8,q9,q10,q11,q12,q13,q14⟩:=cells15 S5.pl;obtain ⟨k0,k1,k2,k3,k4,k5,k6,k7,k8,k9,k10,k11⟩:=cells12 S5.pk;obtain ⟨la,lc,rfl⟩:=rd_pcs hlv)
  |(go_at_call 151;refine (st_fields w5 S5.kw _ _ _ p k S5.rp hlv num (by omega) (fun _ h=>h) k.prof).mono ?_;rintro e w6 ⟨v1,xs1,rfl,o6,k6',hb6⟩;have S6:=S5.below hb6;clear q0 q1 q2 q3 q4 q5 q6 q7 q8 q9 q10 q11 q12 q13 q14 k0 k1 k2 k3 k4 k5 k6 k7 k8 k9 k10 k11;obtain ⟨q0,q1,q2,q3,q4,q5,q6,q7,q8,q9,q10,q11,q12,q13,q14⟩:=cells15 S6.pl;obtain ⟨k0,k1,k2,k3,k4,k5,k6,k7,k8,k9,k10,k11⟩:=cells12 S6.pk;have hl6:=rd_keep hlv hb6)
  |(go_at_call 152;refine (c_find _ S6.kw _ _ hl6 hpl 9 _ hs).mono ?_;rintro e w7 ⟨x,rfl,hx,hb7⟩;have hb7':=hb7.alloc hb7.size (.cells #[.int .i64 x.f,.int .i64 (x.p:Int),.int .i64 (x.s:Int)] 56);have hx7:=World.alloc_heap_new w7 (.cells #[.int .i64 x.f,.int .i64 (x.p:Int),.int .i64 (x.s:Int)] 56);have S8:=S6.below hb7';clear q0 q1 q2 q3 q4 q5 q6 q7 q8 q9 q10 q11 q12 q13 q14 k0 k1 k2 k3 k4 k5 k6 k7 k8 k9 k10 k11;obtain ⟨q0,q1,q2,q3,q4,q5,q6,q7,q8,q9,q10,q11,q12,q13,q14⟩:=cells15 S8.pl;obtain ⟨k0,k1,k2,k3,k4,k5,k6,k7,k8,k9,k10,k11⟩:=cells12 S8.pk)
  |(go_at_call 51;refine (c_elems _ S8.kw _ p S8.rp).mono ?_;rintro e w9 ⟨rfl,hb9⟩;have S9:=S8.below hb9;clear q0 q1 q2 q3 q4 q5 q6 q7 q8 q9 q10 q11 q12 q13 q14 k0 k1 k2 k3 k4 k5 k6 k7 k8 k9 k10 k11;obtain ⟨q0,q1,q2,q3,q4,q5,q6,q7,q8,q9,q10,q11,q12,q13,q14⟩:=cells15 S9.pl;obtain ⟨k0,k1,k2,k3,k4,k5,k6,k7,k8,k9,k10,k11⟩:=cells12 S9.pk;have hx9:=(hb9.block _ (by simp)).trans hx7;have hx9c:w9.cell? ⟨w7.heap.size,1,none⟩=some (.int .i64 (x.p:Int)):=by simp[World.cell?,hx9])
  |fail)
 refine bodyPost_ret (results_tmp2 rfl _ _ _) rfl ?_;exact ⟨_,rfl,S8.bel,xs1,by rw[strokes_none (.inl (isSome_of hs))];exact own_le (o6.kept (below_grownBy hb7') (own_none v1)) S5.bel.size,by rw[strokes_none (.inl (isSome_of hs))];exact k6'.mono hb7'.size (fun b hm hlt=>⟨hb7'.block b hlt,hm.2⟩)⟩
set_option maxHeartbeats 1600000 in
theorem st_sk4 (W0:World) (hkw:KW Tryz.prog W0) (pv bv:Value) (p:Pl) (b:List UInt8) (k:Pk) (hkk:Hid (pkRaw b=k)) (hp:RdV W0 (fun b=>b<W0.heap.size) PlSh pv (PlC p)) (hb:RdV W0 (fun b=>b<W0.heap.size) Byt bv (B b)) (hbl:b.length≤1000000) (few:plFew p) (num:plNum p) (he:pkE b=0) (ko:k.ok) (hkb:k.ext.length≤1000000∧k.pay.length≤1000000∧k.pad≤1000000) (hcs:k.hd.csrc.length≤15) (hk:plKeeps p) (hf:apE p k=0) (hs:Hid ((0:Int)=if (findP (placesOf k) 9).isSome then 0 else 8)) (ha:¬plAny p):
  Calls Tryz.prog 119 #[pv,bv] W0 fun e W'=>∃v,e= .returned (.tuple #[v,.int .i64 0])∧Below W0.heap.size W0 W'∧∃xs,W'.ownsRow W0.heap.size 231 4 v (strokes p k).length xs∧SkAt W' (fun b=>v.ownBlock≠some b) p k.prof (strokes p k) xs:=by
 have hp0:=hp
 obtain ⟨mv,ov,dv,av,rfl,_⟩:=rd_pl hp
 have hbX:=Below.alloc (Below.refl W0.heap.size W0) (Nat.le_refl _) (.cells #[.bool p.sm,.bool p.m,.bool p.st,.int .i64 p.ty,.bool p.sq,.int .u16 p.seq,.bool p.stm,.int .u32 p.time,.bool p.ss,.int .u32 p.ssrc,mv,ov,dv,av,.bool p.np] 29)
 have hPl0:=World.alloc_heap_new W0 (.cells #[.bool p.sm,.bool p.m,.bool p.st,.int .i64 p.ty,.bool p.sq,.int .u16 p.seq,.bool p.stm,.int .u32 p.time,.bool p.ss,.int .u32 p.ssrc,mv,ov,dv,av,.bool p.np] 29)
 have hrd:=c_pread _ (hkw.below hbX) bv b (rd_keep hb hbX) hbl
 rw[show pkOf b=k from by unfold pkOf;rw[if_pos he];exact hkk,he] at hrd
 have hpl:(placesOf k).length≤100000:=by have:=placesOf_len k;omega
 go_enter Tryz.func119,Tryz.ntmps119
 go_wp2_with (first
  |(go_at_call 13;refine hrd.mono ?_;rintro e w1 ⟨kv,rfl,hkv,hbe⟩;obtain ⟨ca,cc,ea,ec,ya,yc,rfl⟩:=rd_pk2 hkv;have z1:=hbe.size;simp only[World.size_alloc] at z1;have hB:=Below.alloc (Below.refl w1.heap.size w1) (Nat.le_refl _) (.cells #[.bool k.hd.pad,.bool k.hd.ext,.bool k.hd.mark,.int .i64 k.hd.typ,.int .u16 k.hd.seq,.int .u32 k.hd.time,.int .u32 k.hd.ssrc,.slice ca k.hd.csrc.length cc,.int .u16 (k.prof:Int),.slice ea k.ext.length ec,.slice ya k.pay.length yc,.int .i64 (k.pad:Int)] 43);have hK:=World.alloc_heap_new w1 (.cells #[.bool k.hd.pad,.bool k.hd.ext,.bool k.hd.mark,.int .i64 k.hd.typ,.int .u16 k.hd.seq,.int .u32 k.hd.time,.int .u32 k.hd.ssrc,.slice ca k.hd.csrc.length cc,.int .u16 (k.prof:Int),.slice ea k.ext.length ec,.slice ya k.pay.length yc,.int .i64 (k.pad:Int)] 43);have S2:SkW W0 (w1.alloc (.cells #[.bool k.hd.pad,.bool k.hd.ext,.bool k.hd.mark,.int .i64 k.hd.typ,.int .u16 k.hd.seq,.int .u32 k.hd.time,.int .u32 k.hd.ssrc,.slice ca k.hd.csrc.length cc,.int .u16 (k.prof:Int),.slice ea k.ext.length ec,.slice ya k.pay.length yc,.int .i64 (k.pad:Int)] 43)) W0.heap.size w1.heap.size (.agg #[.bool p.sm,.bool p.m,.bool p.st,.int .i64 p.ty,.bool p.sq,.int .u16 p.seq,.bool p.stm,.int .u32 p.time,.bool p.ss,.int .u32 p.ssrc,mv,ov,dv,av,.bool p.np]) (.agg #[.bool k.hd.pad,.bool k.hd.ext,.bool k.hd.mark,.int .i64 k.hd.typ,.int .u16 k.hd.seq,.int .u32 k.hd.time,.int .u32 k.hd.ssrc,.slice ca k.hd.csrc.length cc,.int .u16 (k.prof:Int),.slice ea k.ext.length ec,.slice ya k.pay.length yc,.int .i64 (k.pad:Int)]) bv #[.bool p.sm,.bool p.m,.bool p.st,.int .i64 p.ty,.bool p.sq,.int .u16 p.seq,.bool p.stm,.int .u32 p.time,.bool p.ss,.int .u32 p.ssrc,mv,ov,dv,av,.bool p.np] #[.bool k.hd.pad,.bool k.hd.ext,.bool k.hd.mark,.int .i64 k.hd.typ,.int .u16 k.hd.seq,.int .u32 k.hd.time,.int .u32 k.hd.ssrc,.slice ca k.hd.csrc.length cc,.int .u16 (k.prof:Int),.slice ea k.ext.length ec,.slice ya k.pay.length yc,.int .i64 (k.pad:Int)] p b k:=⟨((hkw.below hbX).below hbe).below hB,(hB.block _ (by omega)).trans ((hbe.block _ (by simp)).trans hPl0),hK,rd_keep (rd_keep (rd_keep hp0 hbX) hbe) hB,rd_keep hkv hB,rd_keep (rd_keep (rd_keep hb hbX) hbe) hB,hbX.trans ((hbe.mono (by simp)).trans (hB.mono (by omega)))⟩;clear hB hK hkv hbe;obtain ⟨q0,q1,q2,q3,q4,q5,q6,q7,q8,q9,q10,q11,q12,q13,q14⟩:=cells15 S2.pl;obtain ⟨k0,k1,k2,k3,k4,k5,k6,k7,k8,k9,k10,k11⟩:=cells12 S2.pk)
  |(go_at_call 148;refine (c_keeps _ S2.kw _ p S2.rp).mono ?_;rintro e w3 ⟨rfl,hb3⟩;have S3:=S2.below hb3;clear q0 q1 q2 q3 q4 q5 q6 q7 q8 q9 q10 q11 q12 q13 q14 k0 k1 k2 k3 k4 k5 k6 k7 k8 k9 k10 k11;obtain ⟨q0,q1,q2,q3,q4,q5,q6,q7,q8,q9,q10,q11,q12,q13,q14⟩:=cells15 S3.pl;obtain ⟨k0,k1,k2,k3,k4,k5,k6,k7,k8,k9,k10,k11⟩:=cells12 S3.pk)
  |(go_at_call 149;refine (c_fits _ S3.kw _ _ p k S3.rp S3.rk few num ko hkb.1 hkb.2.1 hkb.2.2).mono ?_;rintro e w4 ⟨rfl,hb4⟩;have S4:=S3.below hb4;clear q0 q1 q2 q3 q4 q5 q6 q7 q8 q9 q10 q11 q12 q13 q14 k0 k1 k2 k3 k4 k5 k6 k7 k8 k9 k10 k11;obtain ⟨q0,q1,q2,q3,q4,q5,q6,q7,q8,q9,q10,q11,q12,q13,q14⟩:=cells15 S4.pl;obtain ⟨k0,k1,k2,k3,k4,k5,k6,k7,k8,k9,k10,k11⟩:=cells12 S4.pk)
  |(go_at_call 150;refine (c_of _ S4.kw _ b k hkk S4.rb hbl he).mono ?_;rintro e w5 ⟨lv,rfl,hlv,hb5⟩;have S5:=S4.below hb5;clear q0 q1 q2 q3 q4 q5 q6 q7 q8 q9 q10 q11 q12 q13 q14 k0 k1 k2 k3 k4 k5 k6 k7 k8 k9 k10 k11;obtain ⟨q0,q1,q2,q3,q4,q5,q6,q7,q8,q9,q10,q11,q12,q13,q14⟩:=cells15 S5.pl;obtain ⟨k0,k1,k2,k3,k4,k5,k6,k7,k8,k9,k10,k11⟩:=cells12 S5.pk;obtain ⟨la,lc,rfl⟩:=rd_pcs hlv)
  |(go_at_call 151;refine (st_fields w5 S5.kw _ _ _ p k S5.rp hlv num (by omega) (fun _ h=>h) k.prof).mono ?_;rintro e w6 ⟨v1,xs1,rfl,o6,k6',hb6⟩;have S6:=S5.below hb6;clear q0 q1 q2 q3 q4 q5 q6 q7 q8 q9 q10 q11 q12 q13 q14 k0 k1 k2 k3 k4 k5 k6 k7 k8 k9 k10 k11;obtain ⟨q0,q1,q2,q3,q4,q5,q6,q7,q8,q9,q10,q11,q12,q13,q14⟩:=cells15 S6.pl;obtain ⟨k0,k1,k2,k3,k4,k5,k6,k7,k8,k9,k10,k11⟩:=cells12 S6.pk;have hl6:=rd_keep hlv hb6)
  |(go_at_call 152;refine (c_find _ S6.kw _ _ hl6 hpl 9 _ hs).mono ?_;rintro e w7 ⟨x,rfl,hx,hb7⟩;have hb7':=hb7.alloc hb7.size (.cells #[.int .i64 x.f,.int .i64 (x.p:Int),.int .i64 (x.s:Int)] 56);have hx7:=World.alloc_heap_new w7 (.cells #[.int .i64 x.f,.int .i64 (x.p:Int),.int .i64 (x.s:Int)] 56);have S8:=S6.below hb7';clear q0 q1 q2 q3 q4 q5 q6 q7 q8 q9 q10 q11 q12 q13 q14 k0 k1 k2 k3 k4 k5 k6 k7 k8 k9 k10 k11;obtain ⟨q0,q1,q2,q3,q4,q5,q6,q7,q8,q9,q10,q11,q12,q13,q14⟩:=cells15 S8.pl;obtain ⟨k0,k1,k2,k3,k4,k5,k6,k7,k8,k9,k10,k11⟩:=cells12 S8.pk)
  |(go_at_call 51;refine (c_elems _ S8.kw _ p S8.rp).mono ?_;rintro e w9 ⟨rfl,hb9⟩;have S9:=S8.below hb9;clear q0 q1 q2 q3 q4 q5 q6 q7 q8 q9 q10 q11 q12 q13 q14 k0 k1 k2 k3 k4 k5 k6 k7 k8 k9 k10 k11;obtain ⟨q0,q1,q2,q3,q4,q5,q6,q7,q8,q9,q10,q11,q12,q13,q14⟩:=cells15 S9.pl;obtain ⟨k0,k1,k2,k3,k4,k5,k6,k7,k8,k9,k10,k11⟩:=cells12 S9.pk;have hx9:=(hb9.block _ (by simp)).trans hx7;have hx9c:w9.cell? ⟨w7.heap.size,1,none⟩=some (.int .i64 (x.p:Int)):=by simp[World.cell?,hx9])
  |fail)
 refine bodyPost_ret (results_tmp2 rfl _ _ _) rfl ?_;have h69:=hb7'.trans (hb9.mono hb7'.size);exact ⟨_,rfl,S9.bel,xs1,by rw[strokes_none (.inr ha)];exact own_le (o6.kept (below_grownBy h69) (own_none v1)) S5.bel.size,by rw[strokes_none (.inr ha)];exact k6'.mono h69.size (fun b hm hlt=>⟨h69.block b hlt,hm.2⟩)⟩
end Go.Vc
