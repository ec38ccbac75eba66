/-
  Contracts of functions of the program, each out of its condition or by a walk, and plain lemmas.
-/
import Derived.Test.YtaehhpempnelhaaGreatDoorQWg
import Derived.Test.YtaehhpempnelhaaGreatDoorQBase4
import Derived.Test.YtaehhpempnelhaaGreatDoorQBase3
import Derived.Test.YtaehhpempnelhaaGreatDoorQVcs1
import Derived.Test.YtaehhpempnelhaaGreatDoorQTx4

set_option maxRecDepth 100000
namespace Go.Vc
open Go Go.Proofs Go.Plain Go.RowKit Go.Shelf
def stO (p:Pl) (b:List UInt8):List UInt8:=if skE p b=0 then stayL p (pkRaw b) b else []
theorem st_stay_no (W0:World) (hkw:KW Tryz.prog W0) (pv bv:Value) (p:Pl) (b:List UInt8) (hp:RdV W0 (fun b=>b<W0.heap.size) PlSh pv (PlC p)) (hb:RdV W0 (fun b=>b<W0.heap.size) Byt bv (B b)) (hbl:b.length≤1000000) (few:plFew p) (num:plNum p) (E:Int) (hE:Hid (skE p b=E)) (h0:E≠0):
  Calls Tryz.prog 75 #[pv,bv] W0 fun e W'=>e= .returned (.tuple #[.slice none 0 0,.int .i64 E])∧Below W0.heap.size W0 W':=by
 have hp0:=hp
 obtain ⟨mv,ov,dv,av,rfl,_⟩:=rd_pl hp
 obtain ⟨ba,bc,rfl,_⟩:=byt_at hb
 have hbX:=Below.alloc (Below.refl W0.heap.size W0) (Nat.le_refl _) (.cells #[.bool p.sm,.bool p.m,.bool p.st,.int .i64 p.ty,.bool p.sq,.int .u16 p.seq,.bool p.stm,.int .u32 p.time,.bool p.ss,.int .u32 p.ssrc,mv,ov,dv,av,.bool p.np] 29)
 have hst:=st_strokes _ (hkw.below hbX) _ _ p b (rd_keep hp0 hbX) (rd_keep hb hbX) hbl few num
 rw[show skE p b=E from hE] at hst
 clear hp hp0 hb hkw
 go_enter Tryz.func75,Tryz.ntmps75
 go_wp2_with (first
  |(go_at_call 119;refine hst.mono ?_;rintro e W1 ⟨v,rfl,hb1,h1⟩;clear hst h1)
  |fail)
 refine bodyPost_ret (results_tmp2 rfl _ _ _) rfl ?_
 exact ⟨rfl,hbX.trans (hb1.mono (by simp))⟩
theorem rd_vb {w:World} {N:Nat→Prop} {g cap:Nat} {bs:List UInt8} {sp:List Value} {et:TypeId} (h:w.heap[g]?=some (.cells (vb bs++sp).toArray et (0,0))) (hc:bs.length+sp.length=cap) (hm:cap≤maxLen) (hN:N g):RdV w N Byt (.slice (some ⟨g,0,none⟩) bs.length cap) (B bs):=by
 have hl:(C.toList (B bs)).length=bs.length:=by simp[ofBytes]
 have hvl:(vb bs).length=bs.length:=by simp[vb]
 refine ⟨[_],rd_own (B:=fun _=>True) (et:=et) (s:= .int .u8) (xs:=vb bs) ⟨by rw[hl];simp[Sh.size,vb],.inr ⟨g,cap,(vb bs++sp).toArray,by rw[hl],trivial,h,by rw[hl];omega,hm,?_,?_⟩⟩ (row_of bs) (fun g' e=>by cases e;exact hN),rfl⟩
 ·simp only[List.size_toArray,List.length_append,hvl,Sh.size,Nat.mul_one]
  exact hc
 ·rw[hl]
  simp only[Sh.size,Nat.mul_one]
  rw[←hvl,List.take_left']
  rfl
theorem sum_le {b:List UInt8} (he:pkE b=0):12+4*(pkRaw b).hd.csrc.length+(if (pkRaw b).hd.ext then 4+(pkRaw b).ext.length else 0)≤b.length:=by
 obtain ⟨_,_,kt,kl⟩:=Pk.same b he
 have h1:=pkLay_length (pkRaw b) _ kt.1
 rw[←kl] at h1
 rw[h1]
 unfold Pk.sum
 omega
theorem st_stay (W0:World) (hkw:KW Tryz.prog W0) (pv bv:Value) (p:Pl) (b:List UInt8) (hp:RdV W0 (fun b=>b<W0.heap.size) PlSh pv (PlC p)) (hb:RdV W0 (fun b=>b<W0.heap.size) Byt bv (B b)) (hbl:b.length≤1000000) (few:plFew p) (num:plNum p):
  Calls Tryz.prog 75 #[pv,bv] W0 fun e W'=>∃r,e= .returned (.tuple #[r,.int .i64 (skE p b)])∧RdV W' (fun b=>W0.heap.size≤b) Byt r (B (stO p b))∧Below W0.heap.size W0 W':=by
 by_cases hE:skE p b=0
 ·obtain ⟨he,hk,hs⟩:=skE_ok hE
  obtain ⟨y,hy⟩:=Option.isSome_iff_exists.1 hs
  obtain ⟨hpr,_⟩:=behind_some hy
  obtain ⟨kr,ko,kt,kl⟩:=Pk.same b he
  have hlen:b.length=(pkRaw b).sum:=by
   have h1:=pkLay_length (pkRaw b) _ kt.1
   rwa[←kl] at h1
  have hok:=strokes_ok hk hy b.length (sum_le he)
  have h0:b≠[]:=by
   rintro rfl
   unfold Pk.sum at hlen
   simp at hlen
   omega
  have hll:(strokes p (pkRaw b)).length≤3000000000000:=by
   have hl0:=flat_len (stkS p (narB (pkRaw b)) (extAt (pkRaw b))) 2000000 (fun a=>stkS_len p _ _ a few.1 few.2.1) (spots (pkRaw b).prof (pkRaw b).ext).1
   have hl1:=spots_count (pkRaw b).prof (pkRaw b).ext
   have hl2:=stkF_len p
   have hl3:(pkRaw b).ext.length≤1000000:=by
    unfold Pk.sum at hlen
    cases hx:(pkRaw b).hd.ext with
    |true=>rw[hx,if_pos rfl] at hlen;omega
    |false=>rw[(kr.1.2.2.2.1 hx).2];simp
   have hl4:(strokes p (pkRaw b)).length≤(stkF p).length+((spots (pkRaw b).prof (pkRaw b).ext).1.flatMap (stkS p (narB (pkRaw b)) (extAt (pkRaw b)))).length:=by
    unfold strokes stkE
    rw[List.length_append]
    split
    ·exact Nat.le_refl _
    ·simp
   omega
  refine (st_stay_ok W0 hkw pv bv p b _ rfl hp hb hbl few num hE h0 _ rfl hok (strokes_pos hok) (strokes_idw hpr) ⟨hpr.1.2.2.2.2.2.1,hpr.1.2.2.2.2.2.2⟩ hll).mono ?_
  rintro e W' ⟨g,cap,rfl,hg,et,sp,hrow,hcap,hmax,hbe⟩
  refine ⟨_,by rw[hE],?_,hbe⟩
  have hl5:=(draw_keep _ b hok).1
  unfold stO
  rw[if_pos hE]
  rw[←hl5]
  exact rd_vb hrow (by rw[hl5];exact hcap) hmax hg
 ·refine (st_stay_no W0 hkw pv bv p b hp hb hbl few num _ rfl hE).mono ?_
  rintro e W' ⟨rfl,hbe⟩
  refine ⟨_,rfl,?_,hbe⟩
  unfold stO
  rw[if_neg hE]
  exact ⟨[_],⟨none,0,rfl,Nat.le_refl _,Nat.zero_le _,fun h=>absurd rfl h⟩,rfl⟩
abbrev f_stay_Stay:FuncId:=75
theorem pc_stay_Stay (p:Pl) (b:List UInt8) (hb:b.length≤1000000) (few:plFew p) (num:plNum p):PC Tryz.prog f_stay_Stay [(PlSh,PlC p),(Byt,B b)] [(Byt,B (stO p b)),(I64,.int (skE p b))]:=by
 refine PC.of0 (by decide) ⟨⟨_,Tryz.func75,by kernel_rfl,by kernel_rfl⟩,fun w N vs hkw hrd=>?_⟩
 obtain ⟨v,r,rfl,hp,v2,r2,rfl,hb2,hr⟩:=hrd
 simp only[RdVs] at hr
 subst hr
 refine (st_stay w hkw v v2 p b (any_rd hp) (any_rd hb2) hb few num).mono ?_
 rintro e w' ⟨r,rfl,hr,hbe⟩
 exact ⟨_,rfl,⟨[r,.int .i64 (skE p b)],⟨_,_,rfl,hr.mono (Nat.le_refl _) fun b h _=>⟨rfl,.inr h⟩,⟨_,_,rfl,⟨_,rfl,rfl⟩,rfl⟩⟩,rfl⟩,hbe⟩
end Go.Vc

set_option maxRecDepth 100000
namespace Go.Vc
open Go Go.Proofs Go.Plain
/-- Bytes of media. -/
def isMedia (b:List UInt8):Prop:=2≤b.length∧128≤at_ b 0∧at_ b 0≤191∧at_ b 1/32≠6
instance (b:List UInt8):Decidable (isMedia b):=by unfold isMedia;exact inferInstance
theorem pkE_hd {b:List UInt8} (h:pkE b=0):12≤b.length∧at_ b 0/64=2:=by
 have:hdE b=0:=by
  unfold pkE at h
  split at h
  ·cases h
  ·split at h
   ·rename_i h2;exact absurd h h2
   ·rename_i h2;exact Classical.not_not.1 h2
 obtain ⟨h1,h2,_⟩:=hdE_zero.1 this
 exact ⟨h1,h2⟩
theorem lay_second (k:Pk) (t:List UInt8):at_ (pkLay k t) 1=k.hd.second%256:=by
 simp[at_,pkLay,Hd.bytes]
theorem media_keep {k x:Pk} {t:List UInt8} (h:x.hd.second=k.hd.second) (he:pkE (pkLay x t)=0) (hm:isMedia (pkLay k t)):isMedia (pkLay x t):=by
 obtain ⟨h1,h2⟩:=pkE_hd he
 obtain ⟨_,_,_,h3⟩:=hm
 rw[lay_second] at h3
 refine ⟨by omega,by omega,by omega,?_⟩
 rw[lay_second,h]
 exact h3
theorem out_second {p:Pl} {k:Pk} {l:List El} (h1:p.sm=false) (h2:p.st=false):(plOut p k l).hd.second=k.hd.second:=by
 have h:(hdNew p k.hd).second=k.hd.second:=by unfold Hd.second hdNew;rw[h1,h2];rfl
 unfold plOut
 split
 ·split
  ·exact h
  ·exact h
 ·exact h
theorem ske_zero {p:Pl} {b:List UInt8} {x:Pk} (he:pkE b=0) (hk:plKeeps p) (hr:(pkRaw b).right) (hx:behind p (pkRaw b)=some x):skE p b=0:=by
 unfold skE
 rw[if_neg (fun h=>h he),if_pos]
 refine ⟨hk,?_⟩
 unfold apE
 rw[if_neg (fun h=>h hr),hx]
 rfl
/-- What is carried out, by its packet. -/
theorem st_out {p:Pl} {b t:List UInt8} {k x:Pk} (hn:plNum p) (hk:plKeeps p) (hkr:k.right) (hko:k.ok) (ht:trOk k.pad t) (hb:b=pkLay k t) (hx:behind p k=some x):
  pkE b=0∧pkRaw b=k∧skE p b=0∧stO p b=pkLay x t∧trOk x.pad t:=by
 obtain ⟨b1,b2,b3⟩:=Pk.back k hkr hko t ht
 rw[←hb] at b1 b2 b3
 have hs:=ske_zero b1 hk (by rw[b2];exact hkr) (by rw[b2];exact hx)
 obtain ⟨e1,e2⟩:=stay_eq (behind_some hx).1 hn hk hkr hx t
 refine ⟨b1,b2,hs,?_,by rw[e2];exact ht⟩
 unfold stO
 rw[if_pos hs,b2,hb]
 exact e1
theorem num_one {p:Pl} (h:plNum p):plNum (pOne p):=by
 obtain ⟨h1,h2,h3,h4,h5,h6⟩:=h
 exact ⟨h1,h2,h3,h4,by simp[pOne,Pl.zero],by simp[pOne,Pl.zero]⟩
theorem num_two {p:Pl} {els:List El} (h:plNum p):plNum (pTwo p els):=by
 obtain ⟨h1,h2,h3,h4,h5,h6⟩:=h
 exact ⟨by simp[pTwo,Pl.zero],by simp[pTwo,Pl.zero],by simp[pTwo,Pl.zero],by simp[pTwo,Pl.zero],h5,h6⟩
theorem num_both {p:Pl} {els:List El} (h:plNum p):plNum (pBoth p els):=h
theorem top_order {p:Pl} {els:List El} {b:List UInt8} (hn:plNum p) (h1:skE (pOne p) b=0) (h2:skE (pTwo p els) b=0) (hm:isMedia b):
  skE (pTwo p els) (stO (pOne p) b)=0∧skE (pOne p) (stO (pTwo p els) b)=0∧skE (pBoth p els) b=0∧stO (pTwo p els) (stO (pOne p) b)=stO (pBoth p els) b∧stO (pOne p) (stO (pTwo p els) b)=stO (pBoth p els) b∧isMedia (stO (pOne p) b)∧isMedia (stO (pTwo p els) b)∧(stO (pOne p) b).length=b.length∧(stO (pTwo p els) b).length=b.length:=by
 obtain ⟨he,_,s1⟩:=skE_ok h1
 obtain ⟨_,_,s2⟩:=skE_ok h2
 obtain ⟨x,hx⟩:=Option.isSome_iff_exists.1 s1
 obtain ⟨y,hy⟩:=Option.isSome_iff_exists.1 s2
 obtain ⟨z,z1,z2,z3,k1,k2,k3⟩:=order hx hy
 obtain ⟨r1,r2,r3,r4⟩:=Pk.same b he
 obtain ⟨x1,x2⟩:=behind_ok (num_one hn) r2 hx
 obtain ⟨y1,y2⟩:=behind_ok (num_two hn) r2 hy
 obtain ⟨_,_,_,a1,a2⟩:=st_out (num_one hn) k1 r1 r2 r3 r4 hx
 obtain ⟨_,_,_,b1,b2⟩:=st_out (num_two hn) k2 r1 r2 r3 r4 hy
 obtain ⟨_,_,c0,c1,c2⟩:=st_out (num_both hn) k3 r1 r2 r3 r4 z3
 obtain ⟨dE,_,d0,d1,_⟩:=st_out (num_two hn) k2 x1 x2 a2 a1 z1
 obtain ⟨eE,_,e0,e1,_⟩:=st_out (num_one hn) k1 y1 y2 b2 b1 z2
 refine ⟨d0,e0,c0,by rw[d1,c1],by rw[e1,c1],?_,?_,?_,?_⟩
 ·rw[a1] at dE ⊢
  refine media_keep ?_ dE (by rw[←r4];exact hm)
  obtain ⟨_,l,_,rfl,_⟩:=behind_some hx
  exact out_second rfl rfl
 ·rw[b1] at eE ⊢
  refine media_keep ?_ eE (by rw[←r4];exact hm)
  obtain ⟨_,l,_,rfl,_⟩:=behind_some hy
  exact out_second rfl rfl
 ·unfold stO
  rw[if_pos h1]
  exact (draw_keep _ b (strokes_ok k1 hx b.length (sum_le he))).1
 ·unfold stO
  rw[if_pos h2]
  exact (draw_keep _ b (strokes_ok k2 hy b.length (sum_le he))).1
end Go.Vc

set_option maxRecDepth 100000
namespace Go.Vc
open Go Go.Proofs Go.Plain Go.RowKit Go.Shelf
abbrev IfM:Sh:= .ifc 224 .unit
abbrev f_sniff_whose:FuncId:=74
theorem as_mm (W:World) (v:Value):(Instr.typeAssert (.iface 224 v) 163 224 true).run Tryz.prog W= .ok (.tuple #[v,.bool true]) W:=by kernel_rfl
theorem as_mc (W:World) (v:Value):(Instr.typeAssert (.iface 224 v) 163 223 true).run Tryz.prog W= .ok (.tuple #[.agg #[],.bool false]) W:=by kernel_rfl
theorem whose_walk (W0:World):
  Calls Tryz.prog 74 #[.iface 224 (.agg #[])] W0 fun e W'=>e= .returned (.int .i64 1)∧Below W0.heap.size W0 W':=by
 have a1:=as_mm
 have a2:=as_mc
 go_enter Tryz.func74,Tryz.ntmps74
 go_wp2
 refine bodyPost_ret (results_tmp rfl _ _ _) rfl ?_
 exact ⟨rfl,Below.alloc (Below.refl _ _) (Nat.le_refl _) _⟩
theorem pc_sniff_whose:PC Tryz.prog f_sniff_whose [(IfM,.ls [])] [(I64,.int 1)]:=by
 refine PC.of0 (by decide) ⟨⟨_,Tryz.func74,by kernel_rfl,by kernel_rfl⟩,fun w N vs hkw hrd=>?_⟩
 obtain ⟨v,r,rfl,⟨us,⟨us2,rfl,h0⟩,rfl⟩,hr⟩:=hrd
 simp only[Rd] at h0
 simp only[RdVs] at hr
 subst hr h0
 refine (whose_walk w).mono ?_
 rintro e w' ⟨rfl,hbe⟩
 exact ⟨_,rfl,⟨[.int .i64 1],⟨_,_,rfl,⟨_,rfl,rfl⟩,rfl⟩,rfl⟩,hbe⟩
theorem shr6:∀x:Nat,x<256→arith .shr .u8 x 6=((x/64:Nat):Int):=by decide+kernel
theorem quo32:∀x:Nat,x<256→arith .quo .u8 x 32=((x/32:Nat):Int):=by decide+kernel
theorem pc_sniff_judgeOf (b:List UInt8) (hm:isMedia b):PC Tryz.prog f_sniff_judgeOf [(Byt,B b)] [(IfM,.ls [])]:=by
 obtain ⟨h1,h2,h3,h4⟩:=hm
 apply pcv_sniff_judgeOf rfl
 have i0:Int.toNat 0=0:=rfl
 have i1:Int.toNat 1=1:=rfl
 have e6:=shr6 (at_ b 0) (at_lt b 0)
 simp only[vc_sniff_judgeOf,sVC,sEV,sENV,sVAL,sBO,forall_const,ofBytes_length,ofBytes_getD,i0,i1,atD,e6]
 refine ⟨fun _=>by omega,fun hc=>?_,fun _=>⟨by omega,fun _=>by omega,fun hc=>?_,fun _=>trivial⟩⟩
 ·exfalso
  omega
 ·exfalso
  omega
def whatL (b:List UInt8):Int:=if 2≤b.length∧128≤at_ b 0∧at_ b 0≤191 then (if at_ b 1/32=6 then 2 else 1) else 3
theorem whatL_media (b:List UInt8):whatL b=1↔isMedia b:=by
 unfold whatL isMedia
 by_cases h:2≤b.length∧128≤at_ b 0∧at_ b 0≤191
 ·rw[if_pos h]
  split<;>simp[*]
 ·rw[if_neg h]
  simp
  omega
theorem pc_ref28_What (b:List UInt8):PC Tryz.prog f_crossbarref28_What [(Byt,B b)] [(I64,.int (whatL b))]:=by
 apply pcv_crossbarref28_What rfl
 have i0:Int.toNat 0=0:=rfl
 have i1:Int.toNat 1=1:=rfl
 have e6:=quo32 (at_ b 1) (at_lt b 1)
 simp only[vc_crossbarref28_What,sVC,sEV,sENV,sVAL,sBO,forall_const,ofBytes_length,ofBytes_getD,i0,i1,atD,e6]
 unfold whatL
 refine ⟨fun _=>by omega,fun _=>by omega,fun hc=>?_,fun hc=>⟨by omega,fun hd=>?_,fun hd=>?_⟩⟩
 ·rw[if_neg (by omega)]
 ·rw[if_pos (by omega),if_pos (by omega)]
 ·rw[if_pos (by omega),if_neg (by omega)]
theorem pc_media_read (b:List UInt8) (hb:b.length≤1000000):PC Tryz.prog f__sniff_media__read [(.unit,.ls []),(Byt,B b)] [(I64,.int (pkE b))]:=by
 apply pcv__sniff_media__read rfl
 simp only[vc__sniff_media__read,sVC,sEV,sENV,sVAL,sBO,forall_const]
 exact ⟨_,_,pc_packet_Read b hb,rfl⟩
theorem pc_sniff_Check_m (b:List UInt8) (hm:isMedia b) (hb:b.length≤1000000):PC Tryz.prog f_sniff_Checkm [(Byt,B b)] [(I64,.int (if pkE b=0 then 1 else 3)),(I64,.int (pkE b))]:=by
 apply pcv_sniff_Checkm rfl
 simp only[vc_sniff_Checkm,sVC,sEV,sENV,sVAL,sBO,forall_const,ofBytes_length]
 have h2:=hm.1
 refine ⟨fun hc=>?_,fun hc=>⟨fun hc=>by omega,fun _=>⟨_,pc_sniff_judgeOf b hm,_,pc_media_read b hb,fun he=>?_,fun he=>⟨_,pc_sniff_whose,?_⟩⟩⟩⟩
 ·have:pkE b=4:=by unfold pkE;rw[if_pos (by omega)]
  rw[this]
  rfl
 ·have he:pkE b≠0:=he
  rw[if_neg he]
 ·have he:pkE b=0:=he
  rw[if_pos he,he]
def agE (p:Pl) (b:List UInt8) (room:Int):Int:=if pkE b≠0 then pkE b else if apE p (pkRaw b)≠0 then apE p (pkRaw b) else pkwE (apO p (pkRaw b)) room
def agB (p:Pl) (b:List UInt8) (room:Int):List UInt8:=if agE p b room=0 then (apO p (pkRaw b)).bytes else []
theorem pk_lens {k:Pk} (h:k.right):k.ext.length≤1000000∧k.pay.length≤1000000∧k.pad≤1000000:=by
 obtain ⟨h1,h2⟩:=h
 unfold Pk.sum at h2
 obtain ⟨_,_,h3,h4,h5⟩:=h1
 refine ⟨by omega,by omega,by omega⟩
theorem ap_ok {p:Pl} {k:Pk} (hn:plNum p) (ho:k.ok) (h:apE p k=0):(apO p k).right∧(apO p k).ok∧behind p k=some (apO p k)∧k.right:=by
 unfold apE at h
 split at h
 ·cases h
 ·rename_i hr
  have hr:=Classical.not_not.1 hr
  split at h
  ·rename_i hs
   obtain ⟨x,hx⟩:=Option.isSome_iff_exists.1 hs
   obtain ⟨_,e⟩:=ap_good hr hx
   rw[e]
   exact ⟨(behind_ok hn ho hx).1,(behind_ok hn ho hx).2,hx,hr⟩
  ·cases h
theorem pc_stay_Again (p:Pl) (b:List UInt8) (room:Int) (hb:b.length≤1000000) (few:plFew p) (num:plNum p):PC Tryz.prog f_stay_Again [(PlSh,PlC p),(Byt,B b),(I64,.int room)] [(Byt,B (agB p b room)),(I64,.int (agE p b room))]:=by
 apply pcv_stay_Again rfl
 simp only[vc_stay_Again,sVC,sEV,sENV,sVAL,sBO,forall_const]
 refine ⟨_,_,pc_packet_Read b hb,fun he=>?_,fun he=>?_⟩
 ·have he:pkE b≠0:=he
  have e:agE p b room=pkE b:=by unfold agE;rw[if_pos he]
  unfold agB
  rw[e,if_neg he]
  rfl
 ·have he:pkE b=0:=he
  obtain ⟨kr,ko,_,_⟩:=Pk.same b he
  have e0:pkOf b=pkRaw b:=by unfold pkOf;rw[if_pos he]
  obtain ⟨l1,l2,l3⟩:=pk_lens kr
  rw[e0]
  refine ⟨_,_,pc_plan_Apply p (pkRaw b) few num ko l1 l2 l3,fun ha=>?_,fun ha=>?_⟩
  ·have ha:apE p (pkRaw b)≠0:=ha
   have e:agE p b room=apE p (pkRaw b):=by unfold agE;rw[if_neg (fun h=>h he),if_pos ha]
   unfold agB
   rw[e,if_neg ha]
   rfl
  ·have ha:apE p (pkRaw b)=0:=ha
   obtain ⟨xr,xo,_,_⟩:=ap_ok num ko ha
   obtain ⟨m1,m2,m3⟩:=pk_lens xr
   refine ⟨_,_,pc_packet_Write _ room xo m1 m2 m3,?_⟩
   have e:agE p b room=pkwE (apO p (pkRaw b)) room:=by unfold agE;rw[if_neg (fun h=>h he),if_neg (fun h=>h ha)]
   unfold agB pkwB
   rw[e]
abbrev ActSh:Sh:= .pair Byt (.pair PlSh (.pair .bool (.pair I64 .unit)))
abbrev ActC (b:List UInt8) (p:Pl) (st:Bool) (room:Int):C:= .ls [B b,PlC p,.bool st,.int room]
def meE (p:Pl) (b:List UInt8) (st:Bool) (room:Int):Int:=if st then skE p b else agE p b room
def meB (p:Pl) (b:List UInt8) (st:Bool) (room:Int):List UInt8:=if st then stO p b else agB p b room
theorem meB_bad {p:Pl} {b:List UInt8} {st:Bool} {room:Int} (h:meE p b st room≠0):meB p b st room=[]:=by
 unfold meE meB at*
 cases st with
 |true=>exact if_neg h
 |false=>exact if_neg h
theorem pc_pipe_media (p:Pl) (b:List UInt8) (st:Bool) (room:Int) (hb:b.length≤1000000) (few:plFew p) (num:plNum p):PC Tryz.prog f_pipe_media [(ActSh,ActC b p st room)] [(Byt,B (meB p b st room)),(I64,.int (meE p b st room))]:=by
 apply pcv_pipe_media rfl
 simp only[vc_pipe_media,sVC,sEV,sENV,sVAL,sBO,forall_const]
 refine ⟨fun h=>?_,fun h=>?_⟩
 ·obtain rfl:st=true:=h
  exact ⟨_,_,pc_stay_Stay p b hb few num,rfl⟩
 ·obtain rfl:st=false:=h
  exact ⟨_,_,pc_stay_Again p b room hb few num,rfl⟩
abbrev MkSh:Sh:= .pair I64 (.pair I64 (.pair Byt (.pair I64 .unit)))
abbrev MkC (w e:Int) (o:List UInt8):C:= .ls [.int w,.int e,B o,.int o.length]
def prC (p:Pl) (b:List UInt8) (st:Bool) (room:Int):C:=if pkE b=0 then MkC 1 (meE p b st room) (meB p b st room) else MkC 3 (pkE b) []
theorem pc_pipe_Process_m (p:Pl) (b:List UInt8) (st:Bool) (room:Int) (hm:isMedia b) (hb:b.length≤1000000) (few:plFew p) (num:plNum p):PC Tryz.prog f_pipe_Process [(ActSh,ActC b p st room)] [(MkSh,prC p b st room)]:=by
 apply pcv_pipe_Process rfl
 simp only[vc_pipe_Process,sVC,sEV,sENV,sVAL,sBO,forall_const]
 refine ⟨_,_,pc_sniff_Check_m b hm hb,fun he=>?_,fun he=>⟨fun hw=>⟨_,_,pc_pipe_media p b st room hb few num,?_⟩,fun hw=>?_⟩⟩
 ·have he:pkE b≠0:=he
  unfold prC
  rw[if_neg he,if_neg he]
  rfl
 ·have he:pkE b=0:=he
  unfold prC
  rw[if_pos he,if_pos he]
  by_cases h:meE p b st room=0
  ·simp[h]
  ·simp[h,meB_bad h]
 ·exact absurd (if_pos (show pkE b=0 from he)) hw
end Go.Vc

set_option maxRecDepth 100000
namespace Go.Vc
open Go Go.Proofs Go.Plain
theorem qs_x:qs [120]=[34,120,34]:=by
 unfold qs
 rw[chunks_a _ (by decide),chunks_nil]
 decide+kernel
theorem valW:parseBy grpS [115,101,113,32,53,32,109,97,112,32,51,32,52,32,111,118,101,114,32,51,32,34,120,34]=some pW:=by
 rw[parse_g]
 refine ⟨by decide,by decide,?_⟩
 show joinSp [wSeq,numI 5,wMap,numI 3,numI 4,wOver,numI 3,qs [120]]=_
 rw[show numI 5=[53] from num_small 5 (by decide),show numI 3=[51] from num_small 3 (by decide),show numI 4=[52] from num_small 4 (by decide),qs_x]
 decide+kernel
theorem st_whole:skE pW bW=0∧stO pW bW=oW:=by
 have h:skE pW bW=0:=ske_zero rawW.1 keepW.1 (by rw[rawW.2];exact keepW.2) (by rw[rawW.2];exact behW)
 refine ⟨h,?_⟩
 unfold stO
 rw[if_pos h,rawW.2]
 exact stayW
theorem prC_ok {p:Pl} {b:List UInt8} {room:Int} (h:skE p b=0):prC p b true room=MkC 1 0 (stO p b):=by
 unfold prC meE meB
 rw[if_pos (skE_ok h).1,if_pos rfl,if_pos rfl,h]
theorem prC_bad {p:Pl} {b:List UInt8} {room:Int} (h:skE p b≠0):∃w e:Int,e≠0∧prC p b true room=MkC w e []:=by
 unfold prC meE meB
 by_cases he:pkE b=0
 ·rw[if_pos he,if_pos rfl,if_pos rfl]
  refine ⟨1,_,h,?_⟩
  unfold stO
  rw[if_neg h]
 ·rw[if_neg he]
  exact ⟨3,_,he,rfl⟩
theorem pc_whole:PC Tryz.prog f_crossbartop_whole [] [(.bool,.bool true)]:=by
 apply pcv_crossbartop_whole rfl
 have u:=pc_say_Parse [115,101,113,32,53,32,109,97,112,32,51,32,52,32,111,118,101,114,32,51,32,34,120,34] (by decide)
 rw[valW] at u
 have v:=pc_pipe_Process_m pW bW true 0 (by decide) (by decide) (by unfold plFew;decide) (by decide)
 rw[prC_ok st_whole.1,st_whole.2] at v
 have r:=pc_packet_Read oW (by decide)
 rw[show pkOf oW=xW by unfold pkOf;rw[if_pos rawX.1,rawX.2],rawX.1] at r
 have t:=pc_elem_Read 48862 (by decide) [64,120,0,0] (by decide)
 rw[elW.1,elW.2] at t
 simp only[vc_crossbartop_whole,sVC,sEV,sENV,sVAL,sBO,forall_const]
 refine ⟨_,_,u,_,v,_,_,r,_,_,t,fun _=>by decide,fun _=>by decide,?_⟩
 refine congrArg (fun x=> [(Sh.bool,C.bool x)]) ?_
 decide+kernel
end Go.Vc

set_option maxRecDepth 100000
namespace Go.Vc
open Go Go.Proofs Go.Plain
theorem elShort_few {l:List El} (h:elShort l=true):l.length≤300:=by
 unfold elShort at h
 simp at h
 omega
theorem law_TopOrder (cs:List C) (h:TyAll [Byt,PlSh,.sl ElSh] cs):PC Tryz.prog f_crossbartop_TopOrder ([Byt,PlSh,.sl ElSh].zip cs) [(.bool,.bool true)]:=by
 obtain ⟨_,_,rfl,h1,_,_,rfl,h2,_,_,rfl,h3,rfl⟩:=h
 obtain ⟨b,rfl⟩:=ty_bytes h1
 obtain ⟨p,rfl,hn,o1,o2⟩:=ty_pl h2
 obtain ⟨els,rfl,oe⟩:=ty_elsp h3
 apply pcv_crossbartop_TopOrder rfl
 simp only[vc_crossbartop_TopOrder,sVC,sEV,sENV,sVAL,sBO,forall_const,ofBytes_length]
 refine ⟨_,pc_whole,fun h=>by simp at h,fun _=>⟨_,fun _=>pc_ref29_Short p o1 o2,_,fun _=>pc_ref08_Short els oe,_,fun _=>pc_ref28_What b,fun _=>trivial,fun hc=>?_⟩⟩
 obtain ⟨hl,hp,he,hm⟩:b.length≤65536∧plShort p∧elShort els=true∧isMedia b:=by
  by_cases q1:plShort p<;>by_cases q2:elShort els=true<;>by_cases q3:isMedia b<;>simp[q1,q2,whatL_media,q3] at hc ⊢
  ·omega
  all_goals
   exfalso
   split at hc<;>simp at hc
 have hb:b.length≤1000000:=by omega
 have hf:=elShort_few he
 have f1:plFew (pOne p):=⟨by simp[pOne,Pl.zero],by simp[pOne,Pl.zero],by simp[pOne,Pl.zero],by simp[pOne,Pl.zero]⟩
 have f2:plFew (pTwo p els):=⟨by simp[pTwo,Pl.zero],by simp[pTwo,Pl.zero];omega,by simp[pTwo,Pl.zero],by simp[pTwo,Pl.zero]⟩
 have f3:plFew (pBoth p els):=⟨by simp[pBoth,Pl.zero],by simp[pBoth,Pl.zero];omega,by simp[pBoth,Pl.zero],by simp[pBoth,Pl.zero]⟩
 have x:=pc_pipe_Process_m (pOne p) b true 0 hm hb f1 (num_one hn)
 have y:=pc_pipe_Process_m (pTwo p els) b true 0 hm hb f2 (num_two hn)
 by_cases s1:skE (pOne p) b=0
 ·by_cases s2:skE (pTwo p els) b=0
  ·obtain ⟨t1,t2,t3,t4,t5,m1,m2,l1,l2⟩:=top_order hn s1 s2 hm
   rw[prC_ok s1] at x
   rw[prC_ok s2] at y
   have u:=pc_pipe_Process_m (pTwo p els) (stO (pOne p) b) true 0 m1 (by omega) f2 (num_two hn)
   have v:=pc_pipe_Process_m (pOne p) (stO (pTwo p els) b) true 0 m2 (by omega) f1 (num_one hn)
   have w:=pc_pipe_Process_m (pBoth p els) b true 0 hm hb f3 (num_both hn)
   rw[prC_ok t1,t4] at u
   rw[prC_ok t2,t5] at v
   rw[prC_ok t3] at w
   refine ⟨_,x,_,y,fun hc=>?_,fun _=>⟨_,u,_,v,_,w,?_⟩⟩
   ·exfalso
    simp at hc
   ·simp
  ·obtain ⟨w,e,e0,h⟩:=prC_bad (room:=0) s2
   rw[h] at y
   rw[prC_ok s1] at x
   refine ⟨_,x,_,y,fun _=>by simp,fun hc=>?_⟩
   exfalso
   simp[e0] at hc
 ·obtain ⟨w,e,e0,h⟩:=prC_bad (room:=0) s1
  rw[h] at x
  refine ⟨_,x,_,y,fun _=>by simp,fun hc=>?_⟩
  exfalso
  simp[e0] at hc
end Go.Vc
