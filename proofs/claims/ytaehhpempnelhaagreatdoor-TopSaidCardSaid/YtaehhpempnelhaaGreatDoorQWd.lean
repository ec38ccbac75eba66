/-
  The strokes of a plan over bytes, walked: a plan that speaks of elements.
-/
import Derived.Test.YtaehhpempnelhaaGreatDoorQTx11
import Derived.Laws.AppendOwnNone
set_option maxRecDepth 100000
namespace Go.Vc
open Go Go.Proofs Go.Plain Go.RowKit Go.Shelf Tryz
theorem amJ{P:Program}{w:World}{ops:Array Oper}{rest:List Oper}{o:Oper}{a:Act}{Q:Exit->Act->World->Prop}(hgd:o.guard=none)(s x:Operand)(t:TypeId)
  (ho:o.op=.call {callee:=.builtin .append,args:= #[s,x],argTypes:= #[t,t]})
  (base:Nat) (e:TypeId) (i:TypeInfo) (z:Value) (size bytes:Nat) (ht:P.underlying t=some (.slice e)) (hi:P.info? e=some i) (hz:i.zero=some z)
  (hsize:i.size=size) (hby:i.bytes=bytes) (hzs:z.cells.size=size) (hsz:0<size)
  (v:Value) (n:Nat) (xs:List Value) (hs:a.eval s=v) (hown:w.ownsRow base e size v n xs)
  (u:Value) (m:Nat) (news:List Value) (hx:a.eval x=u) (b2:Nat) (how:w.ownsRow b2 e size u m news) (h1:∀u∈news,u.oneCell'=true)
  (h63:n+m<=maxLen) (hbytes:(n+m)*bytes<=140737488355328) (hbase:base<=w.heap.size)
  (h:∀v' w',w'.ownsRow base e size v' (n+m) (xs++news)->w.grownBy w' v.ownBlock->(v'.ownBlock=v.ownBlock\/v'.ownBlock=some w.heap.size)->wpList P ops Q rest (a.put o.dst v') w'):wpList P ops Q (o::rest) a w:=by
 have aCh:=how;obtain⟨hl,⟨rfl,rfl⟩|⟨g,cap,cur,rfl,_⟩⟩:=how
 .obtain rfl:news=[]:=oC (by omega);exact wpList_append_own_none hgd s x t ho base e i size ht hi v n xs hs hown hx (h v w (by simpa using hown) ⟨rfl,rfl,rfl,aS _,fun _ _ _=>rfl⟩ (.inl rfl))
 exact wpList_append_own_at w hgd s x t ho base e i z size bytes ht hi hz hsize hby hzs hsz v n xs hs hown ⟨g,0,none⟩ m cap news hx hl (aCh.cells rfl) h1 h63 hbytes hbase fun v' w' r1 r2 _ r4=>h v' w' r1 r2 r4
theorem aAQ{p:Pl}{k:Pk}(h3:iU p k=0):(behind p k).isSome:=by
 unfold iU at h3;split at h3
 .cases h3
 split at h3
 .assumption
 cases h3
set_option maxHeartbeats 1600000 in
theorem aBd(W0 : World)(aX : KW prog W0)(pv bv : Value)(p : Pl)(b : List UInt8)(k : Pk)(hkk : Hid (dN b = k))(hp : bV W0 (fun b => b < W0.heap.size) ig pv (iC p))(hb : bV W0 (fun b => b < W0.heap.size) aV bv (B b))(hbl : b.length <= 1000000)(few : lJ p)(num : fO p)(he : fE b = 0)(ko : k.ok)(hkb : k.ext.length <= 1000000 /\ k.pay.length <= 1000000 /\ k.pad <= 1000000)(hcs : k.hd.eU.length <= 15)(cs : ¬ nY p \/ nY p /\ (¬ iU p k = 0 \/ iU p k = 0 /\ (Hid ((8 : Int) = if(iO (placesOf k) 9).isSome then 0 else 8) \/ Hid ((0 : Int) = if(iO (placesOf k) 9).isSome then 0 else 8) /\ (¬ jS p \/ jS p))))(hE : Hid (kT p b = if nY p /\ iU p k = 0 then 0 else 9)) :
    Calls prog 119 #[pv, bv] W0 fun e W' => ∃ v, e =.returned (.tuple #[v,.int .i64 (kT p b)]) /\ Below W0.heap.size W0 W' /\ (kT p b = 0 -> ∃ xs, W'.ownsRow W0.heap.size 231 4 v (strokes p k).length xs /\ o8 W' (fun b => v.ownBlock ≠ some b) p k.aQ (strokes p k) xs) := by
  have hp0 := hp;obtain⟨mv, ov, dv, av, rfl, _⟩ := Ie hp;have hbX := iL (eD W0.heap.size W0) (aS _) (.cells #[.bool p.sm,.bool p.m,.bool p.st,.int .i64 p.ty,.bool p.sq,.int .u16 p.seq,.bool p.dY,.int .u32 p.time,.bool p.ss,.int .u32 p.bZ, mv, ov, dv, av,.bool p.np] 29);have aCs := mZ W0 (.cells #[.bool p.sm,.bool p.m,.bool p.st,.int .i64 p.ty,.bool p.sq,.int .u16 p.seq,.bool p.dY,.int .u32 p.time,.bool p.ss,.int .u32 p.bZ, mv, ov, dv, av,.bool p.np] 29);have hrd := aip _ (aX.below hbX) bv b (qh hb hbX) hbl;rw [show uR b = k from by unfold uR; rw [aC he]; exact hkk, he]at hrd;have hpl : (placesOf k).length <= 100000 := by have := Rp k; omega
  obtain⟨i0, hi0, hz0', hz1', hz2'⟩ := yN Ul;go_enter func119, ntmps119
  rcases cs with hk | ⟨hk, hf | ⟨hf, hs | ⟨hs, ha | ha⟩⟩⟩;rotate_left 4
  obtain⟨y, hy⟩ : ∃ y, behind p k = some y := o9.1 (aAQ hf);obtain⟨hfx, hsp, hst⟩ := asc hy (avi hs) ha;have hxp : ∀ x : fK, Hid (x = (iO (placesOf k) 9).getD fK.zero) -> x.p = wR k := fun x hx => by
    rw [show x = _ from hx, hfx];rfl
  have hl0 := Kj (pO p (kQ k) (wR k)) 2000000 (fun a => NS p _ _ a few.1 few.2.1) (spots k.aQ k.ext).1;have hl1 := Gv k.aQ k.ext;have hl2 := agi p;have hlen : (tV p).length + ((spots k.aQ k.ext).1.flatMap (pO p (kQ k) (wR k))).length <= maxLen := by simp only [maxLen]; omega
  have VO : ((tV p).length + ((spots k.aQ k.ext).1.flatMap (pO p (kQ k) (wR k))).length) * 32 <= 140737488355328 := by omega
  all_goals
    as_aux_lemma =>
      go_wp2_with (first
        | (go_at_call 13; refine hrd.mono ?_; rintro e w1 ⟨kv, rfl, hkv, hbe⟩; obtain⟨ca, cc, ea, ec, ya, yc, rfl⟩ := aiR hkv; have z1 := hbe.size; simp only [zo]at z1; have hB := iL (eD w1.heap.size w1) (aS _) (.cells #[.bool k.hd.pad,.bool k.hd.ext,.bool k.hd.mark,.int .i64 k.hd.typ,.int .u16 k.hd.seq,.int .u32 k.hd.time,.int .u32 k.hd.bZ,.slice ca k.hd.eU.length cc,.int .u16 (k.aQ : Int),.slice ea k.ext.length ec,.slice ya k.pay.length yc,.int .i64 (k.pad : Int)] 43); have hK := mZ w1 (.cells #[.bool k.hd.pad,.bool k.hd.ext,.bool k.hd.mark,.int .i64 k.hd.typ,.int .u16 k.hd.seq,.int .u32 k.hd.time,.int .u32 k.hd.bZ,.slice ca k.hd.eU.length cc,.int .u16 (k.aQ : Int),.slice ea k.ext.length ec,.slice ya k.pay.length yc,.int .i64 (k.pad : Int)] 43); have S2 : Qy W0 _ _ _ _ _ _ _ _ p b k := ⟨((aX.below hbX).below hbe).below hB, (hB.block _ (by omega)).trans ((hbe.block _ (by simp)).trans aCs), hK, qh (qh (qh hp0 hbX) hbe) hB, qh hkv hB, qh (qh (qh hb hbX) hbe) hB, hbX.trans ((hbe.mono (by simp)).trans (hB.mono (by omega)))⟩; clear hB hK hkv hbe; obtain⟨q0, q1, q2, q3, q4, q5, q6, q7, q8, q9, q10, q11, q12, q13, q14⟩ := ER S2.pl; obtain⟨k0, k1, k2, k3, k4, k5, k6, k7, k8, k9, k10, k11⟩ := ES S2.pk)
        | (go_at_call 148; refine(azJ _ S2.kw _ p S2.rp).mono ?_; rintro e w3 ⟨rfl, hb3⟩; have S3 := S2.below hb3; clear q0 q1 q2 q3 q4 q5 q6 q7 q8 q9 q10 q11 q12 q13 q14 k0 k1 k2 k3 k4 k5 k6 k7 k8 k9 k10 k11; obtain⟨q0, q1, q2, q3, q4, q5, q6, q7, q8, q9, q10, q11, q12, q13, q14⟩ := ER S3.pl; obtain⟨k0, k1, k2, k3, k4, k5, k6, k7, k8, k9, k10, k11⟩ := ES S3.pk)
        | (go_at_call 149; refine(aAK _ S3.kw _ _ p k S3.rp S3.rk few num ko hkb.1 hkb.2.1 hkb.2.2).mono ?_; rintro e w4 ⟨rfl, hb4⟩; have S4 := S3.below hb4; clear q0 q1 q2 q3 q4 q5 q6 q7 q8 q9 q10 q11 q12 q13 q14 k0 k1 k2 k3 k4 k5 k6 k7 k8 k9 k10 k11; obtain⟨q0, q1, q2, q3, q4, q5, q6, q7, q8, q9, q10, q11, q12, q13, q14⟩ := ER S4.pl; obtain⟨k0, k1, k2, k3, k4, k5, k6, k7, k8, k9, k10, k11⟩ := ES S4.pk)
        | (go_at_call 150; refine(aCx _ S4.kw _ b k hkk S4.rb hbl he).mono ?_; rintro e w5 ⟨lv, rfl, hlv, hb5⟩; have S5 := S4.below hb5; clear q0 q1 q2 q3 q4 q5 q6 q7 q8 q9 q10 q11 q12 q13 q14 k0 k1 k2 k3 k4 k5 k6 k7 k8 k9 k10 k11; obtain⟨q0, q1, q2, q3, q4, q5, q6, q7, q8, q9, q10, q11, q12, q13, q14⟩ := ER S5.pl; obtain⟨k0, k1, k2, k3, k4, k5, k6, k7, k8, k9, k10, k11⟩ := ES S5.pk; obtain⟨la, lc, rfl⟩ := aAg hlv)
        | (go_at_call 151; refine(avV w5 S5.kw _ _ _ p k S5.rp hlv num (by omega) (fun _ h => h) k.aQ).mono ?_; rintro e w6 ⟨v1, xs1, rfl, o6, WE, hb6⟩; have S6 := S5.below hb6; clear q0 q1 q2 q3 q4 q5 q6 q7 q8 q9 q10 q11 q12 q13 q14 k0 k1 k2 k3 k4 k5 k6 k7 k8 k9 k10 k11; obtain⟨q0, q1, q2, q3, q4, q5, q6, q7, q8, q9, q10, q11, q12, q13, q14⟩ := ER S6.pl; obtain⟨k0, k1, k2, k3, k4, k5, k6, k7, k8, k9, k10, k11⟩ := ES S6.pk; have hl6 := qh hlv hb6)
        | (go_at_call 152; refine(aAL _ S6.kw _ _ hl6 hpl 9 _ hs).mono ?_; rintro e w7 ⟨x, rfl, hx, hb7⟩; have uU := hb7.alloc hb7.size (.cells #[.int .i64 x.f,.int .i64 (x.p : Int),.int .i64 (x.s : Int)] 56); have hx7 := mZ w7 (.cells #[.int .i64 x.f,.int .i64 (x.p : Int),.int .i64 (x.s : Int)] 56); have S8 := S6.below uU; clear q0 q1 q2 q3 q4 q5 q6 q7 q8 q9 q10 q11 q12 q13 q14 k0 k1 k2 k3 k4 k5 k6 k7 k8 k9 k10 k11; obtain⟨q0, q1, q2, q3, q4, q5, q6, q7, q8, q9, q10, q11, q12, q13, q14⟩ := ER S8.pl; obtain⟨k0, k1, k2, k3, k4, k5, k6, k7, k8, k9, k10, k11⟩ := ES S8.pk)
        | (go_at_call 51; refine(azK _ S8.kw _ p S8.rp).mono ?_; rintro e w9 ⟨rfl, AL⟩; have S9 := S8.below AL; clear q0 q1 q2 q3 q4 q5 q6 q7 q8 q9 q10 q11 q12 q13 q14 k0 k1 k2 k3 k4 k5 k6 k7 k8 k9 k10 k11; obtain⟨q0, q1, q2, q3, q4, q5, q6, q7, q8, q9, q10, q11, q12, q13, q14⟩ := ER S9.pl; obtain⟨k0, k1, k2, k3, k4, k5, k6, k7, k8, k9, k10, k11⟩ := ES S9.pk; have hx9 := (AL.block _ (by simp)).trans hx7; have aDB : w9.cell? ⟨w7.heap.size, 1, none⟩ = some (.int .i64 (x.p : Int)) := by simp [World.cell?, hx9])
        | (go_at_call 153; have h59 := hb6.trans ((uU.trans (AL.mono uU.size)).mono hb6.size); refine(atr w9 S9.kw (fun b => b < w5.heap.size) _ _ p k x.p (S5.rp.mono h59.size (fun b hlt _ => ⟨h59.block b hlt, hlt⟩)) (S5.rk.mono h59.size (fun b hlt _ => ⟨h59.block b hlt, hlt⟩)) (fun b h => nK h h59.size) ko.2 hkb.1 (by rw [hxp x hx]; unfold wR; omega) hsp few).mono ?_; rintro e w10 ⟨v2, xs2, rfl, oX, kX, akS⟩; rw [hxp x hx]at oX kX; have S10 := S9.below akS; have h610 := (uU.trans (AL.mono uU.size)).trans (akS.mono (uU.trans (AL.mono uU.size)).size); have o6' := OW (o6.kept (JH h610) (Ki v1)) S5.gY.size; have z6 := h610.size; have z5 := h59.size; clear q0 q1 q2 q3 q4 q5 q6 q7 q8 q9 q10 q11 q12 q13 q14 k0 k1 k2 k3 k4 k5 k6 k7 k8 k9 k10 k11)
        | (at_builtin; refine amJ rfl _ _ 227 rfl W0.heap.size 231 i0 _ 4 32 underlying227 hi0 hz0' hz1' hz2' rfl (by decide) v1 _ xs1 rfl o6' v2 _ xs2 rfl _ oX kX.one hlen VO S10.gY.size ?_; intro v' w11 hown hgrow hat)
        | fail)
      refine fD (nN rfl _ _ _) rfl ?_;first
        | (rw [show kT p b = 0 from hE.trans (aC ⟨hk, hf⟩), hst]
           have z69 := (uU.trans (AL.mono uU.size)).size;have LV : ∀ b, v1.ownBlock ≠ some b -> b < w10.heap.size -> w11.heap[b]? = w10.heap[b]? /\ v'.ownBlock ≠ some b := fun b hm hlt => ⟨hgrow.block b hlt (fun e => hm e.symm), fun e => by
             rcases hat with h | h
             . exact hm (h ▸ e)
             . rw [h]at e
               cases e;omega⟩
           refine⟨_, rfl, S10.gY.grown hgrow S10.gY.size (fun k e => (o6'.lt k e).1), fun _ => ⟨xs1 ++ xs2, by rw [cO]; exact hown, ?_⟩⟩;refine o8.append ((WE.mono h610.size (fun b hm hlt => ⟨h610.block b hlt, hm⟩)).mono hgrow.size (fun b hm hlt => LV b hm.2 hlt)) (kX.mono hgrow.size (fun b hm hlt => LV b (fun e => ?_) hlt));have := o6.lt b e;rcases hm.2 with h | h <;> omega)
        | (rw [show kT p b = 9 from hE.trans (zq (fun h => hk h.1))]
           exact⟨_, rfl, S3.gY, fun h => by cases h⟩)
        | (rw [show kT p b = 9 from hE.trans (zq (fun h => hf h.2))]
           exact⟨_, rfl, S4.gY, fun h => by cases h⟩)
        | (rw [show kT p b = 0 from hE.trans (aC ⟨hk, hf⟩), acg (.inl (awE hs))]
           exact⟨_, rfl, S8.gY, fun _ => ⟨xs1, OW (o6.kept (JH uU) (Ki v1)) S5.gY.size, WE.mono uU.size (fun b hm hlt => ⟨uU.block b hlt, hm.2⟩)⟩⟩)
        | (have h69 := uU.trans (AL.mono uU.size)
           rw [show kT p b = 0 from hE.trans (aC ⟨hk, hf⟩), acg (.inr ha)];exact⟨_, rfl, S9.gY, fun _ => ⟨xs1, OW (o6.kept (JH h69) (Ki v1)) S5.gY.size, WE.mono h69.size (fun b hm hlt => ⟨h69.block b hlt, hm.2⟩)⟩⟩)
theorem aei(W0:World)(aX:KW prog W0)(pv bv:Value)(p:Pl)(b:List UInt8)(hp:bV W0 (fun b=>b<W0.heap.size) ig pv (iC p))(hb:bV W0 (fun b=>b<W0.heap.size) aV bv (B b))(hbl:b.length<=1000000)(few:lJ p)(num:fO p):
  Calls prog 119 #[pv,bv] W0 fun e W'=>∃v,e=.returned (.tuple #[v,.int .i64 (kT p b)])/\Below W0.heap.size W0 W'/\
   (kT p b=0->∃xs,W'.ownsRow W0.heap.size 231 4 v (strokes p (dN b)).length xs/\o8 W' (fun b=>v.ownBlock≠some b) p (dN b).aQ (strokes p (dN b)) xs):=by
 by_cases he:fE b=0
 .obtain ⟨kr,ko,kt,kl⟩:=Pk.same b he;have hkb:(dN b).ext.length<=1000000/\(dN b).pay.length<=1000000/\(dN b).pad<=1000000:=by
   have h1:=kr.2;have h2:=kr.1.2.2.2.1;unfold Pk.sum at h1;cases hx:(dN b).hd.ext with
   |true=>rw[hx,aC rfl]at h1;omega
   |false=>rw[(h2 hx).2];rw[hx]at h1;simp at h1 |-;omega
  have hcs:(dN b).hd.eU.length<=15:=by
   have:=kr.1.1;have:=this.2.2;omega
  have cs:¬nY p\/nY p/\(¬iU p (dN b)=0\/iU p (dN b)=0/\(((8:Int)=if(iO (placesOf (dN b)) 9).isSome then 0 else 8)\/((0:Int)=if(iO (placesOf (dN b)) 9).isSome then 0 else 8)/\(¬jS p\/jS p))):=by
   cases (iO (placesOf (dN b)) 9).isSome<;>by_cases h1:nY p<;>by_cases h2:iU p (dN b)=0<;>by_cases h3:jS p<;>simp[h1,h2,h3]
  exact aBd W0 aX pv bv p b _ rfl hp hb hbl few num he ko hkb hcs cs (by unfold kT;rw[zq (fun h=>h he)];rfl)
 have he2:(fE b !=0)=true:=by simpa using he
 have e1:kT p b=fE b:=by unfold kT;rw[aC he]
 rw[e1];have hp0:=hp;obtain⟨mv,ov,dv,av,rfl,_⟩:=Ie hp;have hbX:=iL (eD W0.heap.size W0) (aS _) (.cells #[.bool p.sm,.bool p.m,.bool p.st,.int .i64 p.ty,.bool p.sq,.int .u16 p.seq,.bool p.dY,.int .u32 p.time,.bool p.ss,.int .u32 p.bZ,mv,ov,dv,av,.bool p.np] 29);have hrd:=aip _ (aX.below hbX) bv b (qh hb hbX) hbl;go_enter func119,ntmps119
 go_wp2_with (go_at_call 13;refine hrd.mono ?_;rintro e w' ⟨kv,rfl,hkv,hbe⟩;obtain⟨ca,cc,ea,ec,ya,yc,rfl⟩:=aiR hkv)
 refine fD (nN rfl _ _ _) rfl ?_;exact⟨_,rfl,hbX.trans ((hbe.mono (by simp)).alloc (by have:=hbe.size;simp at this;omega) _),fun h=>absurd h he⟩
end Go.Vc
