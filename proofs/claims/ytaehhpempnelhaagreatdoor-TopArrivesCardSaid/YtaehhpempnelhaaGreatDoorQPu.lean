/-
  The contracts of plan.Apply and plan.Fits, each out of its condition.
-/
import Derived.Test.YtaehhpempnelhaaGreatDoorQPt
import Derived.Test.YtaehhpempnelhaaGreatDoorQBase4
set_option maxRecDepth 100000
namespace Go.Vc
open Go Go.Proofs Go.Plain
def fD(p:Pl)(k:Pk):Int:=if ¬k.right then 1 else if (behind p k).isSome then 0 else 9
def tF(p:Pl)(k:Pk):Pk:=if fD p k=0 then (behind p k).getD Pk.zero else Pk.zero
theorem Ac{p:Pl}{k:Pk}{e:Int}(h:fD p k=e)(he:e≠0):jY (tF p k)= .ls [.ls [.bool false,.bool false,.bool false,.int 0,.int 0,.int 0,.int 0,.ls []],.int 0,.ls [],.ls [],.int 0]:=by
 unfold tF;rw[h,if_neg he];rfl
theorem EF{p:Pl}{k x:Pk}(hr:k.right)(h:behind p k=some x):fD p k=0/\tF p k=x:=by
 have:fD p k=0:=by unfold fD;rw[if_neg (fun hh=>hh hr),h];rfl
 refine ⟨this,?_⟩;unfold tF;rw[if_pos this,h];rfl
theorem BO{p:Pl}{k:Pk}(hr:k.right)(h:behind p k=none):fD p k=9:=by unfold fD;rw[if_neg (fun hh=>hh hr),h];rfl
theorem akP{l:List El}(h:iM l):(vD l).length<=100000:=by
 have h1:=GR h;have h2:=MN (tQ l) l (fun e he=>(DW h e he).2.2);unfold vD Am;simp only[bg,mQ];omega
theorem al2{k:Pk}{w:List El}(h:jP k=some w):iM w:=by
 unfold jP at h;split at h
 .split at h
  .cases h;exact (u6 k.aD k.ext).2.2
  .cases h
 .cases h;exact fun j hj=>absurd hj (by simp)
theorem VQ{p:Pl}{k:Pk}{l:List El}(h:jh p k=some l):∃w,jP k=some w/\mG p w/\l=qJ p w:=by
 cases hw:jP k with
 |none=>unfold jh at h;rw[hw] at h;cases h
 |some w=>
  rw[Mf hw] at h;split at h
  .rename_i hc;cases h;exact ⟨w,rfl,hc.1,rfl⟩
  .cases h
theorem Xv{p:Pl}{ak:Bool}:∀(l:List Sp) (x:List UInt8),(∀s∈l,Plain.ahead ak<=s.pos/\s.pos+s.size<=x.length/\((s.id:Int)∈aZ p.over->(j5 p s.id []).length=s.size))->(l.foldl (uh p ak) x).length=x.length
 | [],_,_=>rfl
 |s::l,x,h=>by
  obtain ⟨h1,h2,h3⟩:=h s (by simp);have e:=Yu (p:=p) (ak:=ak) h1 h2 h3;rw[AP,Xv l _ (fun t ht=>by rw[e];exact h t (by simp[ht])),e]
theorem U7(p:Pl)(k:Pk)(hf:iE p)(hn:gH p)(ho:k.ok)(hb:k.ext.length<=1000000)(hpy:k.pay.length<=1000000)(hd:k.pad<=1000000):PC Tryz.prog Wt [(eu,eD p),(lS,jY k)] [(lS,jY (tF p k)),(I64,.int (fD p k))]:=by
 apply ahK rfl;simp only[UC,aH,aB,aA,ay,aC,forall_const,aT];refine ⟨_,Bf k hb hpy hd,fun h=>?_,fun h=>⟨_,U6 p hf,fun h2=>?_,fun h2=>?_⟩⟩
 .have h:¬k.right:=of_decide_eq_false h;have e:fD p k=1:=by unfold fD;rw[if_pos h]
  rw[Ac e (by decide),e]
 .have h:k.right:=of_decide_eq_true h;have h2:¬fT p:=of_decide_eq_false h2;have e:fD p k=9:=BO h (by unfold behind;rw[if_neg h2]);rw[Ac e (by decide),e]
 .have hr:k.right:=of_decide_eq_true h;have hp:fT p:=of_decide_eq_true h2;have hbe:behind p k=match (if gU p then jh p k else some []) with|none=>none|some l=>if (dL p k l).right then some (dL p k l) else none:=by unfold behind;rw[if_pos hp];rfl
  refine ⟨_,ah9 p k hn hr,_,KG p,fun ha=>⟨_,_,agr p k hp hf hr ho,fun hno=>?_,fun hyes=>⟨_,Du p,fun han=>?_,fun han=>?_⟩⟩,fun ha=>?_⟩
  .have ha:gU p:=of_decide_eq_true ha;have hno:jh p k=none:=by
    have hno:(jh p k).isSome=false:=hno;cases h:jh p k with
    |none=>rfl
    |some l=>rw[h] at hno;cases hno
   have e:fD p k=9:=BO hr (by rw[hbe,if_pos ha,hno]);rw[Ac e (by decide),e]
  .have ha:gU p:=of_decide_eq_true ha;have han:gG p:=of_decide_eq_true han;obtain ⟨l,hl⟩:∃l,jh p k=some l:=kK.1 hyes;obtain ⟨w,hw,hme,rfl⟩:=VQ hl;have hlr:=alx hp (al2 hw) hme.2.2;rw[if_pos ha,hl] at hbe;simp only at hbe;rw[hl,yL];generalize qJ p w=l at hlr hl hbe;have hlen:=GR hlr;have hel:(jL l).toList.length=l.length:=by simp[jL]
   rw[hel];have hX:dL p k l= {kV p k with hd:= {JH p k.hd with ext:=decide (l≠[])},aD:=if l=[] then 0 else rT l,ext:=if l=[] then [] else vD l}:=by
    unfold dL;rw[if_pos ha,if_pos han]
   refine ⟨fun hc=>?_,fun hc=>?_⟩
   .have hne:l≠[]:=fun e=>by rw[e] at hc;exact absurd hc (by decide)
    rw[decide_eq_true hne,if_neg hne,if_neg hne] at hX;rw[decide_eq_true hc];have hbl:=akP hlr;obtain ⟨q1,q2⟩:Ke l=vD l/\Kc l=0:=⟨if_pos hlr,if_pos hlr⟩;have hwr:=ajf l (by omega);rw[q1,q2] at hwr;have hrt:=Bf (dL p k l) (by rw[hX];show (vD l).length<=1000000;omega) (by rw[hX];exact hpy) (by rw[hX];show (if p.np then 0 else k.pad)<=1000000;split<;>omega);refine ⟨_,_,_,hwr,_,by rw[hX] at hrt;exact hrt,fun h=>?_,fun h=>?_⟩
    .have h:¬(dL p k l).right:=by rw[hX];exact of_decide_eq_false h
     have e:fD p k=9:=BO hr (by rw[hbe,if_neg h]);rw[Ac e (by decide),e]
    .have h:(dL p k l).right:=by rw[hX];exact of_decide_eq_true h
     obtain ⟨g1,g2⟩:=EF hr (by rw[hbe,if_pos h]);rw[g1,g2,hX];rfl
   .have he:l=[]:=jH (by omega);subst he;have hrt:=Bf (dL p k []) (by rw[hX];show ([]:List UInt8).length<=1000000;simp) (by rw[hX];exact hpy) (by rw[hX];show (if p.np then 0 else k.pad)<=1000000;split<;>omega);refine ⟨_,by rw[hX] at hrt;exact hrt,fun h=>?_,fun h=>?_⟩
    .have h:¬(dL p k []).right:=by rw[hX];exact of_decide_eq_false h
     have e:fD p k=9:=BO hr (by rw[hbe,if_neg h]);rw[Ac e (by decide),e]
    .have h:(dL p k []).right:=by rw[hX];exact of_decide_eq_true h
     obtain ⟨g1,g2⟩:=EF hr (by rw[hbe,if_pos h]);rw[g1,g2,hX];rfl
  .have ha:gU p:=of_decide_eq_true ha;have han:¬gG p:=of_decide_eq_false han;obtain ⟨l,hl⟩:∃l,jh p k=some l:=kK.1 hyes;obtain ⟨w,hw,hme,hlw⟩:=VQ hl;rw[if_pos ha,hl] at hbe;simp only at hbe;have hX:dL p k l= {kV p k with ext:=sw p k}:=by
    unfold dL;rw[if_pos ha,if_neg han]
   have hdr:p.drops=[]:=Decidable.not_not.1 fun h=>han (.inl h);have hx:k.hd.ext=true:=by
    cases hx:k.hd.ext with
    |true=>rfl
    |false=>
     exfalso;have:jP k=some []:=by unfold jP;rw[if_neg (by rw[hx];decide)]
     rw[this] at hw;cases hw;obtain ⟨⟨m1,m2,m3⟩,_,_⟩:=hme;rcases ha with h|h|h
     .obtain ⟨m,hm⟩:=List.exists_mem_of_ne_nil _ h;exact absurd (m1 m.fr (gK.2 ⟨m,hm,rfl⟩)) (by simp[aZ])
     .obtain ⟨m,hm⟩:=List.exists_mem_of_ne_nil _ h;exact absurd (m2 m.id (gK.2 ⟨m,hm,rfl⟩)) (by simp[aZ])
     .exact han h
   have hsp:(spots k.aD k.ext).2=0:=by
    unfold jP at hw;rw[if_pos hx] at hw;split at hw
    .assumption
    .cases hw
   have hwe:w=oL k.aD k.ext:=by
    unfold jP at hw;rw[if_pos hx,if_pos hsp] at hw;cases hw;rfl
   have hls:∀s∈(spots k.aD k.ext).1,(s.id:Int)∈aZ p.over->(j5 p s.id []).length=s.size:=by
    intro s hs ho2;have hm:gN k.ext s∈w:=by rw[hwe];exact gK.2 ⟨s,hs,rfl⟩
    have:=hme.2.1 _ hm (by rw[hdr];simp);have hz:=(u6 k.aD k.ext).1 s hs;have hid:(gN k.ext s).id=(s.id:Int):=rfl;have hdl:(gN k.ext s).data.length=s.size:=by unfold gN;simp;omega
    rw[hid,hdl] at this;rw[amR [] (gN k.ext s).data ho2];exact this
   have hip:=ag2 p k hp hf ho hb hsp hls;have hpl:(sw p k).length<=1000000:=by
    unfold sw iC;rw[Xv _ _ fun s hs=>⟨M7 hsp s hs,(u6 k.aD k.ext).1 s hs,hls s hs⟩];exact hb
   have hrt:=Bf (dL p k l) (by rw[hX];exact hpl) (by rw[hX];exact hpy) (by rw[hX];show (if p.np then 0 else k.pad)<=1000000;split<;>omega);refine ⟨_,hip,_,by rw[hX] at hrt;exact hrt,fun h=>?_,fun h=>?_⟩
   .have h:¬(dL p k l).right:=by rw[hX];exact of_decide_eq_false h
    have e:fD p k=9:=BO hr (by rw[hbe,if_neg h]);rw[Ac e (by decide),e]
   .have h:(dL p k l).right:=by rw[hX];exact of_decide_eq_true h
    obtain ⟨g1,g2⟩:=EF hr (by rw[hbe,if_pos h]);rw[g1,g2,hX];rfl
  .have ha:¬gU p:=of_decide_eq_false ha;rw[if_neg ha] at hbe;simp only at hbe;have hX:dL p k []=kV p k:=by unfold dL;rw[if_neg ha]
   rw[hX] at hbe;have hrt:=Bf (kV p k) hb hpy (by show (if p.np then 0 else k.pad)<=1000000;split<;>omega);refine ⟨_,hrt,fun h=>?_,fun h=>?_⟩
   .have h:¬(kV p k).right:=of_decide_eq_false h;have e:fD p k=9:=BO hr (by rw[hbe,if_neg h]);rw[Ac e (by decide),e]
   .have h:(kV p k).right:=of_decide_eq_true h;obtain ⟨g1,g2⟩:=EF hr (by rw[hbe,if_pos h]);rw[g1,g2];rfl
theorem ajL(p:Pl)(k:Pk)(hf:iE p)(hn:gH p)(ho:k.ok)(hb:k.ext.length<=1000000)(hpy:k.pay.length<=1000000)(hd:k.pad<=1000000):PC Tryz.prog XB [(eu,eD p),(lS,jY k)] [(.bool,.bool (decide (fD p k=0)))]:=by
 apply aiN rfl;simp only[VF,aH,aB,aA,ay,aC,forall_const,aT];exact ⟨_,_,U7 p k hf hn ho hb hpy hd,rfl⟩
end Go.Vc
