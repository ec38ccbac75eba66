/-
  Contracts of functions of the program, each out of its condition or by a walk, and plain lemmas.
-/
import Derived.Test.YtaehhpempnelhaaGreatDoorQPt
import Derived.Test.YtaehhpempnelhaaGreatDoorQBase4
import Derived.Test.YtaehhpempnelhaaGreatDoorQVcs1
import Derived.Test.YtaehhpempnelhaaGreatDoorQTx4
import Derived.Test.YtaehhpempnelhaaGreatDoorQTx2
set_option maxRecDepth 100000
namespace Go.Vc
open Go Go.Proofs Go.Plain
def dU (p:Pl) (k:Pk):Int:=if ¬k.right then 1 else if (behind p k).isSome then 0 else 9
def qp (p:Pl) (k:Pk):Pk:=if dU p k=0 then (behind p k).getD Pk.zero else Pk.zero
theorem wU {p:Pl} {k:Pk} {e:Int} (h:dU p k=e) (he:e≠0):fP (qp p k)= .ls [.ls [.bool false,.bool false,.bool false,.int 0,.int 0,.int 0,.int 0,.ls []],.int 0,.ls [],.ls [],.int 0]:=by
 unfold qp;rw[h,if_neg he];rfl
theorem zo {p:Pl} {k x:Pk} (hr:k.right) (h:behind p k=some x):dU p k=0∧qp p k=x:=by
 have:dU p k=0:=by unfold dU;rw[if_neg (fun hh=>hh hr),h];rfl
 refine ⟨this,?_⟩;unfold qp;rw[if_pos this,h];rfl
theorem wM {p:Pl} {k:Pk} (hr:k.right) (h:behind p k=none):dU p k=9:=by unfold dU;rw[if_neg (fun hh=>hh hr),h];rfl
theorem Tc {l:List El} (h:eF l):(nJ l).length≤100000:=by
 have h1:=DU h;have h2:=Jk (nH l) l (fun e he=>(vV h e he).2.2);unfold nJ CS;simp only[List.length_append,List.length_replicate];omega
theorem Uu {k:Pk} {w:List El} (h:gJ k=some w):eF w:=by
 unfold gJ at h;split at h
 ·split at h
  ·cases h;exact (jS k.ak k.ext).2.2
  ·cases h
 ·cases h;exact fun j hj=>absurd hj (by simp)
theorem Ra {p:Pl} {k:Pk} {l:List El} (h:dW p k=some l):∃w,gJ k=some w∧iB p w∧l=gY p w:=by
 cases hw:gJ k with
 |none=>unfold dW at h;rw[hw] at h;cases h
 |some w=>
  rw[IL hw] at h;split at h
  ·rename_i hc;cases h;exact ⟨w,rfl,hc.1,rfl⟩
  ·cases h
theorem SB {p:Pl} {aj:Bool}:∀(l:List Sp) (x:List UInt8),(∀s∈l,Plain.ahead aj≤s.pos∧s.pos+s.size≤x.length∧((s.id:Int)∈aK p.over→(fK p s.id []).length=s.size))→(l.foldl (lX p aj) x).length=x.length
 | [],_,_=>rfl
 |s::l,x,h=>by
  obtain ⟨h1,h2,h3⟩:=h s (by simp);have e:=T9 (p:=p) (aj:=aj) h1 h2 h3;rw[List.foldl_cons,SB l _ (fun t ht=>by rw[e];exact h t (by simp[ht])),e]
theorem QA (p:Pl) (k:Pk) (hf:fq p) (hn:dO p) (ho:k.ok) (hb:k.ext.length≤1000000) (hpy:k.pay.length≤1000000) (hd:k.pad≤1000000):PC Tryz.prog Rx [(cu,cK p),(gU,fP k)] [(gU,fP (qp p k)),(I64,.int (dU p k))]:=by
 apply ac3 rfl;simp only[Qk,aF,aC,aB,au,aD,forall_const,List.length_map];refine ⟨_,yw k hb hpy hd,fun h=>?_,fun h=>⟨_,Qz p hf,fun h2=>?_,fun h2=>?_⟩⟩
 ·have h:¬k.right:=of_decide_eq_false h;have e:dU p k=1:=by unfold dU;rw[if_pos h]
  rw[wU e (by decide),e]
 ·have h:k.right:=of_decide_eq_true h;have h2:¬bR p:=of_decide_eq_false h2;have e:dU p k=9:=wM h (by unfold behind;rw[if_neg h2]);rw[wU e (by decide),e]
 ·have hr:k.right:=of_decide_eq_true h;have hp:bR p:=of_decide_eq_true h2;have hbe:behind p k=match (if dP p then dW p k else some []) with|none=>none|some l=>if (bJ p k l).right then some (bJ p k l) else none:=by unfold behind;rw[if_pos hp];rfl
  refine ⟨_,ads p k hn hr,_,O6 p,fun ha=>⟨_,_,abY p k hp hf hr ho,fun hno=>?_,fun hyes=>⟨_,AY p,fun han=>?_,fun han=>?_⟩⟩,fun ha=>?_⟩
  ·have ha:dP p:=of_decide_eq_true ha;have hno:dW p k=none:=by
    have hno:(dW p k).isSome=false:=hno;cases h:dW p k with
    |none=>rfl
    |some l=>rw[h] at hno;cases hno
   have e:dU p k=9:=wM hr (by rw[hbe,if_pos ha,hno]);rw[wU e (by decide),e]
  ·have ha:dP p:=of_decide_eq_true ha;have han:dJ p:=of_decide_eq_true han;obtain ⟨l,hl⟩:∃l,dW p k=some l:=Option.isSome_iff_exists.1 hyes;obtain ⟨w,hw,hme,rfl⟩:=Ra hl;have hlr:=TR hp (Uu hw) hme.2.2;rw[if_pos ha,hl] at hbe;simp only at hbe;rw[hl,Option.getD_some];generalize gY p w=l at hlr hl hbe;have hlen:=DU hlr;have hel:(dV l).toList.length=l.length:=by simp[dV]
   rw[hel];have hX:bJ p k l= {gV p k with hd:= {gK p k.hd with ext:=decide (l≠[])},ak:=if l=[] then 0 else mI l,ext:=if l=[] then [] else nJ l}:=by
    unfold bJ;rw[if_pos ha,if_pos han]
   refine ⟨fun hc=>?_,fun hc=>?_⟩
   ·have hne:l≠[]:=fun e=>by rw[e] at hc;exact absurd hc (by decide)
    rw[decide_eq_true hne,if_neg hne,if_neg hne] at hX;rw[decide_eq_true hc];have hbl:=Tc hlr;obtain ⟨q1,q2⟩:Gv l=nJ l∧Gu l=0:=⟨if_pos hlr,if_pos hlr⟩;have hwr:=aec l (by omega);rw[q1,q2] at hwr;have hrt:=yw (bJ p k l) (by rw[hX];show (nJ l).length≤1000000;omega) (by rw[hX];exact hpy) (by rw[hX];show (if p.np then 0 else k.pad)≤1000000;split<;>omega);refine ⟨_,_,_,hwr,_,by rw[hX] at hrt;exact hrt,fun h=>?_,fun h=>?_⟩
    ·have h:¬(bJ p k l).right:=by rw[hX];exact of_decide_eq_false h
     have e:dU p k=9:=wM hr (by rw[hbe,if_neg h]);rw[wU e (by decide),e]
    ·have h:(bJ p k l).right:=by rw[hX];exact of_decide_eq_true h
     obtain ⟨g1,g2⟩:=zo hr (by rw[hbe,if_pos h]);rw[g1,g2,hX];rfl
   ·have he:l=[]:=List.eq_nil_of_length_eq_zero (by omega);subst he;have hrt:=yw (bJ p k []) (by rw[hX];show ([]:List UInt8).length≤1000000;simp) (by rw[hX];exact hpy) (by rw[hX];show (if p.np then 0 else k.pad)≤1000000;split<;>omega);refine ⟨_,by rw[hX] at hrt;exact hrt,fun h=>?_,fun h=>?_⟩
    ·have h:¬(bJ p k []).right:=by rw[hX];exact of_decide_eq_false h
     have e:dU p k=9:=wM hr (by rw[hbe,if_neg h]);rw[wU e (by decide),e]
    ·have h:(bJ p k []).right:=by rw[hX];exact of_decide_eq_true h
     obtain ⟨g1,g2⟩:=zo hr (by rw[hbe,if_pos h]);rw[g1,g2,hX];rfl
  ·have ha:dP p:=of_decide_eq_true ha;have han:¬dJ p:=of_decide_eq_false han;obtain ⟨l,hl⟩:∃l,dW p k=some l:=Option.isSome_iff_exists.1 hyes;obtain ⟨w,hw,hme,hlw⟩:=Ra hl;rw[if_pos ha,hl] at hbe;simp only at hbe;have hX:bJ p k l= {gV p k with ext:=ig p k}:=by
    unfold bJ;rw[if_pos ha,if_neg han]
   have hdr:p.drops=[]:=Decidable.not_not.1 fun h=>han (.inl h);have hx:k.hd.ext=true:=by
    cases hx:k.hd.ext with
    |true=>rfl
    |false=>
     exfalso;have:gJ k=some []:=by unfold gJ;rw[if_neg (by rw[hx];decide)]
     rw[this] at hw;cases hw;obtain ⟨⟨m1,m2,m3⟩,_,_⟩:=hme;rcases ha with h|h|h
     ·obtain ⟨m,hm⟩:=List.exists_mem_of_ne_nil _ h;exact absurd (m1 m.fr (List.mem_map.2 ⟨m,hm,rfl⟩)) (by simp[aK])
     ·obtain ⟨m,hm⟩:=List.exists_mem_of_ne_nil _ h;exact absurd (m2 m.id (List.mem_map.2 ⟨m,hm,rfl⟩)) (by simp[aK])
     ·exact han h
   have hsp:(spots k.ak k.ext).2=0:=by
    unfold gJ at hw;rw[if_pos hx] at hw;split at hw
    ·assumption
    ·cases hw
   have Du:w=iC k.ak k.ext:=by
    unfold gJ at hw;rw[if_pos hx,if_pos hsp] at hw;cases hw;rfl
   have hls:∀s∈(spots k.ak k.ext).1,(s.id:Int)∈aK p.over→(fK p s.id []).length=s.size:=by
    intro s hs ho2;have hm:dQ k.ext s∈w:=by rw[Du];exact List.mem_map.2 ⟨s,hs,rfl⟩
    have:=hme.2.1 _ hm (by rw[hdr];simp);have hz:=(jS k.ak k.ext).1 s hs;have hid:(dQ k.ext s).id=(s.id:Int):=rfl;have hdl:(dQ k.ext s).data.length=s.size:=by unfold dQ;simp;omega
    rw[hid,hdl] at this;rw[Vf [] (dQ k.ext s).data ho2];exact this
   have hip:=acE p k hp hf ho hb hsp hls;have hpl:(ig p k).length≤1000000:=by
    unfold ig bO;rw[SB _ _ fun s hs=>⟨BG hsp s hs,(jS k.ak k.ext).1 s hs,hls s hs⟩];exact hb
   have hrt:=yw (bJ p k l) (by rw[hX];exact hpl) (by rw[hX];exact hpy) (by rw[hX];show (if p.np then 0 else k.pad)≤1000000;split<;>omega);refine ⟨_,hip,_,by rw[hX] at hrt;exact hrt,fun h=>?_,fun h=>?_⟩
   ·have h:¬(bJ p k l).right:=by rw[hX];exact of_decide_eq_false h
    have e:dU p k=9:=wM hr (by rw[hbe,if_neg h]);rw[wU e (by decide),e]
   ·have h:(bJ p k l).right:=by rw[hX];exact of_decide_eq_true h
    obtain ⟨g1,g2⟩:=zo hr (by rw[hbe,if_pos h]);rw[g1,g2,hX];rfl
  ·have ha:¬dP p:=of_decide_eq_false ha;rw[if_neg ha] at hbe;simp only at hbe;have hX:bJ p k []=gV p k:=by unfold bJ;rw[if_neg ha]
   rw[hX] at hbe;have hrt:=yw (gV p k) hb hpy (by show (if p.np then 0 else k.pad)≤1000000;split<;>omega);refine ⟨_,hrt,fun h=>?_,fun h=>?_⟩
   ·have h:¬(gV p k).right:=of_decide_eq_false h;have e:dU p k=9:=wM hr (by rw[hbe,if_neg h]);rw[wU e (by decide),e]
   ·have h:(gV p k).right:=of_decide_eq_true h;obtain ⟨g1,g2⟩:=zo hr (by rw[hbe,if_pos h]);rw[g1,g2];rfl
theorem aeA (p:Pl) (k:Pk) (hf:fq p) (hn:dO p) (ho:k.ok) (hb:k.ext.length≤1000000) (hpy:k.pay.length≤1000000) (hd:k.pad≤1000000):PC Tryz.prog SG [(cu,cK p),(gU,fP k)] [(.bool,.bool (decide (dU p k=0)))]:=by
 apply adL rfl;simp only[QX,aF,aC,aB,au,aD,forall_const,List.length_map];exact ⟨_,_,QA p k hf hn ho hb hpy hd,rfl⟩
end Go.Vc
set_option maxRecDepth 100000
namespace Go.Vc
open Go Go.Proofs Go.Plain
theorem abx (b:List UInt8) (at_ n:Int) (h1:b.length≤9223372036854775807):
  PC Tryz.prog OQ [(aV,B b),(I64,.int at_),(I64,.int n)] [(U64,.int (oN b at_ n)),(I64,.int (jN b.length at_ n))]:=by
 apply abr rfl;simp only[Ol,aF,aC,aB,au,aD,forall_const,bC];refine ⟨fun hc=>?_,fun hc=>⟨fun _=>by omega,fun hs=>?_,fun hs=>?_⟩⟩
 ·have e:jN b.length at_ n=1:=by rw[jN,if_pos (by omega)]
  simp[oN,e]
 ·have e:jN b.length at_ n=2:=by rw[jN,if_neg (by omega),uM,if_pos (by omega)]
  simp[oN,e]
 ·have e:jN b.length at_ n=0:=by rw[jN,if_neg (by omega),uM,if_neg (by omega)]
  have hz:=Ez.1 e;have hl:=Ui ⟨hz.2.2.2.1,hz.2.2.2.2⟩ hz.2.2.1;refine VC.go_loop (fun i:Nat=> [.int ((be ((cut b at_ n).take i):Nat):Int),.int i]) (fun i=>i≤n.toNat) (fun i=>n.toNat-i) 0 rfl (Nat.zero_le _) fun i hi=>?_;simp only[aF,aC,aB,au,aD,forall_const,bC];refine ⟨fun hc=>⟨by omega,by omega,by omega,by omega,i+1,?_,by omega,by omega⟩,fun hc=>?_⟩
  ·have hx:=QE (cut b at_ n) i;have hv:=IW (cut b at_ n) i;have hp:256^i≤256^7:=Nat.pow_le_pow_right (by decide) (by omega);have hp':(256:Nat)^7=72057594037927936:=by decide
   have e1:(at_+(i:Int)).toNat=at_.toNat+i:=by omega
   have e4:b.getD (at_.toNat+i) 0=(cut b at_ n).getD i 0:=by
    simp only[cut,List.getD_eq_getElem?_getD];rw[List.getElem?_take,if_pos (by omega),List.getElem?_drop]
   rw[R3 _ _ (by omega)];simp only[e1,jg,e4,bL,qD,ahm,ahl];congr 2
   ·omega
  ·rw[List.take_of_length_le (by omega)];simp only[oN,e,if_true]
theorem abw (v:Nat) (n:Int) (h1:v<18446744073709551616):
  PC Tryz.prog OP [(U64,.int v),(I64,.int n)] [(aV,B (kI v n)),(I64,.int (kZ v n))]:=by
 apply abq rfl;simp only[Oj,aF,aC,aB,au,aD,forall_const];refine ⟨fun hc=>?_,fun hc=>⟨by omega,by omega,by omega,?_⟩⟩
 ·have e:kZ v n=1:=by rw[kZ,if_pos (by omega)]
  simp[kI,e]
 ·obtain ⟨m,rfl⟩:∃m:Nat,n=m:=⟨n.toNat,by omega⟩;refine VC.go_loop (fun j:Nat=> [.int ((v/256^j:Nat):Int),.int j,Go.Vc.B (List.replicate (m-j) 0++aJ j v)]) (fun j=>j≤m) (fun j=>m-j) 0 ?_ (Nat.zero_le _) fun j hj=>?_
  ·simp only[aC,aB,au,aD,forall_const];simp[aJ,Ij]
  ·simp only[aF,aC,aB,au,aD,forall_const];refine ⟨fun hc=>⟨by omega,by omega,by omega,by omega,by omega,j+1,?_,by omega,by omega⟩,fun hc=>?_⟩
   ·have e1:((m:Int)-1-j).toNat=m-1-j:=by omega
    have e2:arith .quo .u64 ((v/256^j:Nat):Int) 256=((v/256^(j+1):Nat):Int):=by
     have hq:v/256^j≤v:=Nat.div_le_self _ _;rw[Nat.pow_succ,←Nat.div_div_eq_div_mul];generalize v/256^j=q at hq;rw[EI _ _ _ (by omega),qD];omega
    have e3:arith .rem .u64 ((v/256^j:Nat):Int) 256=((v/256^j%256:Nat):Int):=by
     generalize v/256^j=q;rw[BA _ _ _ (by omega)];omega
    have e4:UInt8.ofNat (v/256^j%256)=UInt8.ofNat (v/256^j):=by
     apply UInt8.toNat_inj.1;simp
    rw[e1,e2,e3,byte_of,qy,WE m j (by omega),e4,←I4];simp
   ·have:j=m:=by omega
    subst this;refine ⟨fun hp=>?_,fun hp=>?_⟩
    ·have e:kZ v j=6:=by
      rw[kZ,if_neg (by omega),if_neg];intro h;rw[Int.toNat_natCast] at h;rw[Nat.div_eq_of_lt h] at hp;omega
     simp[kI,e]
    ·have e:kZ v j=0:=by
      rw[yM];refine ⟨by omega,by omega,Nat.lt_of_not_le fun hle=>?_⟩;have:=Nat.div_pos hle (Nat.pow_pos (by decide));rw[Int.toNat_natCast] at this;omega
     simp[kI,e]
theorem yj (v:Nat) (n:Int) (h1:v<18446744073709551616):
  PC Tryz.prog OB [(U64,.int v),(I64,.int n)] [(aV,B (kI v n))]:=by
 apply abe rfl;simp only[NA,aF,aC,aB,au,aD,forall_const];exact ⟨_,_,abw v n h1,rfl⟩
theorem abj (h:Hd):PC Tryz.prog N8 [(rD,nD h)] [(.bool,.bool (decide h.right))]:=by
 apply aaW rfl;simp only[Nf,aF,aC,aB,au,aD,forall_const,List.length_map];congr 3
 by_cases hr:h.right
 ·have:=hr;obtain ⟨h1,h2,h3⟩:=this;simp[hr,h1,show h.typ<128 by omega,show (h.aI.length:Int)<16 by omega]
 ·simp only[hr,decide_false];unfold Hd.right at hr;by_cases h1:0≤h.typ<;>by_cases h2:h.typ<128<;>simp[h1,h2]
  omega
theorem yu (b:List UInt8) (i n:Nat) (hi:i+n≤b.length) (hn:1≤n∧n≤4) (hb:b.length≤9223372036854775807):PC Tryz.prog OM [(aV,B b),(I64,.int i),(I64,.int n)] [(U32,.int (num b i n))]:=by
 apply abo rfl;simp only[Oh,aF,aC,aB,au,aD,forall_const];refine ⟨_,_,abx b i n hb,?_⟩;have e:jN b.length i n=0:=by rw[Ez];omega
 have hl:num b i n<4294967296:=Nat.lt_of_lt_of_le (oo b i n) (Nat.le_trans (Nat.pow_le_pow_right (by decide) hn.2) (by decide));have e2:oN b i n=num b i n:=by rw[oN,if_pos e];rfl
 rw[bL,e2,Wn];congr 3
 omega
theorem abu (b:List UInt8) (hb:b.length≤140737488355328):PC Tryz.prog Oz [(aV,B b)] [(rD,nD (rG b)),(I64,.int (hdN b)),(I64,.int (fu b))]:=by
 apply abb rfl;have i0:Int.toNat 0=0:=rfl;have i1:Int.toNat 1=1:=rfl;obtain ⟨_,_,_,_,_,_,q1,q2,_,q3,q4⟩:=bits (at_ b 0) (fF b 0);obtain ⟨_,_,_,_,_,_,_,_,q6,_⟩:=bits (at_ b 1) (fF b 1);have q7:=yQ (at_ b 0%16) (by omega);have q8:=yQ (at_ b 1%128) (by omega);simp only[Ny,aF,aC,aB,au,aD,forall_const,bC,jg,i0,lG,q1,q2,q7];refine ⟨fun hc=>?_,fun hc=>⟨by omega,fun hv=>?_,fun hv=>⟨by omega,by omega,by omega,fun hs=>?_,fun hs=>⟨by omega,by omega,by omega,by omega,?_⟩⟩⟩⟩
 ·have e:fu b=2:=by unfold fu;rw[if_pos (by omega)]
  rw[(ou e (by decide)).1,(ou e (by decide)).2,e];rfl
 ·have e:fu b=3:=by unfold fu;rw[if_neg (by omega),if_pos (by omega)]
  rw[(ou e (by decide)).1,(ou e (by decide)).2,e];rfl
 ·have e:fu b=2:=by unfold fu;rw[if_neg (by omega),if_neg (by omega),if_pos (by omega)]
  rw[(ou e (by decide)).1,(ou e (by decide)).2,e];rfl
 ·have e:fu b=0:=by rw[uj];omega
  refine ⟨_,yu b 2 2 (by omega) (by omega) (by omega),_,yu b 4 4 (by omega) (by omega) (by omega),_,yu b 8 4 (by omega) (by omega) (by omega),?_⟩;refine VC.go_loop (fun i:Nat=> [.int i,Ns ((List.range i).map fun j=>num b (12+4*j) 4)]) (fun i=>i≤at_ b 0%16) (fun i=>at_ b 0%16-i) 0 rfl (Nat.zero_le _) fun i hi=>?_;simp only[aF,aC,aB,au,aD,forall_const,bC,jg,i0,i1,lG,q2,q7,q3,q4,q6,q8,List.length_map,List.length_range];refine ⟨fun hc=>⟨by omega,by omega,?_⟩,fun hc=>⟨by omega,by omega,?_⟩⟩
  ·have ei:(12:Int)+4*(i:Int)=((12+4*i:Nat):Int):=by omega
   rw[ei];refine ⟨_,yu b (12+4*i) 4 (by omega) (by omega) (by omega),by simp;omega,by omega,i+1,?_,by omega,by omega⟩;rw[UK,Sr];simp
  ·have hi2:i=at_ b 0%16:=by omega
   have hl:=oo b 2 2;have hw:IntKind.u16.wrap (num b 2 2:Int)=(num b 2 2:Int):=by rw[za];omega
   have h128:decide ((128:Int)≤(at_ b 1:Int))=decide (128≤at_ b 1):=by
    by_cases h:128≤at_ b 1
    ·simp[h,show (128:Int)≤(at_ b 1:Int) by omega]
    ·simp[h,show ¬(128:Int)≤(at_ b 1:Int) by omega]
   rw[hw,h128,rG,hdN,if_pos e,if_pos e,e,hi2];simp[Hd.of]
theorem aaI (a b:List Nat) (ha:a.length≤9223372036854775806):PC Tryz.prog MR [(.sl U32,Ns a),(.sl U32,Ns b)] [(.bool,.bool (decide (a=b)))]:=by
 apply aaD rfl;simp only[MJ,aF,aC,aB,au,aD,forall_const,List.length_map];refine ⟨fun hl=>?_,fun hl=>?_⟩
 ·have:a≠b:=fun e=>hl (by rw[e]);simp[this]
 ·have hl:a.length=b.length:=by omega
  refine VC.go_loop (fun i:Nat=> [.bool false,.int i]) (fun i=>i≤a.length∧a.take i=b.take i) (fun i=>a.length-i) 0 rfl ⟨Nat.zero_le _,rfl⟩ fun i hi=>?_;simp only[aF,aC,aB,au,aD,forall_const,List.length_map];refine ⟨fun hc=>⟨by omega,by omega,by omega,by omega,?_⟩,fun hc=>?_⟩
  ·rw[Int.toNat_natCast,DV _ _ (by omega),DV _ _ (by omega),bL,bL];refine ⟨fun hn=>?_,fun hn=>⟨by omega,i+1,by simp,⟨by omega,?_⟩,by omega⟩⟩
   ·have:a≠b:=fun e=>hn (by rw[e]);simp[this]
   ·have hn:a.getD i 0=b.getD i 0:=by omega
    rw[List.take_succ_eq_append_getElem (by omega),List.take_succ_eq_append_getElem (by omega),hi.2];simp[List.getD,show i<a.length by omega,show i<b.length by omega] at hn;rw[hn]
  ·have h2:=hi.2;rw[List.take_of_length_le (by omega),List.take_of_length_le (by omega)] at h2;simp[h2]
theorem abt (a b:Hd) (ha:a.aI.length≤9223372036854775806):PC Tryz.prog Oy [(rD,nD a),(rD,nD b)] [(.bool,.bool (decide (a=b)))]:=by
 apply aa9 rfl;simp only[Nw,aF,aC,aB,au,aD,forall_const];refine ⟨_,fun _=>aaI a.aI b.aI ha,?_⟩;congr 3
 obtain ⟨a1,a2,a3,a4,a5,a6,a7,a8⟩:=a;obtain ⟨b1,b2,b3,b4,b5,b6,b7,b8⟩:=b;simp only[gH,JI,Hd.mk.injEq];congr 1
 apply Bool.eq_iff_iff.2;simp only[LD,decide_eq_true_eq];constructor
 ·rintro ⟨⟨⟨⟨⟨⟨⟨h1,h2⟩,h3⟩,h4⟩,h5⟩,h6⟩,h7⟩,h8⟩;exact ⟨h1,h2,h3,h4,by omega,by omega,by omega,h8⟩
 ·rintro ⟨h1,h2,h3,h4,h5,h6,h7,h8⟩;exact ⟨⟨⟨⟨⟨⟨⟨h1,h2⟩,h3⟩,h4⟩,by omega⟩,by omega⟩,by omega⟩,h8⟩
theorem ajj (h:Hd) (hr:h.right) (ho:h.ok):Nc.holds Tryz.prog (fun r=>r=[(aV,B h.bytes)]) [] [nD h]:=by
 have:=hr;obtain ⟨h1,h2,h3⟩:=this;obtain ⟨o1,o2,o3,o4⟩:=ho;have p2:∀v:Nat,v<65536→kI v 2=aJ 2 v:=fun v hv=>by rw[kI,if_pos (by rw[yM];simp;omega)];rfl
 have p4:∀v:Nat,v<4294967296→kI v 4=aJ 4 v:=fun v hv=>by rw[kI,if_pos (by rw[yM];simp;omega)];rfl
 have w1:∀v:Nat,v<4294967296→IntKind.u64.wrap (v:Int)=(v:Int):=fun v hv=>by rw[qD];omega
 simp only[Nc,aF,aC,aB,au,aD,forall_const,List.length_map];rw[w1 _ (by omega),w1 _ o2,w1 _ o3];refine ⟨by omega,fun _=>by omega,fun _=>by split<;>omega,fun _=>by omega,_,yj _ 2 (by omega),?_⟩;rw[p2 _ o1];refine ⟨by simp,_,yj _ 4 (by omega),?_⟩;rw[p4 _ o2];refine ⟨by simp,_,yj _ 4 (by omega),?_⟩;rw[p4 _ o3];refine ⟨by simp,?_⟩;refine VC.go_loop (fun i:Nat=> [B ((UInt8.ofNat h.first::UInt8.ofNat h.second::aJ 2 h.seq)++aJ 4 h.time++aJ 4 h.aH++words (h.aI.take i)),.int i]) (fun i=>i≤h.aI.length) (fun i=>h.aI.length-i) 0 ?_ (Nat.zero_le _) fun i hi=>?_
 ·simp only[aC,aB,au,aD,forall_const,List.length_map];have f1:(if h.ext=true then (if h.pad=true then (128:Int)+h.aI.length+32 else 128+h.aI.length)+16 else if h.pad=true then (128:Int)+h.aI.length+32 else 128+h.aI.length)=(h.first:Int):=by
   simp only[Hd.first];cases h.pad<;>cases h.ext<;>simp<;>omega
  have f2:(if h.mark=true then h.typ+128 else h.typ)=(h.second:Int):=by
   simp only[Hd.second];cases h.mark<;>simp<;>omega
  rw[f1,f2,jU,jU];simp[words,ofBytes]
 ·simp only[aF,aC,aB,au,aD,forall_const,List.length_map];have hwl:=Hz (h.aI.take i);rw[List.length_take] at hwl;refine ⟨fun hc=>⟨by omega,by omega,?_⟩,fun hc=>?_⟩
  ·have hm:=o4 _ (VH (show i<h.aI.length by omega));rw[Int.toNat_natCast,DV _ _ (by omega),bL,w1 _ hm];refine ⟨_,yj _ 4 (by omega),?_⟩;rw[p4 _ hm];refine ⟨by simp[hwl];omega,by omega,i+1,?_,by omega,by omega⟩;rw[Tm _ _ (by omega)];simp[ofBytes]
  ·rw[List.take_of_length_le (by omega)];simp[Hd.bytes]
theorem ad4 (b:List UInt8) (hb:b.length≤100000000):PC Tryz.prog OA [(aV,B b)] [(aV,B (CS b))]:=by
 apply abd rfl;simp only[Nz,aF,aC,aB,au,aD,forall_const,bC];refine ⟨by omega,?_⟩;refine VC.go_loop (fun j:Nat=> [B (b++List.replicate j 0)]) (fun j=>j≤(4-b.length%4)%4) (fun j=>4-j) 0 (by simp[E.eval]) (Nat.zero_le _) fun j hj=>?_;have hl:(b++List.replicate j 0).length=b.length+j:=by simp
 simp only[aF,aC,aB,au,aD,forall_const,bC,hl,Zu _ (show b.length+j<9223372036854775807 by omega),List.length_cons,List.length_nil];refine ⟨fun hc=>⟨by omega,j+1,?_,by omega,by omega⟩,fun hc=>?_⟩
 ·have: [C.int 0]=ofBytes [0]:=rfl;rw[this,lI,List.append_assoc,List.replicate_succ']
 ·have:j=(4-b.length%4)%4:=by omega
  rw[this];rfl
theorem O5 (l:List El) (hl:l.length≤1000000):PC Tryz.prog MQ [(.sl gM,dV l)] [(U16,.int (mI l:Nat))]:=by
 apply aaC rfl;simp only[MI,aF,aC,aB,au,aD,forall_const,List.length_map];refine ⟨_,Hf l hl,?_⟩;simp only[aC,aB,au,aD,forall_const];refine ⟨fun h=>?_,fun h=>?_⟩
 ·have h:¬eF l:=by simpa using h
  rw[show mI l=0 from if_neg h];rfl
 ·have h:eF l:=by simpa using h
  have hmem:=vV h;refine VC.go_loop (fun i:Nat=> [.int 0,.int (i:Int)]) (fun i=>i≤l.length∧∀e∈l.take i,fM true e) (fun i=>l.length-i) 0 rfl ⟨Nat.zero_le _,by simp⟩ fun i hi=>?_;obtain ⟨i1,i2⟩:=hi;simp only[aF,aC,aB,au,aD,forall_const,List.length_map];refine ⟨fun hc=>?_,fun hc=>?_⟩
  ·have hk:i<l.length:=by omega
   have hm:=r9 hk;have hm2:=hmem _ hm;have ht:=uD l i hk;rw[kF l i hk];generalize l.getD i El.zero=e at hm ht hm2;simp only[eT,gQ,bL,dY,bC];refine ⟨by omega,by omega,fun _=>by omega,fun _=>by omega,fun _=>by omega,fun _=>by omega,fun h=>?_,fun h=>⟨by omega,i+1,by simp,⟨by omega,?_⟩,by omega⟩⟩
   ·have hn:nH l=false:=decide_eq_false fun hall=>by
     have:=tO (hall e hm);omega
    rw[DN ‹eF l›,hn];rfl
   ·rw[ht];intro x hx;rcases List.mem_append.1 hx with hx|hx
    ·exact i2 x hx
    ·rw[List.mem_singleton] at hx;subst hx;simp only[fM,if_true];omega
  ·have he:i=l.length:=by omega
   rw[he,List.take_length] at i2;have hn:nH l=true:=decide_eq_true i2;rw[DN ‹eF l›,hn];rfl
theorem adp (l:List El) (hl:l.length≤10000) (hr:eF l):PC Tryz.prog NT [(.sl gM,dV l)] [(aV,B (nJ l))]:=by
 apply aaP rfl;simp only[M5,aF,aC,aB,au,aD,forall_const,List.length_map];have hp:=DN hr;have hfit:=(A9 hr).1;unfold nJ;generalize hn:nH l=aj at hfit hp;refine VC.go_loop (fun i:Nat=> [B (kY aj (l.take i)),.int (i:Int)]) (fun i=>i≤l.length) (fun i=>l.length-i) 0 (by simp[E.eval,kY,ofBytes]) (Nat.zero_le _) fun i hi=>?_;have hlen:=Q9 (aj:=aj) hr i hi;simp only[aF,aC,aB,au,aD,forall_const,List.length_map,bC,List.length_cons,List.length_nil];refine ⟨fun hc=>?_,fun hc=>?_⟩
 ·have hk:i<l.length:=by omega
  have hm:=hfit _ (r9 hk);have hm2:=vV hr _ (r9 hk);have ht:=uD l i hk;rw[kF l i hk];generalize l.getD i El.zero=e at hm ht hm2;refine ⟨by omega,by omega,_,O5 l (by omega),?_⟩;simp only[aC,aB,au,aD,forall_const,bC];rw[hp];refine ⟨fun h1=>?_,fun h1=>?_⟩
  ·have hnar:aj=true:=by
    unfold wP at h1;cases aj
    ·simp at h1
    ·rfl
   subst hnar;refine ⟨by omega,by omega,by omega,by omega,by omega,by omega,by omega,by omega,by omega,by omega,i+1,?_,by omega,by omega⟩;rw[List.append_assoc,aic hm,lI,ht,Ej];simp
  ·have hnar:aj=false:=by
    unfold wP at h1;cases aj
    ·rfl
    ·simp at h1
   subst hnar;refine ⟨by omega,by omega,by omega,by omega,by omega,by omega,by omega,i+1,?_,by omega,by omega⟩;rw[List.append_assoc,V6 hm2,lI,ht,Ej];simp
 ·have hi2:i=l.length:=by omega
  rw[hi2,List.take_length] at hlen ⊢;exact ⟨_,ad4 (kY aj l) (by omega),rfl⟩
structure ak2 where
 p:Nat
 out:List Sp
theorem TB {l:List Sp} {i:Nat} (h:i≤l.length) {x:Nat}:(∀j,j<l.length→(l.getD j Sp.zero).id≠x)→¬x∈iE l:=by
 intro hj hm;obtain ⟨s,hs,hsx⟩:=List.mem_map.1 hm;obtain ⟨j,hj2,rfl⟩:=List.getElem_of_mem hs;refine hj j hj2 ?_;rw[←hsx];simp[List.getD,hj2]
theorem He (q : Nat) (hq : q < 65536) (b : List UInt8) (hb : b.length ≤ 1000000) : PC Tryz.prog NU [(U16, .int (q : Int)), (aV, B b)] [(.sl sM, oU (spots q b).1), (I64, .int (spots q b).2)] := by
  apply aaQ rfl;have akP : arith .quo .u16 (q : Int) 16 = ((q / 16 : Nat) : Int) := by rw [EI _ _ _ (by omega), za]; omega
  simp only [M6, aF, aC, aB, au, aD, forall_const, akP, bC];refine ⟨fun h => ?_, fun h => ?_⟩
  · have : spots q b = ([], 6) := by unfold spots; rw [if_neg (by omega), if_neg (by omega)]
    rw [this]; rfl
  · obtain ⟨aj, hpr⟩ : ∃ aj, kV aj q := by
      by_cases h1 : q = 48862
      · exact ⟨true, by simp [kV, h1]⟩
      · exact ⟨false, by simp only [kV, Bool.false_eq_true, if_false]; omega⟩
    rw [ahy hpr];refine VC.go_loop (fun s : ak2 => [.ls [], .int 0, oU s.out, .int (s.p : Int)]) (fun s => s.p ≤ b.length ∧ wk aj b 0 [] = wk aj b s.p s.out ∧ s.out.length ≤ s.p) (fun s => b.length - s.p) ⟨0, []⟩ (by simp [E.eval]) ⟨Nat.zero_le _, rfl, Nat.le_refl _⟩ fun s hs => ?_;obtain ⟨i1, i2, i3⟩ := hs;have hx := fF b s.p;have hy := fF b (s.p + 1);have Am := yY aj b s.p;have hw : IntKind.i64.wrap ((at_ b s.p : Nat) : Int) = ((at_ b s.p : Nat) : Int) := kS (by omega);have hw2 : IntKind.i64.wrap ((at_ b (s.p + 1) : Nat) : Int) = ((at_ b (s.p + 1) : Nat) : Int) := kS (by omega);have Zw : arith .rem .i64 ((at_ b s.p : Nat) : Int) 16 = ((at_ b s.p % 16 : Nat) : Int) := by rw [BA _ _ _ (by omega)]; omega
    have Zz : arith .quo .i64 ((at_ b s.p : Nat) : Int) 16 = ((at_ b s.p / 16 : Nat) : Int) := by rw [EI _ _ _ (by omega), kS (by omega)]; omega
    have hi1 : ((s.p : Int) + 1).toNat = s.p + 1 := by omega
    simp only [aF, aC, aB, au, aD, forall_const, bC, jg, Int.toNat_natCast, lG, hw, Zw, Zz, hi1, hw2];have inner : ∀ (sp : Sp), sp = bB aj b s.p → s.p < b.length → ¬ at_ b s.p = 0 → ¬ (aj = true ∧ (at_ b s.p / 16 = 15 ∨ at_ b s.p / 16 = 0)) → ¬ (aj = false ∧ b.length ≤ s.p + 1) → ¬ b.length < sp.pos + sp.size →
        (sp.id ∈ iE s.out → wk aj b 0 [] = ([], 6)) ∧ (¬ sp.id ∈ iE s.out → sp.pos + sp.size ≤ b.length ∧ wk aj b 0 [] = wk aj b (sp.pos + sp.size) (s.out ++ [sp]) ∧ (s.out ++ [sp]).length ≤ sp.pos + sp.size ∧ b.length - (sp.pos + sp.size) < b.length - s.p) := by
      rintro sp rfl a1 a2 a3 a4 a5;refine ⟨fun h => ?_, fun h => ⟨by omega, ?_, ?_, by omega⟩⟩
      · rw [i2, yV a1 a2 a3 a4 a5 h]
      · rw [i2, wk_step a1 a2 a3 a4 a5 h]
      · simp; omega
    refine ⟨fun hc => ⟨by omega, by omega, fun hz => ?_, fun hz => ⟨by omega, fun h1 => ?_, fun h1 => ?_⟩⟩, fun hc => ?_⟩
    · refine ⟨by omega, ⟨s.p + 1, s.out⟩, by simp, ⟨by simp only; omega, ?_, by simp only; omega⟩, by simp only; omega⟩
      rw [i2, wz (by omega) (by omega)]
    · have hnar : aj = true := by
        cases aj
        · simp only [kV, Bool.false_eq_true, if_false] at hpr; omega
        · rfl
      subst hnar;refine ⟨by omega, by omega, fun h2 => ?_, fun h2 => ⟨by omega, fun h3 => ?_, fun h3 => ?_⟩⟩
      · rw [i2, zf (by omega) (by omega) ⟨rfl, by omega⟩]
      · rw [i2, wB (by omega) (by omega) (by simp; omega) (by simp) (by simp [bB]; omega)]
        rfl
      · obtain ⟨n1, n2⟩ := inner ⟨at_ b s.p / 16, s.p + 1, at_ b s.p % 16 + 1⟩ rfl (by omega) (by omega) (by simp; omega) (by simp) (by simp only; omega)
        simp only at n1 n2;refine VC.go_loop (fun k : Nat => [.ls [], .int 0, .int (k : Int)]) (fun k => k ≤ s.out.length ∧ ∀ j, j < k → (s.out.getD j Sp.zero).id ≠ at_ b s.p / 16) (fun k => s.out.length - k) 0 rfl ⟨Nat.zero_le _, fun j hj => absurd hj (Nat.not_lt_zero j)⟩ fun k hk => ?_;obtain ⟨k1, k2⟩ := hk;simp only [aF, aC, aB, au, aD, forall_const, List.length_map, List.length_cons, List.length_nil, jg, Int.toNat_natCast, lG, hw, Zw, Zz];refine ⟨fun hc2 => ?_, fun hc2 => ?_⟩
        · have hg := zh s.out k (by omega)
          rw [Int.toNat_natCast] at hg;rw [hg];simp only [eT, bL];refine ⟨by omega, by omega, fun h4 => ?_, fun h4 => ⟨by omega, k + 1, by simp, ⟨by omega, fun j hj => ?_⟩, by omega⟩⟩
          · have : at_ b s.p / 16 ∈ iE s.out := List.mem_map.2 ⟨_, FB (show k < s.out.length by omega), by omega⟩
            rw [n1 this]; rfl
          · by_cases hjk : j = k
            · rw [hjk]; omega
            · exact k2 j (by omega)
        · obtain ⟨m1, m2, m3, m4⟩ := n2 (TB (Nat.le_refl _) fun j hj => k2 j (by omega))
          refine ⟨by omega, by omega, ⟨_, _⟩, ?_, ⟨m1, m2, m3⟩, m4⟩;simp only [oU, List.map_append, List.map_cons, List.map_nil];rw [show (s.p : Int) + 1 = ((s.p + 1 : Nat) : Int) by omega, show ((at_ b s.p % 16 : Nat) : Int) + 1 = ((at_ b s.p % 16 + 1 : Nat) : Int) by omega, ← Int.natCast_add]
    · have hnar : aj = false := by
        cases aj
        · rfl
        · simp only [kV, if_true] at hpr; omega
      subst hnar;refine ⟨by omega, fun h2 => ?_, fun h2 => ⟨by omega, by omega, by omega, by omega, fun h3 => ?_, fun h3 => ?_⟩⟩
      · rw [i2, BF (by omega) (by omega) (by simp) ⟨rfl, by omega⟩]
        rfl
      · rw [i2, wB (by omega) (by omega) (by simp) (by simp; omega) (by simp [bB]; omega)]
        rfl
      · obtain ⟨n1, n2⟩ := inner ⟨at_ b s.p, s.p + 2, at_ b (s.p + 1)⟩ rfl (by omega) (by omega) (by simp) (by simp; omega) (by simp only; omega)
        simp only at n1 n2;refine VC.go_loop (fun k : Nat => [.ls [], .int 0, .int (k : Int)]) (fun k => k ≤ s.out.length ∧ ∀ j, j < k → (s.out.getD j Sp.zero).id ≠ at_ b s.p) (fun k => s.out.length - k) 0 rfl ⟨Nat.zero_le _, fun j hj => absurd hj (Nat.not_lt_zero j)⟩ fun k hk => ?_;obtain ⟨k1, k2⟩ := hk;simp only [aF, aC, aB, au, aD, forall_const, List.length_map, List.length_cons, List.length_nil, jg, Int.toNat_natCast, lG, hw, hi1, hw2];refine ⟨fun hc2 => ?_, fun hc2 => ?_⟩
        · have hg := zh s.out k (by omega)
          rw [Int.toNat_natCast] at hg;rw [hg];simp only [eT, bL];refine ⟨by omega, by omega, fun h4 => ?_, fun h4 => ⟨by omega, k + 1, by simp, ⟨by omega, fun j hj => ?_⟩, by omega⟩⟩
          · have : at_ b s.p ∈ iE s.out := List.mem_map.2 ⟨_, FB (show k < s.out.length by omega), by omega⟩
            rw [n1 this]; rfl
          · by_cases hjk : j = k
            · rw [hjk]; omega
            · exact k2 j (by omega)
        · obtain ⟨m1, m2, m3, m4⟩ := n2 (TB (Nat.le_refl _) fun j hj => k2 j (by omega))
          refine ⟨by omega, by omega, ⟨_, _⟩, ?_, ⟨m1, m2, m3⟩, m4⟩;simp only [oU, List.map_append, List.map_cons, List.map_nil];rw [show (s.p : Int) + 2 = ((s.p + 2 : Nat) : Int) by omega, ← Int.natCast_add]
    · rw [i2, qH (by omega)]
theorem ad1 (q:Nat) (hq:q<65536) (b:List UInt8) (hb:b.length≤1000000):PC Tryz.prog Ou [(U16,.int (q:Int)),(aV,B b)] [(.sl gM,dV (iC q b)),(I64,.int (spots q b).2)]:=by
 obtain ⟨g1,g2,_⟩:=jS q b;have g3:=vN q b;apply aa5 rfl;simp only[Nr,aF,aC,aB,au,aD,forall_const];refine ⟨_,_,He q hq b hb,?_⟩;unfold iC;generalize (spots q b).1=l at g1 g2 g3;refine VC.go_loop (fun i:Nat=> [dV ((l.take i).map (dQ b)),.int (i:Int)]) (fun i=>i≤l.length) (fun i=>l.length-i) 0 rfl (Nat.zero_le _) fun i hi=>?_;simp only[aF,aC,aB,au,aD,forall_const,List.length_map,bC,List.length_cons,List.length_nil,List.length_take];refine ⟨fun hc=>?_,fun hc=>?_⟩
 ·have hk:i<l.length:=by omega
  have hm:=g1 _ (FB hk);have ht:=Ta b l i hk;rw[zh l i hk];generalize l.getD i Sp.zero=s at hm ht;have hcut:=YJ b s hm;simp only[eT,gQ,bL,dY,hcut];have akx:List.drop ((s.pos:Int)).toNat (List.take ((s.pos:Int)+(s.size:Int)).toNat (ofBytes b))=ofBytes (dQ b s).data:=by
   have:=congrArg C.toList hcut;exact this
  have hdl:(dQ b s).data.length=s.size:=by unfold dQ;simp;omega
  rw[akx];simp only[bC,List.nil_append];refine ⟨by omega,by omega,by omega,by omega,by omega,by omega,by omega,by omega,by omega,by omega,by omega,by omega,by omega,by omega,by omega,i+1,?_,by omega,by omega⟩;rw[ht];simp only[dV,List.map_append,List.map_cons,List.map_nil];rfl
 ·rw[show i=l.length by omega,List.take_length]
end Go.Vc
set_option maxRecDepth 100000
namespace Go.Vc
open Go Go.Proofs Go.Plain
theorem Rc (b:List UInt8) (n:Nat) (h1:1≤n) (h2:n≤255) (hb:b.length≤1000000):PC Tryz.prog OO [(aV,B b),(I64,.int n)] [(aV,B (b++trail n))]:=by
 apply abp rfl;simp only[Oi,aF,aC,aB,au,aD,forall_const,bC];refine ⟨by omega,?_⟩;refine VC.go_loop (fun i:Nat=> [B (b++List.replicate (i-1) 0),.int (i:Int)]) (fun i=>1≤i∧i≤n) (fun i=>n-i) 1 (by simp[E.eval]) ⟨Nat.le_refl _,h1⟩ fun i hi=>?_;simp only[aF,aC,aB,au,aD,forall_const,bC,List.length_append,List.length_replicate,List.length_singleton];refine ⟨fun hc=>⟨by omega,by omega,i+1,?_,⟨by omega,by omega⟩,by omega⟩,fun hc=>⟨by omega,?_⟩⟩
 ·have e:i+1-1=(i-1)+1:=by omega
  rw[e,List.replicate_succ',←List.append_assoc];have q:=lI (b++List.replicate (i-1) 0) [0];have q2:C.int ((i:Int)+1)=C.int ((i+1:Nat):Int):=by simp
  rw[q2];exact congrArg (fun x=> [C.ls x,C.int ((i+1:Nat):Int)]) q
 ·have e:i=n:=by omega
  subst e;unfold trail;rw[if_neg (by omega),jU,←List.append_assoc];have q:=lI (b++List.replicate (i-1) 0) [UInt8.ofNat i];exact congrArg (fun x=> [(aV,C.ls x)]) q
theorem PS (b:List UInt8) (hb:b.length≤1000000):PC Tryz.prog N9 [(aV,B b)] [(I64,.int (dF b:Nat))]:=by
 apply aaX rfl;simp only[Ng,aF,aC,aB,au,aD,forall_const,bC];refine ⟨fun h=>?_,fun h=>⟨by omega,by omega,by omega,?_⟩⟩
 ·unfold dF;rw[if_pos (by omega)];rfl
 ·have e:((b.length:Int)-1).toNat=b.length-1:=by omega
  have hx:=fF b (b.length-1);rw[e,jg,bL,lG,yQ _ (by omega)];unfold dF;rw[if_neg (by omega)];refine ⟨fun h2=>?_,fun h2=>?_⟩
  ·rw[if_pos (by omega)];rfl
  ·split
   ·have:at_ b (b.length-1)=0:=by omega
    rw[this]
   ·rfl
def Ga (k:Pk):Int:=let n:=12+4*(k.hd.aI.length:Int)+k.pay.length;let m:=if k.hd.ext=true then n+4+k.ext.length else n;if k.hd.pad=true then m+k.pad else m
theorem ad2 (k:Pk) (hc:k.hd.aI.length≤1000000) (hb:k.ext.length≤1000000) (hp:k.pay.length≤1000000) (hd:k.pad≤1000000):PC Tryz.prog Ov [(gU,fP k)] [(I64,.int (Ga k))]:=by
 apply aa6 rfl;simp only[Nt,aF,aC,aB,au,aD,forall_const,bC,List.length_map];unfold Ga;cases k.hd.ext<;>cases k.hd.pad<;>simp<;>omega
theorem AL (k:Pk) (hc:k.hd.aI.length≤1000000) (hb:k.ext.length≤1000000) (hp:k.pay.length≤1000000) (hd:k.pad≤1000000) (hq:k.ak<65536):PC Tryz.prog NZ [(gU,fP k)] [(.bool,.bool (decide k.right))]:=by
 apply aaU rfl;simp only[Na,aF,aC,aB,au,aD,forall_const,bC,List.length_map];refine ⟨_,abj k.hd,?_⟩;have key:k.right↔k.hd.right∧k.pay.length≤65535∧k.ext.length≤262140∧k.ext.length%4=0∧(k.hd.ext=false→k.ak=0∧k.ext.length=0)∧(if k.hd.pad then 1≤k.pad∧k.pad≤255 else k.pad=0)∧Ga k≤65535:=by
  unfold Pk.right Pk.fits Pk.sum Ga;have he:k.ext=[]↔k.ext.length=0:=by simp
  rw[he];generalize k.ext.length=el;by_cases g:k.hd.right
  ·simp only[g,true_and];cases k.hd.ext<;>cases k.hd.pad<;>simp<;>omega
  ·simp[g]
 have em:arith .rem .i64 (k.ext.length:Int) 4=((k.ext.length%4:Nat):Int):=by
  rw[BA _ _ _ (by omega)];omega
 rw[em];have q:=ad2 k hc hb hp hd;by_cases g1:k.hd.right
 ·refine ⟨fun h=>?_,fun h=>⟨fun h2=>?_,fun h2=>⟨fun h3=>?_,fun h3=>⟨_,q,?_⟩⟩⟩⟩
  ·have:¬k.right:=fun hr=>by
    obtain ⟨_,a1,a2,a3,_⟩:=key.1 hr;simp only[gH,decide_eq_false_iff_not,g1,not_true_eq_false,false_or] at h;omega
   simp[this]
  ·have:¬k.right:=fun hr=>by
    obtain ⟨_,a1,a2,a3,a4,_⟩:=key.1 hr;obtain ⟨hx,h2⟩:=h2;obtain ⟨z1,z2⟩:=a4 hx;omega
   simp[this]
  ·have:¬k.right:=fun hr=>by
    obtain ⟨_,a1,a2,a3,a4,a5,_⟩:=key.1 hr;cases hx:k.hd.pad<;>simp[hx] at h3 a5<;>omega
   simp[this]
  ·congr 3
   rw[bL,decide_eq_decide,key];simp only[gH,decide_eq_false_iff_not,g1,not_true_eq_false,not_false_eq_true,true_and,false_or,not_or] at h;constructor
   ·intro hs;have ⟨⟨t1,t2⟩,t3⟩:(k.pay.length≤65535∧k.ext.length≤262140)∧k.ext.length%4=0:=by
     obtain ⟨⟨t1,t2⟩,t3⟩:=h;exact ⟨⟨by omega,by omega⟩,by omega⟩
    refine ⟨g1,t1,t2,t3,fun hx=>?_,?_,hs⟩
    ·rcases h2 with h2|h2
     ·exact absurd hx h2
     ·exact ⟨by omega,by omega⟩
    ·cases hx:k.hd.pad<;>simp[hx] at h3 ⊢ <;>omega
   ·intro hs;exact hs.2.2.2.2.2.2
 ·have:¬k.right:=fun hr=>g1 (key.1 hr).1;refine ⟨fun h=>by simp[this],fun h=>?_⟩;exfalso;simp[g1] at h
theorem acT (h:Hd) (hr:h.right) (ho:h.ok):PC Tryz.prog NJ [(rD,nD h)] [(aV,B h.bytes)]:=aa0 rfl (ajj h hr ho)
theorem adq (k:Pk) (hr:k.right) (ho:k.ok):PC Tryz.prog NY [(gU,fP k)] [(aV,B k.bytes)]:=by
 have p2:∀v:Nat,v<65536→kI v 2=aJ 2 v:=fun v hv=>by rw[kI,if_pos (by rw[yM];simp;omega)];rfl
 have hr2:=hr;obtain ⟨⟨g1,g2,g3,g4,g5⟩,g6⟩:=hr2;have hh:=Hd.tJ k.hd;have hs:=g6;unfold Pk.sum at hs;apply aaT rfl;simp only[M9,aF,aC,aB,au,aD,forall_const,bC];have e1:IntKind.u64.wrap (k.ak:Int)=(k.ak:Int):=by rw[qD];have:=ho.2;omega
 have eq:arith .quo .i64 (k.ext.length:Int) 4=((k.ext.length/4:Nat):Int):=by
  rw[EI _ _ _ (by omega),kS (by omega)];omega
 have e2:IntKind.u64.wrap (((k.ext.length/4:Nat):Int))=((k.ext.length/4:Nat):Int):=by rw[qD];omega
 refine ⟨_,acT k.hd g1 ho.1,fun hx=>?_,fun hx=>?_⟩
 ·have hx:k.hd.ext=true:=hx;rw[hx,if_pos rfl] at hs;rw[e1,eq,e2];refine ⟨_,yj k.ak 2 (by have:=ho.2;omega),?_⟩;rw[p2 _ ho.2];refine ⟨by simp[hh];omega,_,yj (k.ext.length/4) 2 (by omega),?_⟩;rw[p2 _ (by omega)];have eb:k.hd.bytes++aJ 2 k.ak++aJ 2 (k.ext.length/4)++k.ext++k.pay++trail k.pad=k.bytes:=by
   unfold Pk.bytes dL jd;rw[if_pos hx];simp
  simp only[dY,lI,bC,List.length_append,iZ];refine ⟨by omega,by omega,by omega,fun hp=>?_,fun hp=>?_⟩
  ·have hp:k.hd.pad=true:=hp;rw[hp,if_pos rfl] at g5;have:=Rc (k.hd.bytes++aJ 2 k.ak++aJ 2 (k.ext.length/4)++k.ext++k.pay) k.pad g5.1 g5.2 (by simp;omega);rw[eb] at this;exact ⟨_,this,rfl⟩
  ·have hp:k.hd.pad=false:=hp;rw[hp] at g5;simp at g5;rw[g5] at eb;simp only[trail,if_pos,List.append_nil] at eb;rw[eb]
 ·have hx:k.hd.ext=false:=hx;rw[hx] at hs;have eb:k.hd.bytes++k.pay++trail k.pad=k.bytes:=by
   unfold Pk.bytes dL jd;rw[hx];simp
  simp only[dY,lI,bC];refine ⟨by simp at hs;omega,fun hp=>?_,fun hp=>?_⟩
  ·have hp:k.hd.pad=true:=hp;rw[hp,if_pos rfl] at g5;have:=Rc (k.hd.bytes++k.pay) k.pad g5.1 g5.2 (by simp at hs ⊢;omega);rw[eb] at this;exact ⟨_,this,rfl⟩
  ·have hp:k.hd.pad=false:=hp;rw[hp] at g5;simp at g5;rw[g5] at eb;simp only[trail,if_pos,List.append_nil] at eb;rw[eb]
theorem ad3 (a b:Pk) (ha:a.hd.aI.length≤1000000):PC Tryz.prog Ow [(gU,fP a),(gU,fP b)] [(.bool,.bool (decide (a=b)))]:=by
 apply aa7 rfl;simp only[Nu,aF,aC,aB,au,aD,forall_const,yx];refine ⟨_,abt a.hd b.hd (by omega),?_⟩;congr 3
 obtain ⟨a1,a2,a3,a4,a5⟩:=a;obtain ⟨b1,b2,b3,b4,b5⟩:=b;simp only[Pk.mk.injEq];rw[Bool.eq_iff_iff];simp;constructor
 ·rintro ⟨⟨⟨⟨h1,h2⟩,h3⟩,h4⟩,h5⟩;exact ⟨h1,by omega,h3,h4,by omega⟩
 ·rintro ⟨h1,h2,h3,h4,h5⟩;exact ⟨⟨⟨⟨h1,by omega⟩,h3⟩,h4⟩,by omega⟩
end Go.Vc
set_option maxRecDepth 100000
namespace Go.Vc
open Go Go.Proofs Go.Plain
theorem Xy (b:List UInt8) (lo hi:Nat):(b.take hi).drop lo=(b.drop lo).take (hi-lo):=by rw[List.drop_take]
theorem ai1 (b:List UInt8) (lo n:Nat) (h:lo≤b.length):((b.take (b.length-n)).drop lo)=(b.drop lo).take ((b.drop lo).length-n):=by
 rw[Xy,List.length_drop,show b.length-n-lo=b.length-lo-n by omega]
theorem AQ (b:List UInt8) (hb:b.length≤1000000):PC Tryz.prog Ox [(aV,B b)] [(gU,fP (eB b)),(I64,.int (aZ b))]:=by
 apply aa8 rfl;simp only[Nv,aF,aC,aB,au,aD,forall_const,bC];refine ⟨fun h=>?_,fun h=>?_⟩
 ·have e:aZ b=4:=by unfold aZ;rw[if_pos (by omega)]
  rw[(om e (by decide)).1,e]
 refine ⟨_,_,_,abu b (by omega),fun he=>?_,fun he=>?_⟩
 ·have he:fu b≠0:=he;have e:aZ b=fu b:=by unfold aZ;rw[if_neg (by omega),if_pos he]
  rw[(om e he).1,e]
 have he:fu b=0:=he;have hz:=uj.1 he;have hN:hdN b=12+4*(at_ b 0%16):=by unfold hdN;rw[if_pos he]
 have hH:rG b=Hd.of b:=by unfold rG;rw[if_pos he]
 have h65:¬65535<b.length:=by omega
 have hE:aZ b=if (Hd.of b).ext=true∧(b.length<hdN b+4∨b.length<hdN b+4+4*num b (hdN b+2) 2) then 2 else if (Hd.of b).pad=true∧dF (bS b)=0 then 5 else 0:=by
  unfold aZ;rw[if_neg h65,if_neg (fun h=>h he)]
 have hNl:hdN b≤b.length:=by omega
 rw[hH];clear hH hz hN;generalize hX:hdN b=X at hE hNl;simp only[bL];have tl:(b.length:Int).toNat=b.length:=by omega
 have t0:∀n:Nat,((b.length:Int)-(n:Int)).toNat=b.length-n:=fun n=>by omega
 have tz:((b.length:Int)-0).toNat=b.length-0:=by omega
 have key:∀(lo:Nat) (ex:List UInt8) (pr:Nat) (hlo:lo≤b.length) (hL:bS b=b.drop lo) (he:aL b= {hd:=Hd.of b,ak:=pr,ext:=ex,pay:=(bS b).take ((bS b).length-dB b),pad:=dB b})
   (hno:¬((Hd.of b).ext=true∧(b.length<X+4∨b.length<X+4+4*num b (X+2) 2))),
   (dF (b.drop lo)=0→(Hd.of b).pad=true→aZ b=5)∧(((Hd.of b).pad=true→dF (b.drop lo)≠0)→aZ b=0∧
    fP (eB b)= .ls [nD (Hd.of b),.int (pr:Nat),B ex,B ((b.take (b.length-(if (Hd.of b).pad then dF (b.drop lo) else 0))).drop lo),.int ((if (Hd.of b).pad then dF (b.drop lo) else 0:Nat):Int)]):=by
  intro lo ex pr hlo hL hr hno;have hp:dB b=if (Hd.of b).pad then dF (b.drop lo) else 0:=by unfold dB;rw[hL]
  refine ⟨fun h0 h1=>by rw[hE,if_neg hno,if_pos ⟨h1,by rw[hL];exact h0⟩],fun h0=>?_⟩;have e:aZ b=0:=by rw[hE,if_neg hno,if_neg (fun hh=>h0 hh.1 (by rw[←hL];exact hh.2))]
  refine ⟨e,?_⟩;unfold eB;rw[if_pos e,hr,hp,hL,ai1 b lo _ hlo]
 refine ⟨fun hx=>⟨by omega,fun hs=>?_,fun hs=>?_⟩,fun hx=>?_⟩
 ·have hx:(Hd.of b).ext=true:=hx;have e:aZ b=2:=by rw[hE,if_pos ⟨hx,by omega⟩]
  rw[(om e (by decide)).1,e]
 ·have hx:(Hd.of b).ext=true:=hx;have c2:(X:Int)+2=((X+2:Nat):Int):=by omega
  have hl2:=oo b (X+2) 2;have hl0:=oo b X 2;have w4:IntKind.i64.wrap ((num b (X+2) 2:Nat):Int)=((num b (X+2) 2:Nat):Int):=yQ _ hl2;have w5:IntKind.u16.wrap ((num b X 2:Nat):Int)=((num b X 2:Nat):Int):=by rw[za];omega
  rw[c2];refine ⟨by omega,_,yu b (X+2) 2 (by omega) (by omega) (by omega),?_⟩;simp only[bL,w4];generalize hwn:num b (X+2) 2=wn at hl2 key hE;refine ⟨by omega,by omega,by omega,fun hs2=>?_,fun hs2=>?_⟩
  ·have e:aZ b=2:=by rw[hE,if_pos ⟨hx,by omega⟩]
   rw[(om e (by decide)).1,e]
  ·have hno:¬((Hd.of b).ext=true∧(b.length<X+4∨b.length<X+4+4*wn)):=fun hh=>by
    have:=hh.2;omega
   have c4:((X:Int)+4).toNat=X+4:=by omega
   have c5:((X:Int)+4+4*(wn:Int)).toNat=X+4+4*wn:=by omega
   have hL:bS b=b.drop (X+4+4*wn):=by
    unfold bS;rw[if_pos hx,hX,hwn,List.drop_drop]
   have hr:aL b= {hd:=Hd.of b,ak:=num b X 2,ext:=(b.take (X+4+4*wn)).drop (X+4),pay:=(bS b).take ((bS b).length-dB b),pad:=dB b}:=by
    unfold aL;rw[if_pos hx,if_pos hx,hX,hwn,Xy,show X+4+4*wn-(X+4)=4*wn by omega]
   obtain ⟨k1,k2⟩:=key _ _ _ (by omega) hL hr hno;refine ⟨_,yu b X 2 (by omega) (by omega) (by omega),?_⟩;simp only[bL,w5,c4,c5,tl,AZ,yD,bC,List.take_length];have hdl:((b.take (X+4+4*wn)).drop (X+4)).length≤1000000:=by simp;omega
   refine ⟨by omega,by omega,by omega,by omega,by omega,by omega,by omega,by omega,by omega,fun hp=>⟨by omega,by omega,by omega,_,PS _ (by simp;omega),fun h0=>?_,fun h0=>?_⟩,fun hp=>?_⟩
   ·have e:=k1 (by have h0:((dF (b.drop (X+4+4*wn)):Nat):Int)=0:=h0;omega) hp;rw[(om e (by decide)).1,e]
   ·have hp:(Hd.of b).pad=true:=hp;have h0:((dF (b.drop (X+4+4*wn)):Nat):Int)≠0:=h0;obtain ⟨e,q⟩:=k2 fun _=>by omega
    have:=(Cb (b.drop (X+4+4*wn))).1;rw[List.length_drop] at this;rw[q,e,if_pos hp];simp only[bL,t0];refine ⟨by omega,by omega,by omega,by omega,by simp;omega,rfl⟩
   ·have hp:(Hd.of b).pad=false:=hp;obtain ⟨e,q⟩:=k2 fun h=>by rw[hp] at h;cases h
    rw[q,e,hp];simp only[bL,tz];refine ⟨by omega,by omega,by omega,by omega,by simp;omega,rfl⟩
 ·have hx:(Hd.of b).ext=false:=hx;have hno:¬((Hd.of b).ext=true∧(b.length<X+4∨b.length<X+4+4*num b (X+2) 2)):=fun hh=>by
   rw[hx] at hh;cases hh.1
  have hL:bS b=b.drop X:=by
   unfold bS;rw[hx,hX];rfl
  have hr:aL b= {hd:=Hd.of b,ak:=0,ext:=[],pay:=(bS b).take ((bS b).length-dB b),pad:=dB b}:=by
   unfold aL;rw[hx];rfl
  obtain ⟨k1,k2⟩:=key _ _ _ hNl hL hr hno;have cX:(X:Int).toNat=X:=by omega
  simp only[bL,cX,tl,AZ,yD,bC,List.take_length];refine ⟨fun hp=>⟨by omega,by omega,by omega,_,PS _ (by simp;omega),fun h0=>?_,fun h0=>?_⟩,fun hp=>?_⟩
  ·have e:=k1 (by have h0:((dF (b.drop X):Nat):Int)=0:=h0;omega) hp;rw[(om e (by decide)).1,e]
  ·have hp:(Hd.of b).pad=true:=hp;have h0:((dF (b.drop X):Nat):Int)≠0:=h0;obtain ⟨e,q⟩:=k2 fun _=>by omega
   have:=(Cb (b.drop X)).1;rw[List.length_drop] at this;rw[q,e,if_pos hp];simp only[bL,t0];refine ⟨by omega,by omega,by omega,by omega,by simp;omega,rfl⟩
  ·have hp:(Hd.of b).pad=false:=hp;obtain ⟨e,q⟩:=k2 fun h=>by rw[hp] at h;cases h
   rw[q,e,hp];simp only[bL,tz];refine ⟨by omega,by omega,by omega,by omega,by simp;omega,rfl⟩
theorem PO (b:List UInt8) (hb:b.length≤1000000):PC Tryz.prog N7 [(aV,B b)] [(.bool,.bool (decide (aZ b=0∧(aL b).bytes=b)))]:=by
 apply aaV rfl;simp only[Nb,aF,aC,aB,au,aD,forall_const,yx];by_cases he:aZ b=0
 ·obtain ⟨kr,ko,_,_⟩:=Pk.same b he;have e0:eB b=aL b:=by unfold eB;rw[if_pos he]
  have q:=AQ b hb;rw[e0] at q;refine ⟨_,_,q,_,fun _=>adq (aL b) kr ko,?_⟩;simp[he,yx]
 ·exact ⟨_,_,AQ b hb,C.ls [],fun h=>absurd h he,by simp[he]⟩
end Go.Vc
set_option maxRecDepth 100000
namespace Go.Vc
open Go Go.Proofs Go.Plain
theorem PL (p:Pl):PC Tryz.prog NR [(cu,cK p)] [(.bool,.bool (decide (fA p)))]:=by
 apply aaN rfl;simp only[M0,aF,aC,aB,au,aD,forall_const,List.length_map];congr 3
 rw[Bool.eq_iff_iff,decide_eq_true_eq];unfold fA dJ;cases p.drops<;>cases p.adds<;>cases p.np<;>simp<;>omega
theorem abJ (p:Pl):PC Tryz.prog MK [(cu,cK p)] [(.bool,.bool (decide (dP p)))]:=by
 apply aaz rfl;simp only[MG,aF,aC,aB,au,aD,forall_const,List.length_map];congr 3
 rw[Bool.eq_iff_iff,decide_eq_true_eq];unfold dP dJ;cases p.drops<;>cases p.adds<;>cases p.maps<;>cases p.over<;>simp<;>omega
def jw (k:Pk):List El:=if k.hd.ext then iC k.ak k.ext else []
theorem adY (k:Pk) (hq:k.ak<65536) (hb:k.ext.length≤1000000):PC Tryz.prog Oq [(gU,fP k)] [(.sl gM,dV (jw k)),(.bool,.bool (decide (k.hd.ext=false∨(spots k.ak k.ext).2=0)))]:=by
 apply aa3 rfl;simp only[Np,aF,aC,aB,au,aD,forall_const];refine ⟨fun h=>?_,fun h=>?_⟩
 ·have h:k.hd.ext=false:=h;unfold jw;simp[h]
 ·have h:k.hd.ext=true:=h;refine ⟨_,_,ad1 k.ak hq k.ext hb,?_⟩;unfold jw;rw[if_pos h];refine congrArg (fun x=> [(j6,dV (iC k.ak k.ext)),(Sh.bool,C.bool x)]) ?_;rw[Bool.eq_iff_iff,decide_eq_true_eq,decide_eq_true_eq];simp[h]
theorem Wi {α:Type} (f:α→Int) (x:Int):∀(l:List α) (i:Nat),(x∉l.map f∧jf (l.map f) x i= -1∧l.find? (fun a=>f a==x)=none)∨∃k a,k<l.length∧l[k]?=some a∧f a=x∧l.find? (fun a=>f a==x)=some a∧jf (l.map f) x i=((i+k:Nat):Int)
 | [],i=> .inl ⟨by simp,rfl,rfl⟩
 |y::t,i=>by
  by_cases hy:f y=x
  ·exact .inr ⟨0,y,by simp,rfl,hy,by simp[hy],by show (if f y=x then _ else _)=_;rw[if_pos hy];rfl⟩
  ·have e:jf ((y::t).map f) x i=jf (t.map f) x (i+1):=by show (if f y=x then _ else _)=_;rw[if_neg hy]
   have e2:(y::t).find? (fun a=>f a==x)=t.find? (fun a=>f a==x):=by simp[List.find?_cons,hy]
   rw[e,e2];rcases Wi f x t (i+1) with ⟨h1,h2,h3⟩|⟨k,a,h1,h2,h3,h4,h5⟩
   ·refine .inl ⟨?_,h2,h3⟩;rw[List.map_cons,List.mem_cons];rintro (h|h)
    ·exact hy h.symm
    ·exact h1 h
   ·exact .inr ⟨k+1,a,by simp;omega,by simpa using h2,h3,h4,by rw[h5];congr 1;omega⟩
theorem JK {α:Type} (f:α→Int) (x:Int) (l:List α):(x∉l.map f∧nZ (l.map f) x= -1∧l.find? (fun a=>f a==x)=none)∨∃k a,k<l.length∧l[k]?=some a∧f a=x∧l.find? (fun a=>f a==x)=some a∧nZ (l.map f) x=(k:Int):=by
 rcases Wi f x l 0 with h|⟨k,a,h1,h2,h3,h4,h5⟩
 ·exact .inl h
 ·exact .inr ⟨k,a,h1,h2,h3,h4,by rw[show nZ (l.map f) x=jf (l.map f) x 0 from rfl,h5];simp⟩
theorem BX (l:List Int) (x:Int):(0≤nZ l x↔x∈l)∧(nZ l x<0↔x∉l):=by
 have:=JK (fun y:Int=>y) x l;rw[List.map_id'] at this;rcases this with ⟨h1,h2,_⟩|⟨k,a,h1,h2,h3,_,h5⟩
 ·simp[h1,h2]
 ·have:x∈l:=by rw[←h3];exact List.mem_of_getElem? h2
  simp[this,h5]
theorem G9 (l:List Mp) (hl:l.length≤1000000):PC Tryz.prog NI [(.sl ni,oV l)] [(.sl I64,Ints (l.map (·.fr)))]:=by
 apply aaZ rfl;simp only[GU,aF,aC,aB,au,aD,forall_const,List.length_map];refine VC.go_loop (fun i:Nat=> [Ints ((l.map (·.fr)).take i),.int (i:Int)]) (fun i=>i≤l.length) (fun i=>l.length-i) 0 rfl (Nat.zero_le _) fun i hi=>?_;simp only[aF,aC,aB,au,aD,forall_const,List.length_map];refine ⟨fun hc=>?_,fun hc=>?_⟩
 ·have hk:i<l.length:=by omega
  rw[Int.toNat_natCast,qF l i hk];simp only[eT,dY,List.length_take,List.length_map,List.length_singleton];refine ⟨by omega,by omega,by omega,by omega,i+1,?_,by omega,by omega⟩;rw[List.take_succ_eq_append_getElem (by simpa using hk)];simp[List.getD,hk]
 ·have:i=l.length:=by omega
  subst this;rw[List.take_of_length_le (by simp)]
def jV (p:Pl):List Int:=p.maps.map (·.fr)++aK p.over++p.drops
theorem UW (p:Pl) (l:List El):(∀x∈jV p,x∈aK l)↔qK p l:=by
 unfold jV qK;simp only[List.mem_append,or_imp,forall_and];exact and_assoc
def kU (p:Pl) (l:List El):List El:=(l.filter fun e=>decide (e.id∉p.drops)).map (iq p)
def Aq (p:Pl) (l:List El):List El:=if qK p l∧nL p l then gY p l else []
theorem ado (p:Pl) (l:List El) (few:fq p) (hal:l.length+p.adds.length≤1000000):PC Tryz.prog NS [(cu,cK p),(.sl gM,dV l)] [(.sl gM,dV (Aq p l)),(.bool,.bool (decide (iB p l)))]:=by
 obtain ⟨f1,f2,f3,f4⟩:=few;have hl:l.length≤1000000:=by omega
 apply aaO rfl;simp only[M4,aF,aC,aB,au,aD,forall_const,List.length_map];have hn:(C.toList (Ints (p.maps.map (·.fr)))++C.toList (Ints (aK p.over))++C.toList (Ints p.drops))=(jV p).map C.int:=by simp[jV]
 refine ⟨_,AX l hl,_,G9 p.maps f1,_,AX p.over f2,?_⟩;simp only[dY,List.length_map,aK];refine ⟨by omega,by omega,?_⟩;refine VC.go_loop (fun i:Nat=> [.ls [],.bool false,.int (i:Int)]) (fun i=>i≤(jV p).length∧∀x∈(jV p).take i,x∈aK l) (fun i=>(jV p).length-i) 0 rfl ⟨Nat.zero_le _,by simp⟩ fun i hi=>?_;simp only[aF,aC,aB,au,aD,forall_const,List.length_map];have hlen:(jV p).length=p.maps.length+p.over.length+p.drops.length:=by simp[jV,aK,Nat.add_assoc]
 have hmp:List.map C.int (List.map (fun x=>x.fr) p.maps)++List.map C.int (List.map (fun x=>x.id) p.over)++List.map C.int p.drops=(jV p).map C.int:=by simp[jV,aK]
 rw[hmp];refine ⟨fun hc=>?_,fun hc=>?_⟩
 ·have hi1:i<(jV p).length:=by omega
  have hx:(jV p).getD i 0∈jV p:=by simp[List.getD,hi1]
  have hg:((jV p).map C.int).getD ((i:Int)).toNat default=C.int ((jV p).getD i 0):=by simp[List.getD,hi1]
  rw[hg];refine ⟨by omega,by omega,_,tK (aK l) ((jV p).getD i 0) (by simpa [aK] using hl),fun h=>?_,fun h=>⟨by omega,i+1,by simp,⟨by omega,fun x hm=>?_⟩,by omega⟩⟩
  ·have hnn:¬qK p l:=fun h2=>(BX _ _).2.1 h ((UW p l).2 h2 _ hx);have hmm:¬iB p l:=fun h2=>hnn h2.1;simp[Aq,hnn,hmm]
  ·rw[List.take_succ_eq_append_getElem hi1] at hm;rcases List.mem_append.1 hm with hm|hm
   ·exact hi.2 x hm
   ·have e:x=(jV p).getD i 0:=by simpa [List.getD,hi1] using hm
    rw[e];exact (BX _ _).1.1 h
 ·have Y8:qK p l:=(UW p l).1 (by
   have:=hi.2;rwa[List.take_of_length_le (by omega)] at this)
  refine VC.go_loop (fun j:Nat=> [.ls [],.bool false,dV (kU p (l.take j)),.int (j:Int)]) (fun j=>j≤l.length∧∀e∈l.take j,e.id∉p.drops→(fK p e.id e.data).length=e.data.length) (fun j=>l.length-j) 0 rfl ⟨Nat.zero_le _,by simp⟩ fun j hj=>?_;simp only[aF,aC,aB,au,aD,forall_const,List.length_map];have hkl:(kU p (l.take j)).length≤j:=by
   unfold kU;rw[List.length_map];exact Nat.le_trans (List.length_filter_le _ _) (by rw[List.length_take];omega)
  refine ⟨fun hc=>?_,fun hc=>?_⟩
  ·have hj1:j<l.length:=by omega
   obtain ⟨e,he⟩:∃e,l.getD j El.zero=e:=⟨_,rfl⟩;have htk:l.take (j+1)=l.take j++ [e]:=by rw[←he];exact uD l j hj1
   rw[kF l j hj1,he];have hmem:e∈l:=by rw[←he];simp[List.getD,hj1]
   have keep:∀d:List UInt8,e.id∉p.drops→fK p e.id e.data=d→d.length=e.data.length→dV (kU p (l.take j))= .ls ((kU p (l.take j)).map fV)∧dV (kU p (l.take (j+1)))=C.ls ((kU p (l.take j)).map fV++ [fV ⟨newId p e.id,d⟩])∧∀e'∈l.take (j+1),e'.id∉p.drops→(fK p e'.id e'.data).length=e'.data.length:=by
    intro d hd h1 h2;refine ⟨rfl,?_,fun e' h3 h4=>?_⟩
    ·rw[htk];unfold kU iq;simp[List.filter_append,hd,h1]
    ·rw[htk] at h3;rcases List.mem_append.1 h3 with h3|h3
     ·exact hj.2 e' h3 h4
     ·rw[List.mem_singleton.1 h3,h1,h2]
   refine ⟨by omega,by omega,_,tK p.drops e.id f3,fun h=>⟨by omega,j+1,?_,⟨by omega,fun e' h3 h4=>?_⟩,by omega⟩,fun h=>⟨by omega,by omega,by omega,by omega,?_⟩⟩
   ·have hd:=(BX _ _).1.1 h;have:kU p (l.take (j+1))=kU p (l.take j):=by
     rw[htk];unfold kU;simp[List.filter_append,hd]
    rw[this];simp
   ·have hd:=(BX _ _).1.1 h;rw[htk] at h3;rcases List.mem_append.1 h3 with h3|h3
    ·exact hj.2 e' h3 h4
    ·rw[List.mem_singleton.1 h3] at h4;exact absurd hd h4
   ·have hd:=(BX _ _).2.1 h;have hm:=JK (fun m:Mp=>m.fr) e.id p.maps;have hmid:∀m,p.maps.find? (fun a=>a.fr==e.id)=some m→newId p e.id=m.to:=fun m hf=>by unfold newId;rw[hf]
    have ZB:p.maps.find? (fun a=>a.fr==e.id)=none→newId p e.id=e.id:=fun hf=>by unfold newId;rw[hf]
    refine ⟨_,AX p.over f2,_,tK (aK p.over) e.id (by simpa [aK] using f2),?_⟩;rcases JK (fun x:El=>x.id) e.id p.over with ⟨a1,a2,a3⟩|⟨k,a,a1,a2,a3,a4,a5⟩
    ·rw[show nZ (aK p.over) e.id= -1 from a2];have hdat:fK p e.id e.data=e.data:=by unfold fK;rw[a3]
     obtain ⟨k1,k2,k3⟩:=keep _ hd hdat rfl;refine ⟨fun h2=>by simp at h2,fun _=>⟨_,G9 p.maps f1,_,tK (p.maps.map (·.fr)) e.id (by simpa using f1),?_⟩⟩;rcases hm with ⟨b1,b2,b3⟩|⟨q,m,b1,b2,b3,b4,b5⟩
     ·rw[b2];rw[ZB b3] at k2;simp only[bL,dY,List.length_append,List.length_map,List.length_singleton];refine ⟨fun h3=>by omega,fun h3=>by omega,by omega,by omega,j+1,?_,⟨by omega,k3⟩,by omega⟩;rw[k2];simp
     ·rw[b5];rw[hmid m b4] at k2;have hgm:(p.maps.map jR).getD q default=jR m:=by rw[qF _ _ b1];simp[List.getD,b2]
      simp only[bL,dY,Int.toNat_natCast,hgm,List.length_append,List.length_map,List.length_singleton];refine ⟨fun _=>by omega,fun _=>by omega,by omega,by omega,j+1,?_,⟨by omega,k3⟩,by omega⟩;rw[k2];simp
    ·rw[show nZ (aK p.over) e.id=(k:Int) from a5];have hga:(p.over.map fV).getD k default=fV a:=by have:=kF p.over k a1;rw[Int.toNat_natCast] at this;rw[this];simp[List.getD,a2]
     have hdat:fK p e.id e.data=a.data:=by unfold fK;rw[a4]
     simp only[bL,dY,Int.toNat_natCast,hga,eT,gQ,bC];refine ⟨fun _=>⟨by omega,by omega,fun h2=>?_,fun h2=>⟨by omega,by omega,_,G9 p.maps f1,_,tK (p.maps.map (·.fr)) e.id (by simpa using f1),?_⟩⟩,fun h2=>by omega⟩
     ·have hnl:¬nL p l:=fun h3=>by
       have:=h3 e hmem hd;rw[hdat] at this;omega
      have hmm:¬iB p l:=fun h3=>hnl h3.2.1;simp[Aq,hnl,hmm]
     ·obtain ⟨k1,k2,k3⟩:=keep _ hd hdat (by omega);rcases hm with ⟨b1,b2,b3⟩|⟨q,m,b1,b2,b3,b4,b5⟩
      ·rw[b2];rw[ZB b3] at k2;simp only[bL,dY,List.length_append,List.length_map,List.length_singleton];refine ⟨fun h3=>by omega,fun h3=>by omega,by omega,by omega,j+1,?_,⟨by omega,k3⟩,by omega⟩;rw[k2];simp
      ·rw[b5];rw[hmid m b4] at k2;have hgm:(p.maps.map jR).getD q default=jR m:=by rw[qF _ _ b1];simp[List.getD,b2]
       simp only[bL,dY,Int.toNat_natCast,hgm,List.length_append,List.length_map,List.length_singleton];refine ⟨fun _=>by omega,fun _=>by omega,by omega,by omega,j+1,?_,⟨by omega,k3⟩,by omega⟩;rw[k2];simp
  ·have hj2:=hj.2;rw[List.take_of_length_le (by omega)] at hj2 hkl ⊢;have Y9:nL p l:=fun e h1 h2=>hj2 e h1 h2;have hout:dV (kU p l++p.adds)=C.ls ((kU p l).map fV++p.adds.map fV):=by simp
   have hpo:kU p l++p.adds=gY p l:=rfl;have q:=AX (kU p l++p.adds) (by simp;omega);rw[hout] at q;refine ⟨by omega,_,q,_,DL _ (by simp[aK];omega),?_⟩;have:decide (iB p l)=decide (fQ (aK (kU p l++p.adds))):=by
    rw[hpo,decide_eq_decide];exact ⟨fun h=>h.2.2,fun h=>⟨Y8,Y9,h⟩⟩
   rw[this];unfold Aq;rw[if_pos ⟨Y8,Y9⟩,←hpo,hout]
end Go.Vc
set_option maxRecDepth 100000
namespace Go.Vc
open Go Go.Proofs Go.Plain
abbrev ng:Sh:= .pair I64 (.pair I64 (.pair I64 .unit))
abbrev tF (x:bI):C:= .ls [.int x.f,.int (x.p:Int),.int (x.s:Int)]
abbrev jl (l:List bI):C:= .ls (l.map tF)
theorem aiZ (l:List bI) (h:l.length≠0):(l.map tF).getD ((l.length:Int)-1).toNat default=tF (l.getLast (by intro e;rw[e] at h;exact h rfl))∧jE l=(l.getLast (by intro e;rw[e] at h;exact h rfl)).p+(l.getLast (by intro e;rw[e] at h;exact h rfl)).s:=by
 have hne:l≠[]:=by intro e;rw[e] at h;exact h rfl
 constructor
 ·rw[show ((l.length:Int)-1).toNat=l.length-1 by omega,List.getLast_eq_getElem];simp[List.getD,show l.length-1<l.length by omega]
 ·unfold jE;rw[List.getLast?_eq_some_getLast hne]
theorem lJ (l:List bI) (f:Int) (n:Nat) (hl:l.length≤1000) (he:jE l≤1000000) (hn:n≤1000000):PC Tryz.prog Sz [(.sl ng,jl l),(I64,.int f),(.sl I64,.ls [.int (n:Int)])] [(.sl ng,jl (eO l f n))]:=by
 apply adS rfl;simp only[HV,aF,aC,aB,au,aD,forall_const,List.length_map,List.length_cons,List.length_nil];refine ⟨fun h=>?_,fun h=>?_⟩
 ·obtain ⟨g1,g2⟩:=aiZ l (by omega);rw[g1];refine ⟨by omega,by omega,by omega,by simp only[eT,gQ,bL];omega,?_⟩;refine VC.go_loop (fun i:Nat=> [jl (if i=0 then l else eO l f n),.int ((if i=0 then jE l else jE l+n:Nat):Int),.int (i:Int)]) (fun i=>i≤1) (fun i=>1-i) 0 ?_ (Nat.zero_le _) fun i hi=>?_
  ·simp only[aC,aB,au,aD,forall_const,List.length_map,g1,if_true,g2];rw[←Int.natCast_add];rfl
  ·simp only[aF,aC,aB,au,aD,forall_const,List.length_map,List.length_cons,List.length_nil];refine ⟨fun hc=>?_,fun hc=>?_⟩
   ·have h0:i=0:=by omega
    subst h0;have e0:List.getD [C.int (n:Int)] (((0:Nat):Int)).toNat default= .int (n:Int):=rfl;simp only[if_true,e0,bL];refine ⟨by omega,by omega,fun h2=>⟨by omega,by omega,by omega,1,?_,by omega,by omega⟩,fun h2=>⟨by omega,1,?_,by omega,by omega⟩⟩
    ·unfold eO;rw[if_neg (by omega),if_neg (by omega),if_neg (by omega)];simp
    ·have:n=0:=by omega
     subst this;rfl
   ·have h1:i=1:=by omega
    subst h1;rfl
 ·have hl0:l=[]:=List.eq_nil_of_length_eq_zero (by omega);subst hl0;refine VC.go_loop (fun i:Nat=> [jl (if i=0 then [] else eO [] f n),.int ((if i=0 then jE [] else jE []+n:Nat):Int),.int (i:Int)]) (fun i=>i≤1) (fun i=>1-i) 0 ?_ (Nat.zero_le _) fun i hi=>?_
  ·rfl
  ·simp only[aF,aC,aB,au,aD,forall_const,List.length_map,List.length_cons,List.length_nil];refine ⟨fun hc=>?_,fun hc=>?_⟩
   ·have h0:i=0:=by omega
    subst h0;have e0:List.getD [C.int (n:Int)] (((0:Nat):Int)).toNat default= .int (n:Int):=rfl;simp only[if_true,e0,bL];refine ⟨by omega,by omega,fun h2=>⟨by omega,by omega,by omega,1,?_,by omega,by omega⟩,fun h2=>⟨by omega,1,?_,by omega,by omega⟩⟩
    ·unfold eO;rw[if_neg (by omega),if_neg (by omega),if_neg (by omega)];simp
    ·have:n=0:=by omega
     subst this;rfl
   ·have h1:i=1:=by omega
    subst h1;rfl
theorem QB (l:List bI) (f:Int) (hl:l.length≤100000):PC Tryz.prog Ry [(.sl ng,jl l),(I64,.int f),(I64,.int 0)] [(ng,tF ((eG l f).getD bI.zero)),(I64,.int (if (eG l f).isSome then 0 else 8))]:=by
 apply ac4 rfl;simp only[Ql,aF,aC,aB,au,aD,forall_const,List.length_map];refine ⟨fun h=>by omega,fun _=>?_⟩;refine VC.go_loop (fun i:Nat=> [.int 0,.int 0,.int (i:Int),.int 0,.int 0,.int 0]) (fun i=>i≤l.length∧eG l f=eG (l.drop i) f) (fun i=>l.length-i) 0 rfl ⟨Nat.zero_le _,rfl⟩ fun i hi=>?_;obtain ⟨i1,i2⟩:=hi;simp only[aF,aC,aB,au,aD,forall_const,List.length_map];refine ⟨fun hc=>?_,fun hc=>?_⟩
 ·have hk:i<l.length:=by omega
  have hg:(l.map tF).getD (i:Int).toNat default=tF l[i]:=by simp[List.getD,hk]
  have hd:l.drop i=l[i]::l.drop (i+1):=List.drop_eq_getElem_cons hk;rw[hg];rw[hd] at i2;unfold eG at i2;rw[List.find?_cons] at i2;refine ⟨by omega,by omega,fun h=>⟨by omega,i+1,by simp,⟨by omega,?_⟩,by omega⟩,fun h=>⟨?_,fun h=>absurd trivial h⟩⟩
  ·have h:l[i].f≠f:=h;rw[decide_eq_false h] at i2;exact i2
  ·have h:l[i].f=f:=h;rw[decide_eq_true h] at i2;have i2:eG l f=some l[i]:=i2;rw[i2];rfl
 ·have:i=l.length:=by omega
  subst this;rw[List.drop_length] at i2;rw[i2];rfl
theorem wR {l:List bI} {a c:Nat} (h:l.length≤a∧jE l≤c) (f:Int) (n:Nat):(eO l f n).length≤a+1∧jE (eO l f n)≤c+n:=by
 have:=uh l f n;rw[Ji];omega
theorem ae7 (b:List UInt8) (hb:b.length≤1000000):PC Tryz.prog Uc [(aV,B b)] [(.sl ng,jl (if aZ b=0 then placesOf (aL b) else [])),(I64,.int (aZ b))]:=by
 apply aer rfl;simp only[R5,aF,aC,aB,au,aD,forall_const];refine ⟨_,_,vK b hb,fun he=>?_,fun he=>?_⟩
 ·have he:aZ b≠0:=he;rw[if_neg he];rfl
 ·have he:aZ b=0:=he;rw[if_pos he];have hk:eB b=aL b:=if_pos he;obtain ⟨hr,ho,_⟩:=Pk.same b he;rw[hk];generalize aL b=k at hr ho;obtain ⟨⟨⟨_,_,r3⟩,f2,f3,f4,f5⟩,f6⟩:=hr;unfold Pk.sum at f6;have z0:([]:List bI).length=0:=rfl;have zz:jE []=0:=rfl;refine ⟨_,lJ [] 1 1 (by decide) (by decide) (by decide),_,lJ _ 2 1 (by decide) (by decide) (by decide),_,lJ _ 3 2 (by decide) (by decide) (by decide),_,lJ _ 4 4 (by decide) (by decide) (by decide),_,lJ _ 5 4 (by decide) (by decide) (by decide),?_⟩;refine VC.go_loop (fun i:Nat=> [jl (gX i gT),.int (i:Int)]) (fun i=>i≤k.hd.aI.length) (fun i=>k.hd.aI.length-i) 0 rfl (Nat.zero_le _) fun i hi=>?_;obtain ⟨c1,c2,_⟩:=Ed i gT;have e5:jE gT=12:=rfl;have n5:gT.length=5:=rfl;rw[e5] at c1;rw[n5] at c2;have hns:∀l:List Nat,(Ns l).toList.length=l.length:=fun l=>by simp[Ns]
  simp only[aF,aC,aB,au,aD,forall_const,hns,List.length_map,bC];refine ⟨fun hc=>?_,fun hc=>?_⟩
  ·exact ⟨_,lJ _ 6 4 (by omega) (by omega) (by decide),by omega,i+1,rfl,by omega,by omega⟩
  ·have hi2:i=k.hd.aI.length:=by omega
   subst hi2;have a0:(gX k.hd.aI.length gT).length≤100∧jE (gX k.hd.aI.length gT)≤100:=by omega
   refine ⟨fun hx=>?_,fun hx=>?_⟩
   ·rw[if_pos hx] at f6;have hX:mY k (gX k.hd.aI.length gT)=eO (eO (eO (gX k.hd.aI.length gT) 7 2) 8 2) 9 k.ext.length:=if_pos hx;have a1:=wR a0 7 2;have a2:=wR a1 8 2;have a3:=wR a2 9 k.ext.length;have a4:=wR a3 10 k.pay.length;have hP:placesOf k=ru k (eO (mY k (gX k.hd.aI.length gT)) 10 k.pay.length):=rfl;rw[hX] at hP;refine ⟨_,lJ _ 7 2 (by omega) (by omega) (by decide),_,lJ _ 8 2 (by omega) (by omega) (by decide),_,lJ _ 9 k.ext.length (by omega) (by omega) (by omega),_,lJ _ 10 k.pay.length (by omega) (by omega) (by omega),fun hp=>?_,fun hp=>?_⟩
    ·rw[if_pos hp] at f5;have ep:(k.pad:Int)-1=((k.pad-1:Nat):Int):=by omega
     have a5:=wR a4 11 (k.pad-1);rw[ep];refine ⟨by omega,_,lJ _ 11 (k.pad-1) (by omega) (by omega) (by omega),_,lJ _ 12 1 (by omega) (by omega) (by decide),?_⟩;rw[hP,he];unfold ru;rw[if_pos hp]
    ·rw[hP,he];unfold ru;rw[if_neg (by rw[hp];decide)]
   ·have hX:mY k (gX k.hd.aI.length gT)=gX k.hd.aI.length gT:=if_neg (by rw[hx];decide);have a4:=wR a0 10 k.pay.length;have hP:placesOf k=ru k (eO (mY k (gX k.hd.aI.length gT)) 10 k.pay.length):=rfl;rw[hX] at hP;refine ⟨_,lJ _ 10 k.pay.length (by omega) (by omega) (by omega),fun hp=>?_,fun hp=>?_⟩
    ·rw[if_pos hp] at f5;have ep:(k.pad:Int)-1=((k.pad-1:Nat):Int):=by omega
     have a5:=wR a4 11 (k.pad-1);rw[ep];refine ⟨by omega,_,lJ _ 11 (k.pad-1) (by omega) (by omega) (by omega),_,lJ _ 12 1 (by omega) (by omega) (by decide),?_⟩;rw[hP,he];unfold ru;rw[if_pos hp]
    ·rw[hP,he];unfold ru;rw[if_neg (by rw[hp];decide)]
end Go.Vc
