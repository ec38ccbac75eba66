/-
  The contracts of plan: what a plan makes of a packet, each out of its condition.
-/
import Derived.Test.YtaehhpempnelhaaGreatDoorQVcs1
import Derived.Test.YtaehhpempnelhaaGreatDoorQTx2
import Derived.Test.YtaehhpempnelhaaGreatDoorQTx4
import Derived.Test.YtaehhpempnelhaaGreatDoorQBase3
set_option maxRecDepth 100000
namespace Go.Vc
open Go Go.Proofs Go.Plain
theorem PV (b:List UInt8) (hb:b.length≤1000000):PC Tryz.prog QM [(aV,B b)] [(aV,B b)]:=by
 apply acy rfl;simp only[PG,aF,aC,aB,au,aD,forall_const,bC];refine ⟨fun h=>?_,by omega⟩;rw[show B b=C.ls [] from congrArg C.ls h]
theorem PI (b:List UInt8) (hb:b.length≤1000000):PC Tryz.prog QD [(aV,B b)] [(aV,B b)]:=by
 apply acz rfl;simp only[G7,aF,aC,aB,au,aD,forall_const,bC];refine ⟨fun h=>?_,by omega⟩;rw[show B b=C.ls [] from congrArg C.ls h]
theorem acB (l:List Nat) (hl:l.length≤1000000):PC Tryz.prog Mt [(.sl U32,Ns l)] [(.sl U32,Ns l)]:=by
 apply aau rfl;simp only[Ms,aF,aC,aB,au,aD,forall_const];have hn:(zG l).length=l.length:=by simp[zG]
 refine ⟨fun h=>?_,by omega⟩;rw[show Ns l=C.ls [] from congrArg C.ls h]
theorem ad5 (p:Pl):PC Tryz.prog Rw [(cu,cK p)] [(.bool,.bool (decide (fA p)))]:=by
 apply ac2 rfl;simp only[Qj,aF,aC,aB,au,aD,forall_const];refine ⟨_,AY p,?_⟩;congr 3
 have e:(fA p↔¬(p.drops≠[]∨p.adds≠[])∧p.np=false):=Iff.rfl;rw[Bool.eq_iff_iff,decide_eq_true_eq,e];by_cases h:p.drops≠[]∨p.adds≠[]
 ·simp[h]
 ·simp[h]
theorem ads (p:Pl) (k:Pk) (hn:dO p) (hr:k.right):PC Tryz.prog QF [(cu,cK p),(gU,fP k)] [(gU,fP (gV p k))]:=by
 obtain ⟨⟨⟨_,_,r3⟩,f2,f3,f4,f5⟩,f6⟩:=hr;unfold Pk.sum at f6;apply aco rfl;simp only[Pv,aF,aC,aB,au,aD,forall_const];refine ⟨_,acB k.hd.aI (by omega),_,PV k.ext (by omega),_,PV k.pay (by omega),?_⟩;obtain ⟨n1,n2,n3,n4,n5,n6⟩:=hn;have c:∀(s:Bool) (x:Int) (y:Nat),0≤x→(if s=true then x else (y:Int))=((if s=true then x.toNat else y:Nat):Int):=fun s x y h=>by cases s<;>simp<;>omega
 have d:(if p.np=true then (0:Int) else (k.pad:Int))=((if p.np=true then 0 else k.pad:Nat):Int):=by cases p.np<;>rfl
 rw[c _ _ _ n1,c _ _ _ n3,c _ _ _ n5,d];rfl
def wZ (l:List Mp):List C:=l.foldl (fun m x=>jG m x.fr (.int x.to)) []
def wY (l:List El):List C:=l.foldl (fun m x=>jG m x.id (B x.data)) []
theorem EA {α:Type} (key:α→Int) (val:α→C) (x:Int):∀(l:List α),(l.map key).Nodup→∀m:List C,(∀a∈l,fE m (key a)=none)→fE (l.foldl (fun m a=>jG m (key a) (val a)) m) x=((l.find? (fun a=>key a==x)).map (fun a=>C.ls [.int x,val a])).or (fE m x)
 | [],_,m,_=>by simp
 |a::l,hn,m,hm=>by
  simp only[List.map_cons,List.nodup_cons] at hn;rw[List.foldl_cons,EA key val x l hn.2 _ (fun c hc=>by
   rw[Ec,if_neg (fun e=>hn.1 (List.mem_map.2 ⟨c,hc,e.symm⟩)),hm c (List.mem_cons_of_mem _ hc)]),Ec,List.find?_cons]
  by_cases h:key a=x
  ·have hnone:l.find? (fun a=>key a==x)=none:=by
    rw[List.find?_eq_none];intro c hc he;exact hn.1 (List.mem_map.2 ⟨c,hc,by rw[h];simpa using he⟩)
   have hb:(key a==x)=true:=by simpa using h
   rw[hnone,hb,if_pos h,h];rfl
  ·have hb:(key a==x)=false:=by simpa using h
   rw[hb,if_neg h]
theorem WO (l:List Mp) (hn:(l.map (·.fr)).Nodup) (x:Int):fE (wZ l) x=(l.find? (fun a=>a.fr==x)).map (fun a=>C.ls [.int x,.int a.to]):=by
 have:=EA (·.fr) (fun a:Mp=>C.int a.to) x l hn [] (fun _ _=>rfl);unfold wZ;rw[this];show Option.or _ none=_;rw[Option.or_none]
theorem WI (l:List El) (hn:(l.map (·.id)).Nodup) (x:Int):fE (wY l) x=(l.find? (fun a=>a.id==x)).map (fun a=>C.ls [.int x,B a.data]):=by
 have:=EA (·.id) (fun a:El=>B a.data) x l hn [] (fun _ _=>rfl);unfold wY;rw[this];show Option.or _ none=_;rw[Option.or_none]
theorem H8 (p:Pl) (h:fq p):PC Tryz.prog SE [(cu,cK p)] [(.mp .i64 I64,.ls (wZ p.maps))]:=by
 apply adI rfl;simp only[QU,aF,aC,aB,au,aD,forall_const,List.length_map];have hl:=h.1;refine VC.go_loop (fun i:Nat=> [.int (i:Int),.ls (wZ (p.maps.take i))]) (fun i=>i≤p.maps.length) (fun i=>p.maps.length-i) 0 rfl (Nat.zero_le _) fun i hi=>?_;simp only[aF,aC,aB,au,aD,forall_const,List.length_map];refine ⟨fun hc=>⟨by omega,by omega,by omega,i+1,?_,by omega,by omega⟩,fun hc=>?_⟩
 ·have hk:i<p.maps.length:=by omega
  have hg:(p.maps.map jR).getD (i:Int).toNat default=jR p.maps[i]:=by simp[List.getD,hk]
  rw[hg,List.take_succ_eq_append_getElem hk];unfold wZ;rw[List.foldl_append];rfl
 ·have:i=p.maps.length:=by omega
  subst this;rw[List.take_length]
theorem Hq (p:Pl) (h:fq p):PC Tryz.prog Rt [(cu,cK p)] [(.mp .i64 aV,.ls (wY p.over))]:=by
 apply acZ rfl;simp only[Qg,aF,aC,aB,au,aD,forall_const,List.length_map];have hl:=h.2.1;refine VC.go_loop (fun i:Nat=> [.int (i:Int),.ls (wY (p.over.take i))]) (fun i=>i≤p.over.length) (fun i=>p.over.length-i) 0 rfl (Nat.zero_le _) fun i hi=>?_;simp only[aF,aC,aB,au,aD,forall_const,List.length_map];refine ⟨fun hc=>⟨by omega,by omega,by omega,i+1,?_,by omega,by omega⟩,fun hc=>?_⟩
 ·have hk:i<p.over.length:=by omega
  have hg:(p.over.map fV).getD (i:Int).toNat default=fV p.over[i]:=by simp[List.getD,hk]
  rw[hg,List.take_succ_eq_append_getElem hk];unfold wY;rw[List.foldl_append];rfl
 ·have:i=p.over.length:=by omega
  subst this;rw[List.take_length]
theorem aez (e:El):PC Tryz.prog GZ [(gM,fV e)] [(I64,.int e.id)]:=by
 apply abz rfl;simp only[OU,aF,aC,aB,au,aD,forall_const]
theorem PU (l:List El) (hl:l.length≤1000000):PC Tryz.prog MC [(.sl gM,dV l),(.dZ GZ,.ls [])] [(.bool,.bool (decide (fQ (aK l))))]:=by
 apply aaw rfl;simp only[Mw,aF,aC,aB,au,aD,forall_const,List.length_map];have hil:(aK l).length=l.length:=by simp[aK]
 refine VC.go_loop (fun s:Dl=> [.bool false,.int (s.k:Int),.ls s.m]) (fun s=>s.k≤l.length∧(∀j,j<s.k→ku (aK l) j)∧∀x:Int,gu s.m x=decide (x∈(aK l).take s.k)) (fun s=>l.length-s.k) ⟨0,[]⟩ rfl
  ⟨Nat.zero_le _,fun j hj=>absurd hj (Nat.not_lt_zero j),fun x=>by simp[tQ]⟩ fun s hs=>?_
 obtain ⟨i1,i2,i3⟩:=hs;simp only[aF,aC,aB,au,aD,forall_const,List.length_map];refine ⟨fun hc=>?_,fun hc=>?_⟩
 ·have hk:s.k<l.length:=by omega
  have hk2:s.k<(aK l).length:=by omega
  have hat:ku (aK l) s.k↔1≤((aK l).getD s.k 0)∧((aK l).getD s.k 0)≤255∧((aK l).getD s.k 0)∉(aK l).take s.k:=Iff.rfl;have htk:(aK l).take (s.k+1)=(aK l).take s.k++ [((aK l).getD s.k 0)]:=by rw[List.take_succ_eq_append_getElem hk2];simp[List.getD,hk2]
  have hid:(l.getD s.k El.zero).id=(aK l).getD s.k 0:=by simp[aK,List.getD,hk]
  rw[kF l s.k hk];refine ⟨by omega,by omega,_,aez _,?_⟩;rw[hid];simp only[bL];generalize ((aK l).getD s.k 0)=e at hat htk;have hm:=i3 e;refine ⟨fun h=>?_,fun h=>?_⟩
  ·have h:(e<1∨255<e)∨gu s.m e=true:=by
    rcases h with h|h
    ·exact .inl h
    ·rw[if_pos trivial] at h;exact .inr h
   rw[hm,decide_eq_true_eq] at h;have hn:¬fQ (aK l):=fun hr=>by
    have h1:=hat.1 (hr s.k hk2);rcases h with h|h
    ·omega
    ·exact h1.2.2 h
   rw[decide_eq_false hn]
  ·have h:¬(e<1∨255<e)∧gu s.m e=false:=⟨h.1,by have h2:=h.2;rw[if_pos trivial] at h2;exact h2⟩;rw[hm,decide_eq_false_iff_not] at h;refine ⟨by omega,⟨s.k+1,_⟩,by simp;rfl,⟨by simp only;omega,fun j hj=>?_,fun x=>?_⟩,by simp only;omega⟩
   ·by_cases hjk:j=s.k
    ·rw[hjk];exact hat.2 ⟨by omega,by omega,h.2⟩
    ·simp only at hj;exact i2 j (by omega)
   ·simp only;rw[vS,i3,htk];by_cases hx:e=x
    ·rw[if_pos hx];simp[hx]
    ·have:¬x=e:=fun h=>hx h.symm;rw[if_neg hx];simp[this]
 ·have he:s.k=l.length:=by omega
  rw[decide_eq_true (show fQ (aK l) from fun j hj=>i2 j (by omega))]
def jM (p:Pl) (l:List El):List El:=(l.filter fun e=>decide (e.id∉p.drops)).map (iq p)
theorem agQ (p:Pl) (l:List El) (e:El):jM p (l++ [e])=jM p l++(if e.id∈p.drops then [] else [iq p e]):=by
 unfold jM;rw[List.filter_append,List.map_append];by_cases h:e.id∈p.drops<;>simp[h]
theorem aif (p:Pl) (l:List El) (e:El):cnt p (l++ [e])=cnt p l+vw p e:=by simp[cnt]
theorem ag3 (p:Pl) (l:List El) (e:El):nL p (l++ [e])↔nL p l∧(e.id∉p.drops→(fK p e.id e.data).length=e.data.length):=by
 unfold nL;simp only[List.mem_append,List.mem_singleton];constructor
 ·intro h;exact ⟨fun x hx=>h x (.inl hx),h e (.inr rfl)⟩
 ·rintro ⟨h1,h2⟩ x (hx|hx)
  ·exact h1 x hx
  ·subst hx;exact h2
theorem JZ {p:Pl} (hn:(p.over.map (·.id)).Nodup) {x:Int} (d:List UInt8) (hx:x∈aK p.over):fE (wY p.over) x=some (.ls [.int x,B (fK p x d)]):=by
 rw[WI _ hn];unfold fK;cases hf:p.over.find? (fun a=>a.id==x) with
 |none=>
  rw[List.find?_eq_none] at hf;obtain ⟨e,he,hx⟩:=List.mem_map.1 hx;exact absurd (by simpa using hx) (hf e he)
 |some e=>rfl
theorem J2 {p:Pl} (hn:(p.over.map (·.id)).Nodup) {x:Int} (hx:x∉aK p.over):fE (wY p.over) x=none:=by
 rw[WI _ hn,Option.map_eq_none_iff,List.find?_eq_none];intro e he h;exact hx (List.mem_map.2 ⟨e,he,by simpa using h⟩)
theorem J8 {p:Pl} (hn:(p.maps.map (·.fr)).Nodup) {x:Int} (hx:x∈p.maps.map (·.fr)):fE (wZ p.maps) x=some (.ls [.int x,.int (newId p x)]):=by
 rw[WO _ hn];unfold newId;cases hf:p.maps.find? (fun a=>a.fr==x) with
 |none=>
  rw[List.find?_eq_none] at hf;obtain ⟨e,he,hx⟩:=List.mem_map.1 hx;exact absurd (by simpa using hx) (hf e he)
 |some e=>rfl
theorem J9 {p:Pl} (hn:(p.maps.map (·.fr)).Nodup) {x:Int} (hx:x∉p.maps.map (·.fr)):fE (wZ p.maps) x=none:=by
 rw[WO _ hn,Option.map_eq_none_iff,List.find?_eq_none];intro e he h;exact hx (List.mem_map.2 ⟨e,he,by simpa using h⟩)
theorem ajs (l:List Int) (hn:l.Nodup) (x:Int):fE (nK l) x=if x∈l then some (.ls [.int x,.bool true]) else none:=by
 have:=EA id (fun _=>C.bool true) x l (by simpa using hn) [] (fun _ _=>rfl);unfold nK;simp only[id] at this;rw[this];show Option.or _ none=_;rw[Option.or_none];by_cases h:x∈l
 ·rw[if_pos h];have:(l.find? (fun a=>a==x)).isSome:=by rw[List.find?_isSome];exact ⟨x,h,by simp⟩
  obtain ⟨y,hy⟩:=Option.isSome_iff_exists.1 this;rw[hy];rfl
 ·rw[if_neg h,List.find?_eq_none.2]
  ·rfl
  ·intro y hy he;exact h (by rw[show x=y by simpa using (by simpa using he:y=x).symm];exact hy)
theorem DU {l:List El} (h:eF l):l.length≤256:=by
 have h1:=(A9 h).2;have h2:=vV h;have:=JA 256 _ h1 (by
  intro x hx;obtain ⟨e,he,rfl⟩:=List.mem_map.1 hx;have:=h2 e he;omega)
 simpa using this
theorem YL (p:Pl):∀l:List El,cnt p l≤2*l.length
 | []=>Nat.le_refl _
 |e::l=>by
  have ih:=YL p l;have e1:cnt p (e::l)=vw p e+cnt p l:=by simp[cnt]
  have e2:vw p e≤2:=by unfold vw;split<;>(try split)<;>(try split)<;>omega
  rw[e1,List.length_cons];omega
theorem WJ (p:Pl) (l:List El):(jM p l).length≤l.length:=by unfold jM;rw[List.length_map];exact List.length_filter_le _ _
theorem IL {p:Pl} {k:Pk} {l:List El} (hw:gJ k=some l):dW p k=if iB p l∧(dJ p∨k.ak≠48862∨∀m∈p.maps,m.to≤14) then some (gY p l) else none:=by unfold dW;rw[hw]
theorem vP {p:Pl} {k:Pk} {l:List El} (hw:gJ k=some l) (h:¬(iB p l∧(dJ p∨k.ak≠48862∨∀m∈p.maps,m.to≤14))):dW p k=none:=by rw[IL hw,if_neg h]
theorem Sn {p:Pl} {k:Pk} {l:List El} (hw:gJ k=some l) (h:iB p l∧(dJ p∨k.ak≠48862∨∀m∈p.maps,m.to≤14)):dW p k=some (gY p l):=by rw[IL hw,if_pos h]
theorem abY (p:Pl) (k:Pk) (hp:bR p) (hf:fq p) (hr:k.right) (ho:k.ok):PC Tryz.prog Pn [(cu,cK p),(gU,fP k)] [(.sl gM,dV ((dW p k).getD [])),(.bool,.bool (dW p k).isSome)]:=by
 have hpr:=hp.2.1;have n1:=((mH _).1 hp.2.1).2;have n2:=((mH _).1 hp.2.2.2.1).2;have n3:(p.over.map (·.id)).Nodup:=((mH _).1 (rP hp.2.2.2.2.1)).2;have hel:k.ext.length≤1000000:=by
  obtain ⟨⟨⟨_,_,r3⟩,f2,f3,f4,f5⟩,f6⟩:=hr;omega
 obtain ⟨w1,w2,w3,w4⟩:=hf;apply abG rfl;simp only[OZ,aF,aC,aB,au,aD,forall_const,List.length_map];refine ⟨fun hx=>⟨_,_,Rh k.ak ho.2 k.ext hel,fun he=>?_,fun he=>⟨_,Hr p ⟨w1,w2,w3,w4⟩,_,H8 p ⟨w1,w2,w3,w4⟩,_,Hq p ⟨w1,w2,w3,w4⟩,?_⟩⟩,fun hx=>⟨_,Hr p ⟨w1,w2,w3,w4⟩,_,H8 p ⟨w1,w2,w3,w4⟩,_,Hq p ⟨w1,w2,w3,w4⟩,?_⟩⟩
 ·have he:(spots k.ak k.ext).2≠0:=he;have:dW p k=none:=by unfold dW gJ;rw[if_pos hx,if_neg he]
  rw[this];rfl
 ·have he:(spots k.ak k.ext).2=0:=he;have hw:gJ k=some (iC k.ak k.ext):=by unfold gJ;rw[if_pos hx,if_pos he]
  have hcn:=aeQ k.ak k.ext;have hgood:=(jS k.ak k.ext).2.2;generalize iC k.ak k.ext=l at hw hcn hgood;refine VC.go_loop (fun i:Nat=> [.ls [],.bool false,dV (jM p (l.take i)),.int (cnt p (l.take i):Nat),.int (i:Int)]) (fun i=>i≤l.length∧nL p (l.take i)) (fun i=>l.length-i) 0 rfl ⟨Nat.zero_le _,fun e he=>absurd he (by simp)⟩ fun i hi=>?_;obtain ⟨i1,i2⟩:=hi;simp only[aF,aC,aB,au,aD,forall_const,List.length_map];refine ⟨fun hc=>?_,fun hc=>?_⟩
  ·have hk:i<l.length:=by omega
   have ht:=uD l i hk;have hmem:=r9 hk;rw[kF l i hk];generalize l.getD i El.zero=e at ht hmem;have hcl:=YL p (l.take i);have hol:=WJ p (l.take i);rw[List.length_take] at hcl hol;have hs:=agQ p (l.take i) e;have hct:=aif p (l.take i) e;have hls:=ag3 p (l.take i) e;have hdr:=ajs p.drops n2 e.id;rw[←ht] at hs hct hls;unfold vw at hct;simp only[eT,gQ,bL,dY,if_true,bC];by_cases hd:e.id∈p.drops
   ·rw[if_pos hd] at hs hct hdr;simp only[hdr,eT,gQ,gH];refine ⟨by omega,by omega,fun _=>⟨by omega,by omega,i+1,?_,⟨by omega,hls.2 ⟨i2,fun h=>absurd hd h⟩⟩,by omega⟩,fun h=>absurd h (by decide)⟩;rw[hs,hct];simp
   ·rw[if_neg hd] at hs hct hdr;simp only[hdr,eT,gQ,gH];refine ⟨by omega,by omega,fun h=>absurd h (by decide),fun _=>?_⟩;have hnew:iq p e=⟨newId p e.id,fK p e.id e.data⟩:=rfl;by_cases ho:e.id∈aK p.over
    ·rw[if_pos ho] at hct;simp only[JZ n3 e.data ho,eT,gQ,dY,bC,Option.isSome_some,gH,true_implies,reduceCtorEq,false_implies,and_true];refine ⟨fun hne=>?_,fun heq=>?_⟩
     ·have hno:¬(iB p l∧(dJ p∨k.ak≠48862∨∀m∈p.maps,m.to≤14)):=fun hh=>by
       have:=hh.1.2.1 e hmem hd;omega
      rw[vP hw hno];rfl
     ·have hl2:nL p (l.take (i+1)):=hls.2 ⟨i2,fun _=>by omega⟩;by_cases hm:e.id∈p.maps.map (·.fr)
      ·rw[if_pos hm] at hct;simp only[J8 n1 hm,eT,gQ,Option.isSome_some,gH,true_implies,if_true,List.length_cons,List.length_nil];refine ⟨by omega,by omega,by omega,by omega,i+1,?_,⟨by omega,hl2⟩,by omega⟩;rw[hs,hct,hnew];simp[Int.add_assoc]
      ·rw[if_neg hm] at hct;have hid:=yR hm;simp only[J9 n1 hm,Option.isSome_none,gH,reduceCtorEq,false_implies,true_and,if_false,List.length_cons,List.length_nil];refine ⟨by omega,by omega,by omega,i+1,?_,⟨by omega,hl2⟩,by omega⟩;rw[hs,hct,hnew,hid];simp[Int.add_assoc]
    ·rw[if_neg ho] at hct;have hdt:=EG e.data ho;have hl2:nL p (l.take (i+1)):=hls.2 ⟨i2,fun _=>by rw[hdt]⟩;simp only[J2 n3 ho,Option.isSome_none,gH,reduceCtorEq,false_implies,true_and,true_implies];by_cases hm:e.id∈p.maps.map (·.fr)
     ·rw[if_pos hm] at hct;simp only[J8 n1 hm,eT,gQ,Option.isSome_some,gH,true_implies,if_true,List.length_cons,List.length_nil];refine ⟨by omega,by omega,by omega,i+1,?_,⟨by omega,hl2⟩,by omega⟩;rw[hs,hct,hnew,hdt];simp[Int.add_assoc]
     ·rw[if_neg hm] at hct;have hid:=yR hm;simp only[J9 n1 hm,Option.isSome_none,gH,reduceCtorEq,false_implies,true_and,if_false,List.length_cons,List.length_nil];refine ⟨by omega,by omega,i+1,?_,⟨by omega,hl2⟩,by omega⟩;rw[hs,hct,hnew,hid,hdt];simp[Int.add_assoc]
  ·have hi3:i=l.length:=by omega
   subst hi3;rw[List.take_length] at i2 ⊢;have htot:=Vh hp hgood;have hac:=DU hp.2.2.2.2.2.1;have Lu:aK (gY p l)=aK (jM p l++p.adds):=rfl;have hlo:=WJ p l;have hmm:(jM p l).map fV++p.adds.map fV=(jM p l++p.adds).map fV:=by rw[List.map_append]
   have hdi:=PU (jM p l++p.adds) (by rw[List.length_append];omega);refine ⟨by omega,by omega,fun hne=>?_,fun heq=>⟨by omega,_,(by rw[hmm];exact hdi),fun hb=>?_,fun hb=>?_⟩⟩
   ·have hno:¬(iB p l∧(dJ p∨k.ak≠48862∨∀m∈p.maps,m.to≤14)):=fun hh=>by
     have:=htot.2 hh.1.1;omega
    rw[vP hw hno];rfl
   ·have hb:¬fQ (aK (jM p l++p.adds)):=of_decide_eq_false hb;have hno:¬(iB p l∧(dJ p∨k.ak≠48862∨∀m∈p.maps,m.to≤14)):=fun hh=>hb hh.1.2.2;rw[vP hw hno];rfl
   ·have hb:fQ (aK (jM p l++p.adds)):=of_decide_eq_true hb;have hme:iB p l:=⟨htot.1 (by omega),i2,hb⟩;refine VC.go_loop (fun j:Nat=> [.ls [],.bool false,.int (j:Int)]) (fun j=>j≤p.maps.length∧(dJ p∨k.ak≠48862∨∀m∈p.maps.take j,m.to≤14)) (fun j=>p.maps.length-j) 0 rfl ⟨Nat.zero_le _,.inr (.inr (by simp))⟩ fun j hj=>?_;obtain ⟨j1,j2⟩:=hj;simp only[aF,aC,aB,au,aD,forall_const,List.length_map];refine ⟨fun hc=>?_,fun hc=>?_⟩
    ·have hk:j<p.maps.length:=by omega
     have ht:=List.take_succ_eq_append_getElem hk;have hg:(p.maps.map jR).getD (j:Int).toNat default=jR p.maps[j]:=by simp[List.getD,hk]
     have hm:=List.getElem_mem hk;rw[hg];generalize p.maps[j]=m at ht hm;refine ⟨by omega,by omega,_,AY p,?_⟩;simp only[aC,aB,au,aD,forall_const];have han:(p.drops≠[]∨p.adds≠[])↔dJ p:=Iff.rfl;rw[han];refine ⟨fun h=>?_,fun h=>⟨by omega,j+1,rfl,⟨by omega,?_⟩,by omega⟩⟩
     ·have hno:¬(iB p l∧(dJ p∨k.ak≠48862∨∀m∈p.maps,m.to≤14)):=fun hh=>by
       rcases hh.2 with h2|h2|h2
       ·exact h.1.1 h2
       ·omega
       ·have:=h2 m hm;omega
      rw[vP hw hno];rfl
     ·by_cases h1:dJ p
      ·exact .inl h1
      ·by_cases h2:k.ak=48862
       ·refine .inr (.inr fun x hx=>?_);rw[ht] at hx;rcases List.mem_append.1 hx with hx|hx
        ·rcases j2 with j2|j2|j2
         ·exact absurd j2 h1
         ·exact absurd h2 j2
         ·exact j2 x hx
        ·rw[List.mem_singleton] at hx;subst hx;rcases h with h|h
         ·exact absurd ⟨h1,by omega⟩ h
         ·exact h
       ·exact .inr (.inl h2)
    ·have hj2:j=p.maps.length:=by omega
     subst hj2;rw[List.take_length] at j2;rw[Sn hw ⟨hme,j2⟩,hmm];rfl
 ·have hw:gJ k=some []:=by unfold gJ;rw[if_neg (by rw[hx];decide)]
  refine VC.go_loop (fun i:Nat=> [.ls [],.bool false,.ls [],.int 0,.int (i:Int)]) (fun i=>i=0) (fun i=>0) 0 rfl rfl fun i hi=>?_;subst hi;simp only[aF,aC,aB,au,aD,forall_const,List.length_map];refine ⟨fun hc=>by omega,fun _=>?_⟩;have i2:nL p []:=fun e he=>absurd he (by simp);have hgood:eF []:=fun j hj=>absurd hj (by simp);have htot:=Vh hp hgood;have hac:=DU hp.2.2.2.2.2.1;have Lu:aK (gY p [])=aK (jM p []++p.adds):=rfl;have c0:cnt p []=0:=rfl;have l0:(jM p []).length=0:=rfl;have n0:([]:List C).length=0:=rfl;have hmm:(jM p []).map fV++p.adds.map fV=(jM p []++p.adds).map fV:=by rw[List.map_append]
  have hdi:=PU (jM p []++p.adds) (by rw[List.length_append];omega);refine ⟨by omega,by omega,fun hne=>?_,fun heq=>⟨by omega,_,(by exact hdi),fun hb=>?_,fun hb=>?_⟩⟩
  ·have hno:¬(iB p []∧(dJ p∨k.ak≠48862∨∀m∈p.maps,m.to≤14)):=fun hh=>by
    have:=htot.2 hh.1.1;omega
   rw[vP hw hno];rfl
  ·have hb:¬fQ (aK (jM p []++p.adds)):=of_decide_eq_false hb;have hno:¬(iB p []∧(dJ p∨k.ak≠48862∨∀m∈p.maps,m.to≤14)):=fun hh=>hb hh.1.2.2;rw[vP hw hno];rfl
  ·have hb:fQ (aK (jM p []++p.adds)):=of_decide_eq_true hb;have hme:iB p []:=⟨htot.1 (by omega),i2,hb⟩;refine VC.go_loop (fun j:Nat=> [.ls [],.bool false,.int (j:Int)]) (fun j=>j≤p.maps.length∧(dJ p∨k.ak≠48862∨∀m∈p.maps.take j,m.to≤14)) (fun j=>p.maps.length-j) 0 rfl ⟨Nat.zero_le _,.inr (.inr (by simp))⟩ fun j hj=>?_;obtain ⟨j1,j2⟩:=hj;simp only[aF,aC,aB,au,aD,forall_const,List.length_map];refine ⟨fun hc=>?_,fun hc=>?_⟩
   ·have hk:j<p.maps.length:=by omega
    have ht:=List.take_succ_eq_append_getElem hk;have hg:(p.maps.map jR).getD (j:Int).toNat default=jR p.maps[j]:=by simp[List.getD,hk]
    have hm:=List.getElem_mem hk;rw[hg];generalize p.maps[j]=m at ht hm;refine ⟨by omega,by omega,_,AY p,?_⟩;simp only[aC,aB,au,aD,forall_const];have han:(p.drops≠[]∨p.adds≠[])↔dJ p:=Iff.rfl;rw[han];refine ⟨fun h=>?_,fun h=>⟨by omega,j+1,rfl,⟨by omega,?_⟩,by omega⟩⟩
    ·have hno:¬(iB p []∧(dJ p∨k.ak≠48862∨∀m∈p.maps,m.to≤14)):=fun hh=>by
      rcases hh.2 with h2|h2|h2
      ·exact h.1.1 h2
      ·omega
      ·have:=h2 m hm;omega
     rw[vP hw hno];rfl
    ·by_cases h1:dJ p
     ·exact .inl h1
     ·by_cases h2:k.ak=48862
      ·refine .inr (.inr fun x hx=>?_);rw[ht] at hx;rcases List.mem_append.1 hx with hx|hx
       ·rcases j2 with j2|j2|j2
        ·exact absurd j2 h1
        ·exact absurd h2 j2
        ·exact j2 x hx
       ·rw[List.mem_singleton] at hx;subst hx;rcases h with h|h
        ·exact absurd ⟨h1,by omega⟩ h
        ·exact h
      ·exact .inr (.inl h2)
   ·have hj2:j=p.maps.length:=by omega
    subst hj2;rw[List.take_length] at j2;rw[Sn hw ⟨hme,j2⟩];rfl
theorem VO (aj:Bool):∀(l:List (Nat×El)) (p:Nat),∀s∈gy aj p l,p+Plain.ahead aj≤s.pos
 | [],_,s,h=>absurd h (by simp[gy])
 |(n,e)::l,p,s,h=>by
  rw[gy] at h;rcases List.mem_cons.1 h with rfl|h
  ·simp only;omega
  ·have:=VO aj l _ s h;omega
theorem BG {q:Nat} {b:List UInt8} (h:(spots q b).2=0):∀s∈(spots q b).1,Plain.ahead (decide (q=48862))≤s.pos:=by
 obtain ⟨aj,l,r,h1,_,h3,_⟩:=AV h;rw[h3];have e:decide (q=48862)=aj:=by
  unfold kV at h1;cases aj with
  |true=>simpa using h1
  |false=>simp at h1;simp;omega
 rw[e];intro s hs;have:=VO aj l 0 s hs;omega
theorem T9 {p:Pl} {aj:Bool} {x:List UInt8} {s:Sp} (h1:Plain.ahead aj≤s.pos) (h2:s.pos+s.size≤x.length) (hl:(s.id:Int)∈aK p.over→(fK p s.id []).length=s.size):(lX p aj x s).length=x.length:=by
 have ha:1≤Plain.ahead aj:=by unfold Plain.ahead;split<;>omega
 show (if (s.id:Int)∈aK p.over then putAt (if (s.id:Int)∈p.maps.map (·.fr) then putAt x (s.pos-Plain.ahead aj) [jW aj (newId p s.id) (at_ x (s.pos-Plain.ahead aj))] else x) s.pos (fK p s.id []) else (if (s.id:Int)∈p.maps.map (·.fr) then putAt x (s.pos-Plain.ahead aj) [jW aj (newId p s.id) (at_ x (s.pos-Plain.ahead aj))] else x)).length=_;have hy:(if (s.id:Int)∈p.maps.map (·.fr) then putAt x (s.pos-Plain.ahead aj) [jW aj (newId p s.id) (at_ x (s.pos-Plain.ahead aj))] else x).length=x.length:=by
  split
  ·exact qx _ _ _ (by simp;omega)
  ·rfl
 split
 ·rename_i ho;rw[qx _ _ _ (by rw[hy,hl ho];exact h2),hy]
 ·exact hy
theorem Ke (id:Int) (h:1≤id∧id≤255) (o:Nat) (ho:o<256):arith .or .u8 (arith .shl .u8 (IntKind.u8.wrap id) 4) (arith .and .u8 (o:Int) 15)=((jW true id o).toNat:Int):=by
 obtain ⟨n,rfl⟩:∃n:Nat,id=n:=⟨id.toNat,by omega⟩;have e1:IntKind.u8.wrap (n:Int)=(n:Int):=by rw[rW];omega
 have e2:arith .shl .u8 (n:Int) 4=((n%16*2^4:Nat):Int):=by
  rw[vY,rW];simp[IntKind.bits];omega
 rw[e1,e2,KC o ho,BD rfl (by show _<2^8;omega) (by show _<2^8;omega),zF _ _ _ (by omega)];unfold jW;rw[if_pos rfl,Int.toNat_natCast,UInt8.toNat_ofNat'];congr 1
 omega
theorem JE (id:Int) (h:1≤id∧id≤255) (o:Nat):IntKind.u8.wrap id=((jW false id o).toNat:Int):=by
 obtain ⟨n,rfl⟩:∃n:Nat,id=n:=⟨id.toNat,by omega⟩;rw[jU];unfold jW;rw[if_neg (by decide),Int.toNat_natCast]
theorem JV (y d:List UInt8) (k n m:Nat) (h:k+d.length≤y.length) (hn:d.length≤n) (hm:m=0):splice (ofBytes y) k (List.drop m (List.take n (ofBytes d)))=ofBytes (putAt y k d):=by
 subst hm;rw[List.drop_zero,List.take_of_length_le (by simpa using hn),PW];unfold splice putAt;rw[List.take_of_length_le (l:=d) (by omega)]
theorem acE (p:Pl) (k:Pk) (hp:bR p) (hf:fq p) (ho:k.ok) (hel:k.ext.length≤1000000) (he:(spots k.ak k.ext).2=0) (hl:∀s∈(spots k.ak k.ext).1,(s.id:Int)∈aK p.over→(fK p s.id []).length=s.size):PC Tryz.prog P5 [(cu,cK p),(gU,fP k)] [(aV,B (ig p k))]:=by
 have n1:=((mH _).1 hp.2.1).2;have n3:(p.over.map (·.id)).Nodup:=((mH _).1 (rP hp.2.2.2.2.1)).2;have hge:=BG he;obtain ⟨hsz,_,_⟩:=jS k.ak k.ext;have hct:=vN k.ak k.ext;apply abR rfl;simp only[O9,aF,aC,aB,au,aD,forall_const,List.length_map];refine ⟨_,PI k.ext hel,_,_,Hu k.ak ho.2 k.ext hel,_,H8 p hf,_,Hq p hf,?_⟩;unfold ig bO;generalize (spots k.ak k.ext).1=l at hge hsz hct hl;have hmono:∀i,i≤l.length→((l.take i).foldl (lX p (decide (k.ak=48862))) k.ext).length=k.ext.length:=by
  intro i;induction i with
  |zero=>intro _;rfl
  |succ i ih=>
   intro hi;have hk:i<l.length:=by omega
   have hm:=List.getElem_mem hk;rw[List.take_succ_eq_append_getElem hk,List.foldl_append,List.foldl_cons,List.foldl_nil,T9 (hge _ hm) (by rw[ih (by omega)];exact hsz _ hm) (hl _ hm),ih (by omega)]
 refine VC.go_loop (fun i:Nat=> [.int (i:Int),B ((l.take i).foldl (lX p (decide (k.ak=48862))) k.ext)]) (fun i=>i≤l.length) (fun i=>l.length-i) 0 rfl (Nat.zero_le _) fun i hi=>?_;have hlen:=hmono i hi;simp only[aF,aC,aB,au,aD,forall_const,List.length_map,bC];refine ⟨fun hc=>?_,fun hc=>?_⟩
 ·have hk:i<l.length:=by omega
  have hm:=List.getElem_mem hk;have ht:=List.take_succ_eq_append_getElem hk;have hg:(l.map tC).getD (i:Int).toNat default=tC l[i]:=by simp[List.getD,hk]
  rw[hg];generalize l[i]=s at ht hm;have hge:=hge s hm;have hsz:=hsz s hm;have hl:=hl s hm;have hnext:(l.take (i+1)).foldl (lX p (decide (k.ak=48862))) k.ext=lX p (decide (k.ak=48862)) ((l.take i).foldl (lX p (decide (k.ak=48862))) k.ext) s:=by rw[ht,List.foldl_append];rfl
  generalize (l.take i).foldl (lX p (decide (k.ak=48862))) k.ext=x at hlen hnext;have hst:lX p (decide (k.ak=48862)) x s=(if (s.id:Int)∈aK p.over then putAt (if (s.id:Int)∈p.maps.map (·.fr) then putAt x (s.pos-Plain.ahead (decide (k.ak=48862))) [jW (decide (k.ak=48862)) (newId p s.id) (at_ x (s.pos-Plain.ahead (decide (k.ak=48862))))] else x) s.pos (fK p s.id []) else (if (s.id:Int)∈p.maps.map (·.fr) then putAt x (s.pos-Plain.ahead (decide (k.ak=48862))) [jW (decide (k.ak=48862)) (newId p s.id) (at_ x (s.pos-Plain.ahead (decide (k.ak=48862))))] else x)):=rfl;rw[hst] at hnext;simp only[eT,gQ,bL,dY,if_true];have Aj:(s.id:Int)∈p.maps.map (·.fr)→1≤newId p s.id∧newId p s.id≤255:=fun h=>by
   obtain ⟨m,hm,_,e⟩:=Cn h;have:=oq hp.2.2.1 m.to (List.mem_map.2 ⟨m,hm,rfl⟩);rw[e];exact this
  by_cases hmp:(s.id:Int)∈p.maps.map (·.fr)
  ·rw[if_pos hmp] at hnext;have Aj:=Aj hmp;simp only[J8 n1 hmp,eT,gQ,Option.isSome_some,gH,true_implies,bL,reduceCtorEq,false_implies,and_true];by_cases hov:(s.id:Int)∈aK p.over
   ·rw[if_pos hov] at hnext;have hl:=hl hov;simp only[JZ n3 [] hov,eT,gQ,dY,bC,Option.isSome_some,gH,true_implies,reduceCtorEq,false_implies,and_true];refine ⟨by omega,by omega,fun hq=>?_,fun hq=>?_⟩
    ·have hq2:decide (k.ak=48862)=true:=decide_eq_true (by omega);rw[hq2] at hnext hge;have ha:Plain.ahead true=1:=rfl;rw[ha] at hnext hge;refine ⟨by omega,by omega,by omega,by omega,by omega,by omega,by omega,by omega,by omega,by omega,i+1,?_,by omega,by omega⟩;have e1:((s.pos:Int)-1).toNat=s.pos-1:=by omega
     have e2:((k.ext.length:Int)-(s.pos:Int)).toNat=k.ext.length-s.pos:=by omega
     rw[hq2,hnext,e1,e2,jg,bL,lG,Ke _ Aj _ (fF x (s.pos-1)),qy,vU _ _ _ (by omega),Int.toNat_natCast,JV _ _ _ _ (Int.toNat 0) (by rw[qx _ _ _ (by simp;omega)];omega) (by omega) rfl];rfl
    ·have hq2:decide (k.ak=48862)=false:=decide_eq_false (by omega);rw[hq2] at hnext hge;have ha:Plain.ahead false=2:=rfl;rw[ha] at hnext hge;refine ⟨by omega,by omega,by omega,by omega,by omega,by omega,by omega,i+1,?_,by omega,by omega⟩;have e1:((s.pos:Int)-2).toNat=s.pos-2:=by omega
     have e2:((k.ext.length:Int)-(s.pos:Int)).toNat=k.ext.length-s.pos:=by omega
     rw[hq2,hnext,e1,e2,JE _ Aj (at_ x (s.pos-2)),qy,vU _ _ _ (by omega),Int.toNat_natCast,JV _ _ _ _ (Int.toNat 0) (by rw[qx _ _ _ (by simp;omega)];omega) (by omega) rfl];rfl
   ·rw[if_neg hov] at hnext;simp only[J2 n3 hov,Option.isSome_none,gH,true_implies,reduceCtorEq,false_implies,true_and];refine ⟨by omega,by omega,fun hq=>?_,fun hq=>?_⟩
    ·have hq2:decide (k.ak=48862)=true:=decide_eq_true (by omega);rw[hq2] at hnext hge;have ha:Plain.ahead true=1:=rfl;rw[ha] at hnext hge;refine ⟨by omega,by omega,by omega,by omega,by omega,by omega,by omega,i+1,?_,by omega,by omega⟩;have e1:((s.pos:Int)-1).toNat=s.pos-1:=by omega
     rw[hq2,hnext,e1,jg,bL,lG,Ke _ Aj _ (fF x (s.pos-1)),qy,vU _ _ _ (by omega)];rfl
    ·have hq2:decide (k.ak=48862)=false:=decide_eq_false (by omega);rw[hq2] at hnext hge;have ha:Plain.ahead false=2:=rfl;rw[ha] at hnext hge;refine ⟨by omega,by omega,by omega,by omega,i+1,?_,by omega,by omega⟩;have e1:((s.pos:Int)-2).toNat=s.pos-2:=by omega
     rw[hq2,hnext,e1,JE _ Aj (at_ x (s.pos-2)),qy,vU _ _ _ (by omega)];rfl
  ·rw[if_neg hmp] at hnext;simp only[J9 n1 hmp,Option.isSome_none,gH,true_implies,reduceCtorEq,false_implies,true_and];by_cases hov:(s.id:Int)∈aK p.over
   ·rw[if_pos hov] at hnext;have hl:=hl hov;simp only[JZ n3 [] hov,eT,gQ,dY,bC,Option.isSome_some,gH,true_implies,reduceCtorEq,false_implies,and_true];refine ⟨by omega,by omega,by omega,by omega,by omega,by omega,i+1,?_,by omega,by omega⟩;have e2:((k.ext.length:Int)-(s.pos:Int)).toNat=k.ext.length-s.pos:=by omega
    rw[hnext,e2,Int.toNat_natCast,JV _ _ _ _ (Int.toNat 0) (by omega) (by omega) rfl];rfl
   ·rw[if_neg hov] at hnext;simp only[J2 n3 hov,Option.isSome_none,gH,true_implies,reduceCtorEq,false_implies,true_and];refine ⟨by omega,by omega,by omega,i+1,?_,by omega,by omega⟩;rw[hnext];rfl
 ·have:i=l.length:=by omega
  subst this;rw[List.take_length]
end Go.Vc
