/-
  Contracts of functions of the program, each out of its condition or by a walk, and plain lemmas.
-/
import Derived.Test.YtaehhpempnelhaaGreatDoorQVcs1
import Derived.Test.YtaehhpempnelhaaGreatDoorQTx1
import Derived.Test.YtaehhpempnelhaaGreatDoorQBase3
import Derived.Test.YtaehhpempnelhaaGreatDoorQBase1
import Derived.Lib.ItoaNum
set_option maxRecDepth 100000
namespace Go.Vc
open Go Go.Proofs Go.Plain
abbrev gM:Sh:= .pair I64 (.pair (.sl U8) .unit)
abbrev fV (e:El):C:= .ls [.int e.id,.ls (ofBytes e.data)]
abbrev dV (l:List El):C:= .ls (l.map fV)
theorem Ec (x:Int) (k:Int) (v:C):∀l:List C,fE (jG l k v) x=if k=x then some (.ls [.int k,v]) else fE l x
 | []=>by
  by_cases h:k=x
  ·simp[jG,fE,h]
  ·simp[jG,fE,h]
 |d::l=>by
  have ih:=Ec x k v l;by_cases h:d.hd.toInt=k
  ·rw[jG,if_pos h];by_cases hx:k=x
   ·simp[fE,hx]
   ·have:¬d.hd.toInt=x:=fun e=>hx (h.symm.trans e);simp[fE,hx,this]
  ·rw[jG,if_neg h];by_cases hd:d.hd.toInt=x
   ·have:¬k=x:=fun e=>h (hd.trans e.symm);simp[fE,hd,this]
   ·have e1:fE (d::jG l k v) x=fE (jG l k v) x:=by simp[fE,hd]
    have e2:fE (d::l) x=fE l x:=by simp[fE,hd]
    rw[e1,ih,e2]
def gu (m:List C) (x:Int):Bool:=(match fE m x with|some d=>d.tl.hd|none=>C.bool false).toBool
theorem tQ (x:Int):gu [] x=false:=rfl
theorem vS (m:List C) (k x:Int):gu (jG m k (.bool true)) x=if k=x then true else gu m x:=by
 unfold gu;rw[Ec];by_cases h:k=x<;>simp[h]
theorem kF (l:List El) (i:Nat) (h:i<l.length):(l.map fV).getD ((i:Int)).toNat default=fV (l.getD i El.zero):=by simp[List.getD,h]
theorem uD (l:List El) (i:Nat) (h:i<l.length):l.take (i+1)=l.take i++ [l.getD i El.zero]:=by rw[List.take_succ_eq_append_getElem h];simp[List.getD,h]
theorem r9 {l:List El} {i:Nat} (h:i<l.length):l.getD i El.zero∈l:=by simp[List.getD,h]
structure Dl where
 k:Nat
 m:List C
theorem Hw (l:List El) (hl:l.length≤1000000):PC Tryz.prog RP [(.sl gM,dV l)] [(.bool,.bool (decide (eF l)))]:=by
 apply adh rfl;simp only[Qw,aF,aC,aB,au,aD,forall_const,List.length_map];refine VC.go_loop (fun s:Dl=> [.bool false,.int (s.k:Int),.ls s.m]) (fun s=>s.k≤l.length∧(∀j,j<s.k→p8 l j)∧∀x:Int,gu s.m x=decide (x∈aK (l.take s.k))) (fun s=>l.length-s.k) ⟨0,[]⟩ rfl
  ⟨Nat.zero_le _,fun j hj=>absurd hj (Nat.not_lt_zero j),fun x=>by simp[tQ,aK]⟩ fun s hs=>?_
 obtain ⟨i1,i2,i3⟩:=hs;simp only[aF,aC,aB,au,aD,forall_const,List.length_map];refine ⟨fun hc=>?_,fun hc=>?_⟩
 ·have hk:s.k<l.length:=by omega
  have hg:(l.map fV).getD ((s.k:Int)).toNat default=fV (l.getD s.k El.zero):=by simp[List.getD,hk]
  rw[hg];have hat:p8 l s.k↔1≤(l.getD s.k El.zero).id∧(l.getD s.k El.zero).id≤255∧(l.getD s.k El.zero).data.length≤255∧(l.getD s.k El.zero).id∉aK (l.take s.k):=Iff.rfl;have htk:l.take (s.k+1)=l.take s.k++ [l.getD s.k El.zero]:=by rw[List.take_succ_eq_append_getElem hk];simp[List.getD,hk]
  generalize l.getD s.k El.zero=e at hat htk;have hm:=i3 e.id;simp only[eT,gQ,bL,dY,bC,if_true];refine ⟨by omega,by omega,fun h=>?_,fun h=>?_⟩
  ·have h:((e.id<1∨255<e.id)∨gu s.m e.id=true)∨(255:Int)<e.data.length:=h;rw[hm,decide_eq_true_eq] at h;have hn:¬eF l:=fun hr=>by
    have h1:=hat.1 (hr s.k hk);rcases h with (h|h)|h
    ·omega
    ·exact h1.2.2.2 h
    ·omega
   rw[decide_eq_false hn]
  ·have h:¬((e.id<1∨255<e.id)∨gu s.m e.id=true)∧(e.data.length:Int)≤255:=h;rw[hm,decide_eq_true_eq] at h
   ·have hin:¬e.id∈aK (l.take s.k):=fun hh=>h.1 (.inr hh);have h2:¬(e.id<1∨255<e.id):=fun hh=>h.1 (.inl hh);have hok:1≤e.id∧e.id≤255∧e.data.length≤255:=by omega
    refine ⟨by omega,⟨s.k+1,_⟩,by simp;rfl,⟨by simp only;omega,fun j hj=>?_,fun x=>?_⟩,by simp only;omega⟩
    ·by_cases hjk:j=s.k
     ·rw[hjk];exact hat.2 ⟨hok.1,hok.2.1,hok.2.2,hin⟩
     ·simp only at hj;exact i2 j (by omega)
    ·simp only;rw[vS,i3,htk];by_cases hx:e.id=x
     ·rw[if_pos hx];simp[aK,hx]
     ·have:¬x=e.id:=fun h=>hx h.symm;rw[if_neg hx];simp[aK,this]
 ·have he:s.k=l.length:=by omega
  rw[decide_eq_true (show eF l from fun j hj=>i2 j (by omega))]
theorem Hf (l:List El) (hl:l.length≤1000000):PC Tryz.prog NW [(.sl gM,dV l)] [(.bool,.bool (decide (eF l)))]:=by
 apply aaS rfl;simp only[M8,aF,aC,aB,au,aD,forall_const,List.length_map];refine VC.go_loop (fun i:Nat=> [.bool false,.int (i:Int)]) (fun i=>i≤l.length∧∀j,j<i→p8 l j) (fun i=>l.length-i) 0 rfl ⟨Nat.zero_le _,fun j hj=>absurd hj (Nat.not_lt_zero j)⟩ fun i hi=>?_;obtain ⟨i1,i2⟩:=hi;simp only[aF,aC,aB,au,aD,forall_const,List.length_map];refine ⟨fun hc=>?_,fun hc=>?_⟩
 ·have hk:i<l.length:=by omega
  have hg:=kF l i hk;have hat:p8 l i↔1≤(l.getD i El.zero).id∧(l.getD i El.zero).id≤255∧(l.getD i El.zero).data.length≤255∧(l.getD i El.zero).id∉aK (l.take i):=Iff.rfl;generalize l.getD i El.zero=e at hat hg;simp only[hg,eT,gQ,bL,dY,bC];refine ⟨by omega,by omega,fun _=>by omega,fun _=>by omega,fun _=>by omega,fun _=>by omega,fun h=>?_,fun h=>?_⟩
  ·have:¬eF l:=fun hr=>by
    have:=hat.1 (hr i hk);omega
   rw[decide_eq_false this]
  ·refine VC.go_loop (fun k:Nat=> [.bool false,.int (k:Int)]) (fun k=>k≤i∧∀j,j<k→(l.getD j El.zero).id≠e.id) (fun k=>i-k) 0 rfl ⟨Nat.zero_le _,fun j hj=>absurd hj (Nat.not_lt_zero j)⟩ fun k hk2=>?_;obtain ⟨k1,k2⟩:=hk2;simp only[aF,aC,aB,au,aD,forall_const,List.length_map];refine ⟨fun hc2=>?_,fun hc2=>?_⟩
   ·have hg2:=kF l k (by omega);have hid:(l.getD k El.zero).id∈aK (l.take i):=by
     have:l.getD k El.zero∈l.take i:=by
      rw[List.mem_take_iff_getElem];refine ⟨k,by omega,?_⟩;simp[List.getD,show k<l.length by omega]
     exact List.mem_map.2 ⟨_,this,rfl⟩
    simp only[hg,hg2,eT,gQ,bL,dY];refine ⟨by omega,by omega,by omega,by omega,fun h3=>?_,fun h3=>⟨by omega,k+1,by simp,⟨by omega,fun j hj=>?_⟩,by omega⟩⟩
    ·have:¬eF l:=fun hr=>by
      have:=(hat.1 (hr i hk)).2.2.2;rw[←h3] at this;exact this hid
     rw[decide_eq_false this]
    ·by_cases hjk:j=k
     ·rw[hjk];exact h3
     ·exact k2 j (by omega)
   ·have hki:k=i:=by omega
    subst hki;refine ⟨by omega,k+1,by simp,⟨by omega,fun j hj=>?_⟩,by omega⟩;by_cases hjk:j=k
    ·rw[hjk];refine hat.2 ⟨by omega,by omega,by omega,fun hm=>?_⟩;obtain ⟨x,hx,hxe⟩:=List.mem_map.1 hm;obtain ⟨j2,hj2,rfl⟩:=(List.mem_take_iff_getElem).1 hx;refine k2 j2 (by omega) ?_;rw[←hxe];simp[List.getD,show j2<l.length by omega]
    ·exact i2 j (by omega)
 ·have he:i=l.length:=by omega
  rw[decide_eq_true (show eF l from fun j hj=>i2 j (by omega))]
def wK (l:List El):Bool:=decide ((∀e∈l,e.data.length≤400)∧l.length≤300)
theorem PN (l:List El) (hl:l.length≤maxLen):PC Tryz.prog NV [(.sl gM,dV l)] [(.bool,.bool (wK l))]:=by
 apply aaR rfl;simp only[maxLen] at hl;simp only[M7,aF,aC,aB,au,aD,forall_const,List.length_map];refine VC.go_loop (fun i:Nat=> [.bool false,.int (i:Int)]) (fun i=>i≤l.length∧∀e∈l.take i,e.data.length≤400) (fun i=>l.length-i) 0 rfl ⟨Nat.zero_le _,by simp⟩ fun i hi=>?_;obtain ⟨i1,i2⟩:=hi;simp only[aF,aC,aB,au,aD,forall_const,List.length_map];refine ⟨fun hc=>?_,fun hc=>?_⟩
 ·have hk:i<l.length:=by omega
  have hm:=r9 hk;have ht:=uD l i hk;rw[kF l i hk];generalize l.getD i El.zero=e at hm ht;simp only[eT,gQ,bL,dY,bC];refine ⟨by omega,by omega,fun h=>?_,fun h=>⟨by omega,i+1,by simp,⟨by omega,?_⟩,by omega⟩⟩
  ·have:wK l=false:=decide_eq_false fun hall=>by
    have:=hall.1 e hm;omega
   rw[this]
  ·rw[ht];intro x hx;rcases List.mem_append.1 hx with hx|hx
   ·exact i2 x hx
   ·rw[List.mem_singleton] at hx;subst hx;omega
 ·have he:i=l.length:=by omega
  rw[he,List.take_length] at i2;congr 3
  unfold wK;rw[decide_eq_decide];constructor
  ·intro h;exact ⟨i2,by omega⟩
  ·intro h;omega
abbrev ni:Sh:= .pair I64 (.pair I64 .unit)
abbrev jR (m:Mp):C:= .ls [.int m.fr,.int m.to]
abbrev oV (l:List Mp):C:= .ls (l.map jR)
abbrev Ints (l:List Int):C:= .ls (l.map .int)
theorem qF (l:List Mp) (i:Nat) (h:i<l.length):(l.map jR).getD i default=jR (l.getD i Mp.zero):=by simp[List.getD,h]
theorem y7 (l:List Int) (i:Nat) (h:i<l.length):(l.map C.int).getD i default= .int (l.getD i 0):=by simp[List.getD,h]
theorem aey (m:Mp):PC Tryz.prog Io [(ni,jR m)] [(I64,.int m.fr)]:=by
 apply adJ rfl;simp only[QV,aF,aC,aB,au,aD,forall_const]
theorem af3 (m:Mp):PC Tryz.prog Jg [(ni,jR m)] [(I64,.int m.to)]:=by
 apply ae5 rfl;simp only[Tn,aF,aC,aB,au,aD,forall_const]
theorem adr (n:Int):PC Tryz.prog Hy [(I64,.int n)] [(I64,.int n)]:=by
 apply acn rfl;simp only[Pt,aF,aC,aB,au,aD,forall_const]
theorem ab0 (l:List Mp) (hl:l.length≤1000000):PC Tryz.prog Mx [(.sl ni,oV l),(.dZ Io,.ls [])] [(.bool,.bool (decide (fQ (l.map (·.fr)))))]:=by
 apply aav rfl;simp only[Mv,aF,aC,aB,au,aD,forall_const,List.length_map];refine VC.go_loop (fun s:Dl=> [.bool false,.int (s.k:Int),.ls s.m]) (fun s=>s.k≤l.length∧(∀j,j<s.k→ku (l.map (·.fr)) j)∧∀x:Int,gu s.m x=decide (x∈(l.map (·.fr)).take s.k)) (fun s=>l.length-s.k) ⟨0,[]⟩ rfl
  ⟨Nat.zero_le _,fun j hj=>absurd hj (Nat.not_lt_zero j),fun x=>by simp[tQ]⟩ fun s hs=>?_
 obtain ⟨i1,i2,i3⟩:=hs;simp only[aF,aC,aB,au,aD,forall_const,List.length_map];refine ⟨fun hc=>?_,fun hc=>?_⟩
 ·have hk:s.k<l.length:=by omega
  have hv:(l.map (·.fr)).getD s.k 0=((l.getD s.k Mp.zero).fr):=by simp[List.getD,hk]
  have hat:ku (l.map (·.fr)) s.k↔1≤((l.getD s.k Mp.zero).fr)∧((l.getD s.k Mp.zero).fr)≤255∧((l.getD s.k Mp.zero).fr)∉(l.map (·.fr)).take s.k:=by unfold ku;rw[hv]
  have htk:(l.map (·.fr)).take (s.k+1)=(l.map (·.fr)).take s.k++ [((l.getD s.k Mp.zero).fr)]:=by rw[List.take_succ_eq_append_getElem (by simpa using hk),←hv];simp[List.getD,hk]
  rw[Int.toNat_natCast,qF l s.k hk];try simp only[eT,gQ,bL,dY]
  refine ⟨by omega,by omega,_,aey _,?_⟩;simp only[bL];generalize ((l.getD s.k Mp.zero).fr)=e at hat htk;have hm:=i3 e;refine ⟨fun h=>?_,fun h=>?_⟩
  ·have h:(e<1∨255<e)∨gu s.m e=true:=by
    rcases h with h|h
    ·exact .inl h
    ·rw[if_pos trivial] at h;exact .inr h
   rw[hm,decide_eq_true_eq] at h;have hn:¬fQ (l.map (·.fr)):=fun hr=>by
    have h1:=hat.1 (hr s.k (by simpa using hk));rcases h with h|h
    ·omega
    ·exact h1.2.2 h
   rw[decide_eq_false hn]
  ·have h:¬(e<1∨255<e)∧gu s.m e=false:=⟨h.1,by have h2:=h.2;rw[if_pos trivial] at h2;exact h2⟩;rw[hm,decide_eq_false_iff_not] at h;refine ⟨by omega,⟨s.k+1,_⟩,by simp;rfl,⟨by simp only;omega,fun j hj=>?_,fun x=>?_⟩,by simp only;omega⟩
   ·by_cases hjk:j=s.k
    ·rw[hjk];exact hat.2 ⟨by omega,by omega,h.2⟩
    ·simp only at hj;exact i2 j (by omega)
   ·simp only;rw[vS,i3,htk];by_cases hx:e=x
    ·rw[if_pos hx];simp[hx]
    ·have:¬x=e:=fun h=>hx h.symm;rw[if_neg hx];simp[this]
 ·have he:s.k=l.length:=by omega
  rw[decide_eq_true (show fQ (l.map (·.fr)) from fun j hj=>i2 j (by first|(simp at hj;omega)|omega))]
theorem adx (l:List Mp) (hl:l.length≤1000000):PC Tryz.prog MF [(.sl ni,oV l),(.dZ Jg,.ls [])] [(.bool,.bool (decide (fQ (l.map (·.to)))))]:=by
 apply aax rfl;simp only[MB,aF,aC,aB,au,aD,forall_const,List.length_map];refine VC.go_loop (fun s:Dl=> [.bool false,.int (s.k:Int),.ls s.m]) (fun s=>s.k≤l.length∧(∀j,j<s.k→ku (l.map (·.to)) j)∧∀x:Int,gu s.m x=decide (x∈(l.map (·.to)).take s.k)) (fun s=>l.length-s.k) ⟨0,[]⟩ rfl
  ⟨Nat.zero_le _,fun j hj=>absurd hj (Nat.not_lt_zero j),fun x=>by simp[tQ]⟩ fun s hs=>?_
 obtain ⟨i1,i2,i3⟩:=hs;simp only[aF,aC,aB,au,aD,forall_const,List.length_map];refine ⟨fun hc=>?_,fun hc=>?_⟩
 ·have hk:s.k<l.length:=by omega
  have hv:(l.map (·.to)).getD s.k 0=((l.getD s.k Mp.zero).to):=by simp[List.getD,hk]
  have hat:ku (l.map (·.to)) s.k↔1≤((l.getD s.k Mp.zero).to)∧((l.getD s.k Mp.zero).to)≤255∧((l.getD s.k Mp.zero).to)∉(l.map (·.to)).take s.k:=by unfold ku;rw[hv]
  have htk:(l.map (·.to)).take (s.k+1)=(l.map (·.to)).take s.k++ [((l.getD s.k Mp.zero).to)]:=by rw[List.take_succ_eq_append_getElem (by simpa using hk),←hv];simp[List.getD,hk]
  rw[Int.toNat_natCast,qF l s.k hk];try simp only[eT,gQ,bL,dY]
  refine ⟨by omega,by omega,_,af3 _,?_⟩;simp only[bL];generalize ((l.getD s.k Mp.zero).to)=e at hat htk;have hm:=i3 e;refine ⟨fun h=>?_,fun h=>?_⟩
  ·have h:(e<1∨255<e)∨gu s.m e=true:=by
    rcases h with h|h
    ·exact .inl h
    ·rw[if_pos trivial] at h;exact .inr h
   rw[hm,decide_eq_true_eq] at h;have hn:¬fQ (l.map (·.to)):=fun hr=>by
    have h1:=hat.1 (hr s.k (by simpa using hk));rcases h with h|h
    ·omega
    ·exact h1.2.2 h
   rw[decide_eq_false hn]
  ·have h:¬(e<1∨255<e)∧gu s.m e=false:=⟨h.1,by have h2:=h.2;rw[if_pos trivial] at h2;exact h2⟩;rw[hm,decide_eq_false_iff_not] at h;refine ⟨by omega,⟨s.k+1,_⟩,by simp;rfl,⟨by simp only;omega,fun j hj=>?_,fun x=>?_⟩,by simp only;omega⟩
   ·by_cases hjk:j=s.k
    ·rw[hjk];exact hat.2 ⟨by omega,by omega,h.2⟩
    ·simp only at hj;exact i2 j (by omega)
   ·simp only;rw[vS,i3,htk];by_cases hx:e=x
    ·rw[if_pos hx];simp[hx]
    ·have:¬x=e:=fun h=>hx h.symm;rw[if_neg hx];simp[this]
 ·have he:s.k=l.length:=by omega
  rw[decide_eq_true (show fQ (l.map (·.to)) from fun j hj=>i2 j (by first|(simp at hj;omega)|omega))]
theorem ady (l:List Int) (hl:l.length≤1000000):PC Tryz.prog Ni [(.sl I64,Ints l),(.dZ Hy,.ls [])] [(.bool,.bool (decide (fQ l)))]:=by
 apply aaF rfl;simp only[ML,aF,aC,aB,au,aD,forall_const,List.length_map];refine VC.go_loop (fun s:Dl=> [.bool false,.int (s.k:Int),.ls s.m]) (fun s=>s.k≤l.length∧(∀j,j<s.k→ku l j)∧∀x:Int,gu s.m x=decide (x∈l.take s.k)) (fun s=>l.length-s.k) ⟨0,[]⟩ rfl
  ⟨Nat.zero_le _,fun j hj=>absurd hj (Nat.not_lt_zero j),fun x=>by simp[tQ]⟩ fun s hs=>?_
 obtain ⟨i1,i2,i3⟩:=hs;simp only[aF,aC,aB,au,aD,forall_const,List.length_map];refine ⟨fun hc=>?_,fun hc=>?_⟩
 ·have hk:s.k<l.length:=by omega
  have hv:l.getD s.k 0=(l.getD s.k 0):=rfl;have hat:ku l s.k↔1≤(l.getD s.k 0)∧(l.getD s.k 0)≤255∧(l.getD s.k 0)∉l.take s.k:=by unfold ku;rw[hv]
  have htk:l.take (s.k+1)=l.take s.k++ [(l.getD s.k 0)]:=by rw[List.take_succ_eq_append_getElem (by simpa using hk),←hv];simp[List.getD,hk]
  rw[Int.toNat_natCast,y7 l s.k hk];try simp only[eT,gQ,bL,dY]
  refine ⟨by omega,by omega,_,adr _,?_⟩;simp only[bL];generalize (l.getD s.k 0)=e at hat htk;have hm:=i3 e;refine ⟨fun h=>?_,fun h=>?_⟩
  ·have h:(e<1∨255<e)∨gu s.m e=true:=by
    rcases h with h|h
    ·exact .inl h
    ·rw[if_pos trivial] at h;exact .inr h
   rw[hm,decide_eq_true_eq] at h;have hn:¬fQ l:=fun hr=>by
    have h1:=hat.1 (hr s.k (by simpa using hk));rcases h with h|h
    ·omega
    ·exact h1.2.2 h
   rw[decide_eq_false hn]
  ·have h:¬(e<1∨255<e)∧gu s.m e=false:=⟨h.1,by have h2:=h.2;rw[if_pos trivial] at h2;exact h2⟩;rw[hm,decide_eq_false_iff_not] at h;refine ⟨by omega,⟨s.k+1,_⟩,by simp;rfl,⟨by simp only;omega,fun j hj=>?_,fun x=>?_⟩,by simp only;omega⟩
   ·by_cases hjk:j=s.k
    ·rw[hjk];exact hat.2 ⟨by omega,by omega,h.2⟩
    ·simp only at hj;exact i2 j (by omega)
   ·simp only;rw[vS,i3,htk];by_cases hx:e=x
    ·rw[if_pos hx];simp[hx]
    ·have:¬x=e:=fun h=>hx h.symm;rw[if_neg hx];simp[this]
 ·have he:s.k=l.length:=by omega
  rw[decide_eq_true (show fQ l from fun j hj=>i2 j (by first|(simp at hj;omega)|omega))]
end Go.Vc
set_option maxRecDepth 100000
namespace Go.Vc
open Go Go.Proofs Go.Plain
def jf:List Int→Int→Nat→Int
 | [],_,_=> -1
 |y::t,x,i=>if y=x then (i:Int) else jf t x (i+1)
def nZ (l:List Int) (x:Int):Int:=jf l x 0
theorem Kr:∀(l:List Int) (x:Int) (i:Nat),(0≤jf l x i↔x∈l)∧(x∈l→(i:Int)≤jf l x i∧jf l x i<(i:Int)+l.length)
 | [],x,i=>by simp[jf]
 |y::t,x,i=>by
  obtain ⟨h1,h2⟩:=Kr t x (i+1);unfold jf;by_cases h:y=x
  ·simp[h];omega
  ·have hx:¬x=y:=fun e=>h e.symm;rw[if_neg h];simp only[List.mem_cons,hx,false_or,List.length_cons];refine ⟨h1,fun hm=>?_⟩;have:=h2 hm;omega
theorem XD:∀(a b:List Int) (x:Int) (i:Nat),x∉a→jf (a++b) x i=jf b x (i+a.length)
 | [],b,x,i,_=>by simp
 |y::t,b,x,i,h=>by
  simp only[List.mem_cons,not_or] at h;have e:jf (y::t++b) x i=jf (t++b) x (i+1):=by
   show (if y=x then _ else _)=_;rw[if_neg (fun e=>h.1 e.symm)];rfl
  rw[e,XD t b x (i+1) h.2,List.length_cons];congr 1
  omega
theorem YO:∀(a b:List Int) (x:Int) (i:Nat),x∈a→jf (a++b) x i<(i:Int)+a.length
 |y::t,b,x,i,h=>by
  by_cases hy:y=x
  ·have e:jf (y::t++b) x i=i:=by show (if y=x then _ else _)=_;rw[if_pos hy]
   rw[e];simp;omega
  ·have e:jf (y::t++b) x i=jf (t++b) x (i+1):=by show (if y=x then _ else _)=_;rw[if_neg hy];rfl
   rw[e];have:=YO t b x (i+1) (by rcases List.mem_cons.1 h with h|h;exact absurd h.symm hy;exact h);simp only[List.length_cons];omega
theorem aio (l:List Int) (i:Nat) (h:i<l.length):nZ l (l.getD i 0)=(i:Int)↔l.getD i 0∉l.take i:=by
 have e:l=l.take i++l.getD i 0::l.drop (i+1):=by
  have:=List.drop_eq_getElem_cons h;have g:l.getD i 0=l[i]:=by simp[List.getD,h]
  rw[g,←this,List.take_append_drop]
 have hl:(l.take i).length=i:=by rw[List.length_take];omega
 unfold nZ;constructor
 ·intro hh hm;have:=YO (l.take i) (l.getD i 0::l.drop (i+1)) (l.getD i 0) 0 hm;rw[←e,hh,hl] at this;omega
 ·intro hm;have:=XD (l.take i) (l.getD i 0::l.drop (i+1)) (l.getD i 0) 0 hm;rw[←e,hl] at this;rw[this];unfold jf;simp
theorem tK (l:List Int) (x:Int) (hl:l.length≤1000000):PC Tryz.prog OV [(.sl I64,Ints l),(I64,.int x)] [(I64,.int (nZ l x))]:=by
 apply abv rfl;simp only[OG,aF,aC,aB,au,aD,forall_const,List.length_map];refine VC.go_loop (fun i:Nat=> [.int 0,.int (i:Int)]) (fun i=>i≤l.length∧nZ l x=jf (l.drop i) x i) (fun i=>l.length-i) 0 rfl ⟨Nat.zero_le _,rfl⟩ fun i hi=>?_;obtain ⟨i1,i2⟩:=hi;simp only[aF,aC,aB,au,aD,forall_const,List.length_map];refine ⟨fun hc=>?_,fun hc=>?_⟩
 ·have hk:i<l.length:=by omega
  rw[Int.toNat_natCast,y7 l i hk,bL];have hd:l.drop i=l.getD i 0::l.drop (i+1):=by rw[List.drop_eq_getElem_cons hk];simp[List.getD,hk]
  rw[hd] at i2;unfold jf at i2;refine ⟨by omega,by omega,fun h=>?_,fun h=>⟨by omega,i+1,by simp,⟨by omega,?_⟩,by omega⟩⟩
  ·rw[if_pos h] at i2;rw[i2]
  ·rw[if_neg h] at i2;exact i2
 ·have:i=l.length:=by omega
  subst this;rw[List.drop_length] at i2;rw[i2];rfl
theorem DL (l:List Int) (hl:l.length≤1000000):PC Tryz.prog OJ [(.sl I64,Ints l)] [(.bool,.bool (decide (fQ l)))]:=by
 apply abm rfl;simp only[Oe,aF,aC,aB,au,aD,forall_const,List.length_map];refine VC.go_loop (fun i:Nat=> [.bool false,.int (i:Int)]) (fun i=>i≤l.length∧∀j,j<i→ku l j) (fun i=>l.length-i) 0 rfl ⟨Nat.zero_le _,fun j hj=>absurd hj (Nat.not_lt_zero j)⟩ fun i hi=>?_;obtain ⟨i1,i2⟩:=hi;simp only[aF,aC,aB,au,aD,forall_const,List.length_map];refine ⟨fun hc=>?_,fun hc=>?_⟩
 ·have hk:i<l.length:=by omega
  rw[Int.toNat_natCast,y7 l i hk,bL];have hf:=aio l i hk;have hat:ku l i↔1≤l.getD i 0∧l.getD i 0≤255∧l.getD i 0∉l.take i:=Iff.rfl;refine ⟨by omega,by omega,fun _=>by omega,fun _=>by omega,fun _=>by omega,fun _=>by omega,_,fun _=>tK l (l.getD i 0) hl,fun h=>?_,fun h=>⟨by omega,i+1,by simp,⟨by omega,fun j hj=>?_⟩,by omega⟩⟩
  ·have:¬fQ l:=fun hr=>by
    have h1:=hat.1 (hr i hk);rcases h with h|h
    ·omega
    ·exact h (hf.2 h1.2.2)
   rw[decide_eq_false this]
  ·by_cases hj2:j=i
   ·rw[hj2];refine hat.2 ⟨by omega,by omega,hf.1 h.2⟩
   ·exact i2 j (by omega)
 ·have:i=l.length:=by omega
  subst this;rw[decide_eq_true (show fQ l from i2)]
theorem PK (l:List Mp) (hl:l.length≤1000000):PC Tryz.prog NM [(.sl ni,oV l)] [(.sl I64,Ints (l.map (·.fr)))]:=by
 apply aaK rfl;simp only[MV,aF,aC,aB,au,aD,forall_const,List.length_map];refine VC.go_loop (fun i:Nat=> [Ints ((l.map (·.fr)).take i),.int (i:Int)]) (fun i=>i≤l.length) (fun i=>l.length-i) 0 rfl (Nat.zero_le _) fun i hi=>?_;simp only[aF,aC,aB,au,aD,forall_const,List.length_map];refine ⟨fun hc=>?_,fun hc=>?_⟩
 ·have hk:i<l.length:=by omega
  rw[Int.toNat_natCast,qF l i hk];simp only[eT,dY,List.length_take,List.length_map,List.length_singleton];refine ⟨by omega,by omega,by omega,by omega,i+1,?_,by omega,by omega⟩;rw[List.take_succ_eq_append_getElem (by simpa using hk)];simp[List.getD,hk]
 ·have:i=l.length:=by omega
  subst this;rw[List.take_of_length_le (by simp)]
theorem aex (l:List Mp) (hl:l.length≤1000000):PC Tryz.prog OI [(.sl ni,oV l)] [(.sl I64,Ints (l.map (·.to)))]:=by
 apply abl rfl;simp only[Od,aF,aC,aB,au,aD,forall_const,List.length_map];refine VC.go_loop (fun i:Nat=> [Ints ((l.map (·.to)).take i),.int (i:Int)]) (fun i=>i≤l.length) (fun i=>l.length-i) 0 rfl (Nat.zero_le _) fun i hi=>?_;simp only[aF,aC,aB,au,aD,forall_const,List.length_map];refine ⟨fun hc=>?_,fun hc=>?_⟩
 ·have hk:i<l.length:=by omega
  rw[Int.toNat_natCast,qF l i hk];simp only[eT,gQ,dY,List.length_take,List.length_map,List.length_singleton];refine ⟨by omega,by omega,by omega,by omega,i+1,?_,by omega,by omega⟩;rw[List.take_succ_eq_append_getElem (by simpa using hk)];simp[List.getD,hk]
 ·have:i=l.length:=by omega
  subst this;rw[List.take_of_length_le (by simp)]
theorem AX (l:List El) (hl:l.length≤1000000):PC Tryz.prog OL [(.sl gM,dV l)] [(.sl I64,Ints (aK l))]:=by
 apply abn rfl;simp only[Og,aF,aC,aB,au,aD,forall_const,List.length_map];refine VC.go_loop (fun i:Nat=> [Ints ((aK l).take i),.int (i:Int)]) (fun i=>i≤l.length) (fun i=>l.length-i) 0 rfl (Nat.zero_le _) fun i hi=>?_;simp only[aF,aC,aB,au,aD,forall_const,List.length_map];refine ⟨fun hc=>?_,fun hc=>?_⟩
 ·have hk:i<l.length:=by omega
  have hk2:i<(aK l).length:=by simpa [aK] using hk
  rw[kF l i hk];simp only[eT,dY,List.length_take,List.length_map,List.length_singleton];refine ⟨by omega,by omega,by omega,by omega,i+1,?_,by omega,by omega⟩;rw[List.take_succ_eq_append_getElem hk2];simp[List.getD,hk,aK]
 ·have:i=l.length:=by omega
  subst this;rw[List.take_of_length_le (by simp[aK])]
abbrev cu:Sh:= .pair .bool (.pair .bool (.pair .bool (.pair I64 (.pair .bool (.pair (.int .u16) (.pair .bool (.pair (.int .u32) (.pair .bool (.pair (.int .u32) (.pair (.sl ni) (.pair (.sl gM) (.pair (.sl I64) (.pair (.sl gM) (.pair .bool .unit))))))))))))))
abbrev cK (p:Pl):C:= .ls [.bool p.sm,.bool p.m,.bool p.st,.int p.ty,.bool p.sq,.int p.seq,.bool p.aY,.int p.time,.bool p.ss,.int p.aH,oV p.maps,dV p.over,Ints p.drops,dV p.adds,.bool p.np]
def nK (l:List Int):List C:=l.foldl (fun m d=>jG m d (.bool true)) []
theorem aeR (l:List Int) (x:Int):nK (l++ [x])=jG (nK l) x (.bool true):=by unfold nK;rw[List.foldl_append];rfl
theorem RX (x:Int):∀(l:List Int) (m:List C),gu (l.foldl (fun m d=>jG m d (.bool true)) m) x=(gu m x||decide (x∈l))
 | [],m=>by simp
 |y::l,m=>by
  rw[List.foldl_cons,RX x l,vS];by_cases h:y=x
  ·simp[h]
  ·have:¬x=y:=fun e=>h e.symm;simp[h,this]
theorem D7 (l:List Int) (x:Int):gu (nK l) x=decide (x∈l):=by
 unfold nK;rw[RX,tQ,Bool.false_or]
theorem Hr (p:Pl) (h:fq p):PC Tryz.prog Ru [(cu,cK p)] [(.mp .i64 .bool,.ls (nK p.drops))]:=by
 obtain ⟨_,_,hl,_⟩:=h;apply ac0 rfl;simp only[Qh,aF,aC,aB,au,aD,forall_const,List.length_map];refine VC.go_loop (fun i:Nat=> [.int (i:Int),.ls (nK (p.drops.take i))]) (fun i=>i≤p.drops.length) (fun i=>p.drops.length-i) 0 rfl (Nat.zero_le _) fun i hi=>?_;simp only[aF,aC,aB,au,aD,forall_const,List.length_map];refine ⟨fun hc=>?_,fun hc=>?_⟩
 ·have hk:i<p.drops.length:=by omega
  rw[Int.toNat_natCast,y7 _ i hk];refine ⟨by omega,by omega,by omega,i+1,?_,by omega,by omega⟩;rw[List.take_succ_eq_append_getElem hk,aeR];simp[List.getD,hk]
 ·have:i=p.drops.length:=by omega
  subst this;rw[List.take_length]
theorem Qz (p:Pl) (h:fq p):PC Tryz.prog Rv [(cu,cK p)] [(.bool,.bool (decide (bR p)))]:=by
 have hh:=h;obtain ⟨h1,h2,h3,h4⟩:=h;apply ac1 rfl;simp only[Qi,aF,aC,aB,au,aD,forall_const,List.length_map];refine ⟨fun h=>?_,fun g1=>⟨fun h=>?_,fun g2=>⟨_,ab0 p.maps h1,_,fun _=>adx p.maps h1,_,fun _=>ady p.drops h3,fun h=>?_,fun g3=>⟨_,Hw p.over h2,_,fun _=>Hw p.adds h4,fun h=>?_,fun g4=>⟨_,Hr p hh,?_⟩⟩⟩⟩⟩
 ·have:¬bR p:=by
   rintro ⟨⟨f1,f2,f3,f4,f5,f6,f7⟩,_⟩;rcases h with (⟨a,b⟩|⟨a,b⟩)|⟨a,b⟩<;>simp_all
  rw[decide_eq_false this]
 ·have:¬bR p:=by
   rintro ⟨⟨f1,f2,f3,f4,f5,f6,f7⟩,_⟩;rcases h with ((⟨a,b⟩|⟨a,b⟩)|h)|h
   ·simp_all
   ·simp_all
   ·omega
   ·omega
  rw[decide_eq_false this]
 ·have:¬bR p:=by
   rintro ⟨_,r1,r2,r3,_⟩;simp only[gH,decide_eq_false_iff_not] at h;rcases h with (h|h)|h
   ·exact h r1
   ·exact h r2
   ·exact h r3
  rw[decide_eq_false this]
 ·have:¬bR p:=by
   rintro ⟨_,_,_,_,r1,r2,_⟩;simp only[gH,decide_eq_false_iff_not] at h;rcases h with h|h
   ·exact h r1
   ·exact h r2
  rw[decide_eq_false this]
 simp only[gH,decide_eq_false_iff_not,decide_eq_true_eq,not_or,Decidable.not_not] at g3 g4;have gf:wH p:=by
  refine ⟨?_,?_,?_,?_,?_,by omega,by omega⟩
  ·cases hb:p.sm<;>cases hc:p.m<;>simp_all
  ·cases hb:p.st<;>simp_all
  ·cases hb:p.sq<;>simp_all
  ·cases hb:p.aY<;>simp_all
  ·cases hb:p.ss<;>simp_all
 refine VC.go_loop (fun i:Nat=> [.bool false,.int (i:Int)]) (fun i=>i≤p.maps.length∧∀m∈p.maps.take i,m.fr∉p.drops) (fun i=>p.maps.length-i) 0 rfl ⟨Nat.zero_le _,by simp⟩ fun i hi=>?_;obtain ⟨i1,i2⟩:=hi;simp only[aF,aC,aB,au,aD,forall_const,List.length_map];refine ⟨fun hc=>?_,fun hc=>?_⟩
 ·have hk:i<p.maps.length:=by omega
  rw[Int.toNat_natCast,qF p.maps i hk];have hm:p.maps.getD i Mp.zero∈p.maps:=by simp[List.getD,hk]
  have ht:p.maps.take (i+1)=p.maps.take i++ [p.maps.getD i Mp.zero]:=by rw[List.take_succ_eq_append_getElem hk];simp[List.getD,hk]
  generalize p.maps.getD i Mp.zero=e at hm ht;simp only[eT,dY,bL,if_true];refine ⟨by omega,by omega,fun h=>?_,fun h=>⟨by omega,i+1,by simp,⟨by omega,?_⟩,by omega⟩⟩
  ·have:¬bR p:=by
    rintro ⟨_,_,_,_,_,_,r,_⟩;have h:gu (nK p.drops) e.fr=true:=h;rw[D7,decide_eq_true_eq] at h;exact r _ h (List.mem_map.2 ⟨e,hm,rfl⟩)
   rw[decide_eq_false this]
  ·rw[ht];intro m hm2;rcases List.mem_append.1 hm2 with hm2|hm2
   ·exact i2 m hm2
   ·rw[List.mem_singleton] at hm2;rw[hm2];have h:gu (nK p.drops) e.fr=false:=h;rw[D7,decide_eq_false_iff_not] at h;exact h
 ·have:i=p.maps.length:=by omega
  subst this;rw[List.take_length] at i2;refine VC.go_loop (fun k:Nat=> [.bool false,.int (k:Int)]) (fun k=>k≤p.over.length∧∀m∈p.over.take k,m.id∉p.drops) (fun k=>p.over.length-k) 0 rfl ⟨Nat.zero_le _,by simp⟩ fun k hk=>?_;obtain ⟨k1,k2⟩:=hk;simp only[aF,aC,aB,au,aD,forall_const,List.length_map];refine ⟨fun hc=>?_,fun hc=>?_⟩
  ·have hk:k<p.over.length:=by omega
   rw[kF p.over k hk];have hm:=r9 hk;have ht:=uD p.over k hk;generalize p.over.getD k El.zero=e at hm ht;simp only[eT,dY,bL,if_true];refine ⟨by omega,by omega,fun h=>?_,fun h=>⟨by omega,k+1,by simp,⟨by omega,?_⟩,by omega⟩⟩
   ·have:¬bR p:=by
     rintro ⟨_,_,_,_,_,_,_,r⟩;have h:gu (nK p.drops) e.id=true:=h;rw[D7,decide_eq_true_eq] at h;exact r _ h (List.mem_map.2 ⟨e,hm,rfl⟩)
    rw[decide_eq_false this]
   ·rw[ht];intro m hm2;rcases List.mem_append.1 hm2 with hm2|hm2
    ·exact k2 m hm2
    ·rw[List.mem_singleton] at hm2;rw[hm2];have h:gu (nK p.drops) e.id=false:=h;rw[D7,decide_eq_false_iff_not] at h;exact h
  ·have:k=p.over.length:=by omega
   subst this;rw[List.take_length] at k2;have:bR p:=by
    refine ⟨gf,g3.1.1,g3.1.2,g3.2,g4.1,g4.2,fun d hd hm=>?_,fun d hd hm=>?_⟩
    ·obtain ⟨m,hm1,rfl⟩:=List.mem_map.1 hm;exact i2 m hm1 hd
    ·obtain ⟨m,hm1,rfl⟩:=List.mem_map.1 hm;exact k2 m hm1 hd
   rw[decide_eq_true this]
theorem adn (p:Pl) (h:fq p):PC Tryz.prog NQ [(cu,cK p)] [(.bool,.bool (decide (bR p)))]:=by
 obtain ⟨h1,h2,h3,h4⟩:=h;apply aaM rfl;simp only[MX,aF,aC,aB,au,aD,forall_const,List.length_map];refine ⟨fun h=>?_,fun g1=>⟨_,fun _=>PK p.maps h1,_,fun _=>DL _ (by simpa using h1),_,fun _=>aex p.maps h1,_,fun _=>DL _ (by simpa using h1),_,fun _=>Hf p.over h2,_,fun _=>Hf p.adds h4,_,fun _=>DL p.drops h3,fun h=>?_,fun g2=>?_⟩⟩
 ·have:¬bR p:=by
   rintro ⟨⟨f1,f2,f3,f4,f5,f6,f7⟩,_⟩;rcases h with (((⟨a,b⟩|⟨a,b⟩)|⟨a,b⟩)|⟨a,b⟩)|⟨a,b⟩<;>simp_all
  rw[decide_eq_false this]
 ·have:¬bR p:=by
   rintro ⟨⟨f1,f2,f3,f4,f5,f6,f7⟩,r1,r2,r3,r4,r5,_⟩;simp only[gH,decide_eq_false_iff_not] at h;rcases h with (((((h|h)|h)|h)|h)|h)|h
   ·omega
   ·omega
   ·exact h r1
   ·exact h r2
   ·exact h r4
   ·exact h r5
   ·exact h r3
  rw[decide_eq_false this]
 simp only[gH,decide_eq_false_iff_not,decide_eq_true_eq,not_or,Decidable.not_not] at g2;have gf:wH p:=by
  refine ⟨?_,?_,?_,?_,?_,by omega,by omega⟩
  ·cases hb:p.sm<;>cases hc:p.m<;>simp_all
  ·cases hb:p.st<;>simp_all
  ·cases hb:p.sq<;>simp_all
  ·cases hb:p.aY<;>simp_all
  ·cases hb:p.ss<;>simp_all
 refine VC.go_loop (fun i:Nat=> [.bool false,.int (i:Int)]) (fun i=>i≤p.drops.length∧∀d∈p.drops.take i,d∉p.maps.map (·.fr)∧d∉aK p.over) (fun i=>p.drops.length-i) 0 rfl ⟨Nat.zero_le _,by simp⟩ fun i hi=>?_;obtain ⟨i1,i2⟩:=hi;simp only[aF,aC,aB,au,aD,forall_const,List.length_map];refine ⟨fun hc=>⟨_,PK p.maps h1,?_⟩,fun hc=>?_⟩
 ·have hk:i<p.drops.length:=by omega
  rw[Int.toNat_natCast,y7 p.drops i hk];have hm:p.drops.getD i 0∈p.drops:=by simp[List.getD,hk]
  have ht:p.drops.take (i+1)=p.drops.take i++ [p.drops.getD i 0]:=by rw[List.take_succ_eq_append_getElem hk];simp[List.getD,hk]
  generalize p.drops.getD i 0=d at hm ht;refine ⟨by omega,by omega,_,tK (p.maps.map (·.fr)) d (by simpa using h1),_,fun _=>AX p.over h2,fun _=>by omega,fun _=>by omega,_,fun _=>tK (aK p.over) d (by simpa [aK] using h2),?_⟩;simp only[bL];have a1:=(Kr (p.maps.map (·.fr)) d 0).1;have a2:=(Kr (aK p.over) d 0).1;refine ⟨fun h=>?_,fun h=>⟨by omega,i+1,by simp,⟨by omega,?_⟩,by omega⟩⟩
  ·have:¬bR p:=by
    rintro ⟨_,_,_,_,_,_,r1,r2⟩;rcases h with h|h
    ·exact r1 d hm (a1.1 h)
    ·exact r2 d hm (a2.1 h)
   rw[decide_eq_false this]
  ·rw[ht];intro x hx;rcases List.mem_append.1 hx with hx|hx
   ·exact i2 x hx
   ·rw[List.mem_singleton] at hx;rw[hx];exact ⟨fun hh=>absurd (a1.2 hh) (by unfold nZ at h;omega),fun hh=>absurd (a2.2 hh) (by unfold nZ at h;omega)⟩
 ·have:i=p.drops.length:=by omega
  subst this;rw[List.take_length] at i2;have:bR p:=⟨gf,g2.1.1.1.1.2,g2.1.1.1.2,g2.2,g2.1.1.2,g2.1.2,fun d hd=>(i2 d hd).1,fun d hd=>(i2 d hd).2⟩;rw[decide_eq_true this]
def uw (p:Pl):Prop:=p.maps.length≤300∧p.drops.length≤300∧wK p.over=true∧wK p.adds=true
instance (p:Pl):Decidable (uw p):=by unfold uw;infer_instance
theorem Sm {p:Pl} (h:uw p):p.maps.length≤300∧p.over.length≤300∧p.drops.length≤300∧p.adds.length≤300∧(∀e∈p.over,e.data.length≤400)∧∀e∈p.adds,e.data.length≤400:=by
 obtain ⟨h1,h2,h3,h4⟩:=h;have e3:=of_decide_eq_true h3;have e4:=of_decide_eq_true h4;exact ⟨h1,e3.2,h2,e4.2,e3.1,e4.1⟩
theorem adl (p:Pl) (h2:p.over.length≤maxLen) (h4:p.adds.length≤maxLen):PC Tryz.prog NP [(cu,cK p)] [(.bool,.bool (decide (uw p)))]:=by
 apply aaL rfl;simp only[MW,aF,aC,aB,au,aD,forall_const,List.length_map];refine ⟨_,fun _=>PN p.over h2,_,fun _=>PN p.adds h4,?_⟩;congr 2
 by_cases h1:p.maps.length≤300<;>by_cases hd:p.drops.length≤300<;>cases ho:wK p.over<;>cases ha:wK p.adds<;>simp[uw,h1,hd,ho,ha,show ((p.maps.length:Int)≤300)↔p.maps.length≤300 by omega,show ((p.drops.length:Int)≤300)↔p.drops.length≤300 by omega]
theorem AY (p:Pl):PC Tryz.prog SF [(cu,cK p)] [(.bool,.bool (decide (p.drops≠[]∨p.adds≠[])))]:=by
 apply adK rfl;simp only[QW,aF,aC,aB,au,aD,forall_const,List.length_map];generalize p.drops=d;generalize p.adds=a;cases d<;>cases a<;>simp<;>omega
theorem O6 (p:Pl):PC Tryz.prog Po [(cu,cK p)] [(.bool,.bool (decide (p.maps≠[]∨p.over≠[]∨p.drops≠[]∨p.adds≠[])))]:=by
 apply abH rfl;simp only[O1,aF,aC,aB,au,aD,forall_const,List.length_map];refine ⟨_,fun _=>AY p,?_⟩;congr 2
 generalize p.maps=a1;generalize p.over=a2;generalize p.drops=a3;generalize p.adds=a4;cases a1<;>cases a2<;>cases a3<;>cases a4<;>simp<;>omega
end Go.Vc
set_option maxRecDepth 100000
namespace Go.Vc
open Go Go.Proofs Go.Plain
open Go.Lib (decDigits nDigits)
def uq:List UInt8:=[109,97,114,107,101,114]
def rE:List UInt8:=[111,110]
def qQ:List UInt8:=[111,102,102]
def uI:List UInt8:=[116,121,112,101]
def uW:List UInt8:=[115,101,113]
def uJ:List UInt8:=[116,105,109,101]
def uK:List UInt8:=[115,115,114,99]
def pR:List UInt8:=[109,97,112]
def nM:List UInt8:=[111,118,101,114]
def pI:List UInt8:=[100,114,111,112]
def nO:List UInt8:=[97,100,100]
def uF:List UInt8:=[110,111,112,97,100]
abbrev eH (n:Int):List UInt8:=decDigits n.toNat
def tk1 (p:Pl):List (List UInt8):=if p.sm then [uq,if p.m then rE else qQ] else []
def tk2 (p:Pl):List (List UInt8):=if p.st then [uI,eH p.ty] else []
def tk3 (p:Pl):List (List UInt8):=if p.sq then [uW,eH p.seq] else []
def tk4 (p:Pl):List (List UInt8):=if p.aY then [uJ,eH p.time] else []
def sP (p:Pl):List (List UInt8):=if p.ss then [uK,eH p.aH] else []
def nU (l:List Mp):List (List UInt8):=l.flatMap fun m=> [pR,eH m.fr,eH m.to]
def kL (w:List UInt8) (l:List El):List (List UInt8):=l.flatMap fun e=> [w,eH e.id,qs e.data]
def nV (l:List Int):List (List UInt8):=l.flatMap fun d=> [pI,eH d]
def sO (p:Pl):List (List UInt8):=if p.np then [uF] else []
def toks (p:Pl):List (List UInt8):=tk1 p++(tk2 p++(tk3 p++(tk4 p++(sP p++(nU p.maps++(kL nM p.over++(nV p.drops++(kL nO p.adds++sO p))))))))
def oh (p:Pl):List UInt8:=gZ (toks p)
def gL (ts:List (List UInt8)):List UInt8:=ts.flatMap (32::·)
theorem ag6 (a b:List (List UInt8)):gL (a++b)=gL a++gL b:=by simp[gL]
theorem Ua:∀ts:List (List UInt8),ts≠[]→gL ts=32::gZ ts
 | [],h=>absurd rfl h
 | [w],_=>by simp[gL,gZ]
 |w::v::r,_=>by
  have ih:=Ua (v::r) (by simp);have e:gL (w::v::r)=(32::w)++gL (v::r):=by simp[gL]
  have e2:gZ (w::v::r)=w++32::gZ (v::r):=rfl;rw[e,ih,e2];simp
theorem agk (ts:List (List UInt8)):(gL ts).drop 1=gZ ts:=by
 by_cases h:ts=[]
 ·subst h;rfl
 ·rw[Ua ts h];rfl
theorem Y6:∀(k n:Nat),n<10^(k+1)→nDigits n≤k+1
 |0,n,h=>by rw[Go.Lib.nDigits_small (by simpa using h)];exact Nat.le_refl _
 |k+1,n,h=>by
  by_cases h10:n<10
  ·rw[Go.Lib.nDigits_small h10];omega
  ·rw[Go.Lib.nDigits_big h10];have:=Y6 k (n/10) (by rw[Nat.pow_succ] at h;omega);omega
theorem aju {n:Nat} (h:n<4294967296):1≤(decDigits n).length∧(decDigits n).length≤10:=by
 rw[Go.Lib.decDigits_length];exact ⟨Go.Lib.nDigits_pos n,Y6 9 n (by omega)⟩
theorem FQ {l:List El} (h:eF l):∀e∈l,1≤e.id∧e.id≤255∧e.data.length≤255:=by
 intro x hx;obtain ⟨j,hj⟩:=List.getElem?_of_mem hx;have hlt:=(List.getElem?_eq_some_iff.1 hj).1;have:=h j hlt;unfold p8 at this;have e:l.getD j El.zero=x:=by simp[List.getD,hj]
 rw[e] at this;exact ⟨this.1,this.2.1,this.2.2.1⟩
end Go.Vc
