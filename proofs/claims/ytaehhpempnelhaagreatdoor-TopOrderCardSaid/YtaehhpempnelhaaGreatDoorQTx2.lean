/-
  Contracts of functions of the program, each out of its condition or by a walk, and plain lemmas.
-/
import Derived.Test.YtaehhpempnelhaaGreatDoorQVcs1
import Derived.Test.YtaehhpempnelhaaGreatDoorQTx1
import Derived.Test.YtaehhpempnelhaaGreatDoorQBase3
import Derived.Test.YtaehhpempnelhaaGreatDoorQBase1
import Derived.Lib.ItoaNum
import Derived.Test.YtaehhpempnelhaaGreatDoorQYs
import Derived.Deep.AppendLies
import Derived.Deep.RegionHeld3

set_option maxRecDepth 100000
namespace Go.Vc
open Go Go.Proofs Go.Plain
abbrev ElSh:Sh:= .pair I64 (.pair (.sl U8) .unit)
abbrev ElC (e:El):C:= .ls [.int e.id,.ls (ofBytes e.data)]
abbrev Els (l:List El):C:= .ls (l.map ElC)
theorem mfind_mset (x:Int) (k:Int) (v:C):∀l:List C,mfind (mset l k v) x=if k=x then some (.ls [.int k,v]) else mfind l x
 | []=>by
  by_cases h:k=x
  ·simp[mset,mfind,h]
  ·simp[mset,mfind,h]
 |d::l=>by
  have ih:=mfind_mset x k v l
  by_cases h:d.hd.toInt=k
  ·rw[mset,if_pos h]
   by_cases hx:k=x
   ·simp[mfind,hx]
   ·have:¬d.hd.toInt=x:=fun e=>hx (h.symm.trans e)
    simp[mfind,hx,this]
  ·rw[mset,if_neg h]
   by_cases hd:d.hd.toInt=x
   ·have:¬k=x:=fun e=>h (hd.trans e.symm)
    simp[mfind,hd,this]
   ·have e1:mfind (d::mset l k v) x=mfind (mset l k v) x:=by simp[mfind,hd]
    have e2:mfind (d::l) x=mfind l x:=by simp[mfind,hd]
    rw[e1,ih,e2]
/-- What a map of numbers to true says of a number. -/
def mtrue (m:List C) (x:Int):Bool:=(match mfind m x with|some d=>d.tl.hd|none=>C.bool false).toBool
theorem mtrue_nil (x:Int):mtrue [] x=false:=rfl
theorem mtrue_mset (m:List C) (k x:Int):mtrue (mset m k (.bool true)) x=if k=x then true else mtrue m x:=by
 unfold mtrue
 rw[mfind_mset]
 by_cases h:k=x<;>simp[h]
theorem el_getD (l:List El) (i:Nat) (h:i<l.length):(l.map ElC).getD ((i:Int)).toNat default=ElC (l.getD i El.zero):=by simp[List.getD,h]
theorem el_take (l:List El) (i:Nat) (h:i<l.length):l.take (i+1)=l.take i++ [l.getD i El.zero]:=by rw[List.take_succ_eq_append_getElem h];simp[List.getD,h]
theorem el_mem {l:List El} {i:Nat} (h:i<l.length):l.getD i El.zero∈l:=by simp[List.getD,h]
structure RtSt where
 k:Nat
 m:List C
theorem pc_elem_Right (l:List El) (hl:l.length≤1000000):PC Tryz.prog f_elem_Right [(.sl ElSh,Els l)] [(.bool,.bool (decide (elRight l)))]:=by
 apply pcv_elem_Right rfl
 simp only[vc_elem_Right,sVC,sEV,sENV,sVAL,sBO,forall_const,List.length_map]
 refine VC.go_loop (fun s:RtSt=> [.bool false,.int (s.k:Int),.ls s.m]) (fun s=>s.k≤l.length∧(∀j,j<s.k→elAt l j)∧∀x:Int,mtrue s.m x=decide (x∈elIds (l.take s.k))) (fun s=>l.length-s.k) ⟨0,[]⟩ rfl
  ⟨Nat.zero_le _,fun j hj=>absurd hj (Nat.not_lt_zero j),fun x=>by simp[mtrue_nil,elIds]⟩ fun s hs=>?_
 obtain ⟨i1,i2,i3⟩:=hs
 simp only[sVC,sEV,sENV,sVAL,sBO,forall_const,List.length_map]
 refine ⟨fun hc=>?_,fun hc=>?_⟩
 ·have hk:s.k<l.length:=by omega
  have hg:(l.map ElC).getD ((s.k:Int)).toNat default=ElC (l.getD s.k El.zero):=by simp[List.getD,hk]
  rw[hg]
  have hat:elAt l s.k↔1≤(l.getD s.k El.zero).id∧(l.getD s.k El.zero).id≤255∧(l.getD s.k El.zero).data.length≤255∧(l.getD s.k El.zero).id∉elIds (l.take s.k):=Iff.rfl
  have htk:l.take (s.k+1)=l.take s.k++ [l.getD s.k El.zero]:=by rw[List.take_succ_eq_append_getElem hk];simp[List.getD,hk]
  generalize l.getD s.k El.zero=e at hat htk
  have hm:=i3 e.id
  simp only[v_hd,v_tl,v_int,v_ls,ofBytes_length,if_true]
  refine ⟨by omega,by omega,fun h=>?_,fun h=>?_⟩
  ·have h:((e.id<1∨255<e.id)∨mtrue s.m e.id=true)∨(255:Int)<e.data.length:=h
   rw[hm,decide_eq_true_eq] at h
   have hn:¬elRight l:=fun hr=>by
    have h1:=hat.1 (hr s.k hk)
    rcases h with (h|h)|h
    ·omega
    ·exact h1.2.2.2 h
    ·omega
   rw[decide_eq_false hn]
  ·have h:¬((e.id<1∨255<e.id)∨mtrue s.m e.id=true)∧(e.data.length:Int)≤255:=h
   rw[hm,decide_eq_true_eq] at h
   ·have hin:¬e.id∈elIds (l.take s.k):=fun hh=>h.1 (.inr hh)
    have h2:¬(e.id<1∨255<e.id):=fun hh=>h.1 (.inl hh)
    have hok:1≤e.id∧e.id≤255∧e.data.length≤255:=by omega
    refine ⟨by omega,⟨s.k+1,_⟩,by simp;rfl,⟨by simp only;omega,fun j hj=>?_,fun x=>?_⟩,by simp only;omega⟩
    ·by_cases hjk:j=s.k
     ·rw[hjk];exact hat.2 ⟨hok.1,hok.2.1,hok.2.2,hin⟩
     ·simp only at hj;exact i2 j (by omega)
    ·simp only
     rw[mtrue_mset,i3,htk]
     by_cases hx:e.id=x
     ·rw[if_pos hx];simp[elIds,hx]
     ·have:¬x=e.id:=fun h=>hx h.symm
      rw[if_neg hx]
      simp[elIds,this]
 ·have he:s.k=l.length:=by omega
  rw[decide_eq_true (show elRight l from fun j hj=>i2 j (by omega))]
def elShort (l:List El):Bool:=decide ((∀e∈l,e.data.length≤400)∧l.length≤300)
theorem pc_ref08_Short (l:List El) (hl:l.length≤maxLen):PC Tryz.prog f_crossbarref08_Short [(.sl ElSh,Els l)] [(.bool,.bool (elShort l))]:=by
 apply pcv_crossbarref08_Short rfl
 simp only[maxLen] at hl
 simp only[vc_crossbarref08_Short,sVC,sEV,sENV,sVAL,sBO,forall_const,List.length_map]
 refine VC.go_loop (fun i:Nat=> [.bool false,.int (i:Int)]) (fun i=>i≤l.length∧∀e∈l.take i,e.data.length≤400) (fun i=>l.length-i) 0 rfl ⟨Nat.zero_le _,by simp⟩ fun i hi=>?_
 obtain ⟨i1,i2⟩:=hi
 simp only[sVC,sEV,sENV,sVAL,sBO,forall_const,List.length_map]
 refine ⟨fun hc=>?_,fun hc=>?_⟩
 ·have hk:i<l.length:=by omega
  have hm:=el_mem hk
  have ht:=el_take l i hk
  rw[el_getD l i hk]
  generalize l.getD i El.zero=e at hm ht
  simp only[v_hd,v_tl,v_int,v_ls,ofBytes_length]
  refine ⟨by omega,by omega,fun h=>?_,fun h=>⟨by omega,i+1,by simp,⟨by omega,?_⟩,by omega⟩⟩
  ·have:elShort l=false:=decide_eq_false fun hall=>by
    have:=hall.1 e hm
    omega
   rw[this]
  ·rw[ht]
   intro x hx
   rcases List.mem_append.1 hx with hx|hx
   ·exact i2 x hx
   ·rw[List.mem_singleton] at hx
    subst hx
    omega
 ·have he:i=l.length:=by omega
  rw[he,List.take_length] at i2
  congr 3
  unfold elShort
  rw[decide_eq_decide]
  constructor
  ·intro h;exact ⟨i2,by omega⟩
  ·intro h;omega
/-! Lists of ids. -/
abbrev MpSh:Sh:= .pair I64 (.pair I64 .unit)
abbrev MpC (m:Mp):C:= .ls [.int m.fr,.int m.to]
abbrev Mps (l:List Mp):C:= .ls (l.map MpC)
abbrev Ints (l:List Int):C:= .ls (l.map .int)
theorem mp_getD (l:List Mp) (i:Nat) (h:i<l.length):(l.map MpC).getD i default=MpC (l.getD i Mp.zero):=by simp[List.getD,h]
theorem int_getD (l:List Int) (i:Nat) (h:i<l.length):(l.map C.int).getD i default= .int (l.getD i 0):=by simp[List.getD,h]
theorem pc_plan_from (m:Mp):PC Tryz.prog f_plan_from [(MpSh,MpC m)] [(I64,.int m.fr)]:=by
 apply pcv_plan_from rfl
 simp only[vc_plan_from,sVC,sEV,sENV,sVAL,sBO,forall_const]
theorem pc_plan_to (m:Mp):PC Tryz.prog f_plan_to [(MpSh,MpC m)] [(I64,.int m.to)]:=by
 apply pcv_plan_to rfl
 simp only[vc_plan_to,sVC,sEV,sENV,sVAL,sBO,forall_const]
theorem pc_plan_itself (n:Int):PC Tryz.prog f_plan_itself [(I64,.int n)] [(I64,.int n)]:=by
 apply pcv_plan_itself rfl
 simp only[vc_plan_itself,sVC,sEV,sENV,sVAL,sBO,forall_const]
theorem pc_distinct_from (l:List Mp) (hl:l.length≤1000000):PC Tryz.prog f_plan_distinct_api_Map_from [(.sl MpSh,Mps l),(.fun_ f_plan_from,.ls [])] [(.bool,.bool (decide (idsRight (l.map (·.fr)))))]:=by
 apply pcv_plan_distinct_api_Map_from rfl
 simp only[vc_plan_distinct_api_Map_from,sVC,sEV,sENV,sVAL,sBO,forall_const,List.length_map]
 refine VC.go_loop (fun s:RtSt=> [.bool false,.int (s.k:Int),.ls s.m]) (fun s=>s.k≤l.length∧(∀j,j<s.k→idAt (l.map (·.fr)) j)∧∀x:Int,mtrue s.m x=decide (x∈(l.map (·.fr)).take s.k)) (fun s=>l.length-s.k) ⟨0,[]⟩ rfl
  ⟨Nat.zero_le _,fun j hj=>absurd hj (Nat.not_lt_zero j),fun x=>by simp[mtrue_nil]⟩ fun s hs=>?_
 obtain ⟨i1,i2,i3⟩:=hs
 simp only[sVC,sEV,sENV,sVAL,sBO,forall_const,List.length_map]
 refine ⟨fun hc=>?_,fun hc=>?_⟩
 ·have hk:s.k<l.length:=by omega
  have hv:(l.map (·.fr)).getD s.k 0=((l.getD s.k Mp.zero).fr):=by simp[List.getD,hk]
  have hat:idAt (l.map (·.fr)) s.k↔1≤((l.getD s.k Mp.zero).fr)∧((l.getD s.k Mp.zero).fr)≤255∧((l.getD s.k Mp.zero).fr)∉(l.map (·.fr)).take s.k:=by unfold idAt;rw[hv]
  have htk:(l.map (·.fr)).take (s.k+1)=(l.map (·.fr)).take s.k++ [((l.getD s.k Mp.zero).fr)]:=by rw[List.take_succ_eq_append_getElem (by simpa using hk),←hv];simp[List.getD,hk]
  rw[Int.toNat_natCast,mp_getD l s.k hk]
  try simp only[v_hd,v_tl,v_int,v_ls]
  refine ⟨by omega,by omega,_,pc_plan_from _,?_⟩
  simp only[v_int]
  generalize ((l.getD s.k Mp.zero).fr)=e at hat htk
  have hm:=i3 e
  refine ⟨fun h=>?_,fun h=>?_⟩
  ·have h:(e<1∨255<e)∨mtrue s.m e=true:=by
    rcases h with h|h
    ·exact .inl h
    ·rw[if_pos trivial] at h;exact .inr h
   rw[hm,decide_eq_true_eq] at h
   have hn:¬idsRight (l.map (·.fr)):=fun hr=>by
    have h1:=hat.1 (hr s.k (by simpa using hk))
    rcases h with h|h
    ·omega
    ·exact h1.2.2 h
   rw[decide_eq_false hn]
  ·have h:¬(e<1∨255<e)∧mtrue s.m e=false:=⟨h.1,by have h2:=h.2;rw[if_pos trivial] at h2;exact h2⟩
   rw[hm,decide_eq_false_iff_not] at h
   refine ⟨by omega,⟨s.k+1,_⟩,by simp;rfl,⟨by simp only;omega,fun j hj=>?_,fun x=>?_⟩,by simp only;omega⟩
   ·by_cases hjk:j=s.k
    ·rw[hjk];exact hat.2 ⟨by omega,by omega,h.2⟩
    ·simp only at hj;exact i2 j (by omega)
   ·simp only
    rw[mtrue_mset,i3,htk]
    by_cases hx:e=x
    ·rw[if_pos hx];simp[hx]
    ·have:¬x=e:=fun h=>hx h.symm
     rw[if_neg hx]
     simp[this]
 ·have he:s.k=l.length:=by omega
  rw[decide_eq_true (show idsRight (l.map (·.fr)) from fun j hj=>i2 j (by first|(simp at hj;omega)|omega))]
theorem pc_distinct_to (l:List Mp) (hl:l.length≤1000000):PC Tryz.prog f_plan_distinct_api_Map_to [(.sl MpSh,Mps l),(.fun_ f_plan_to,.ls [])] [(.bool,.bool (decide (idsRight (l.map (·.to)))))]:=by
 apply pcv_plan_distinct_api_Map_to rfl
 simp only[vc_plan_distinct_api_Map_to,sVC,sEV,sENV,sVAL,sBO,forall_const,List.length_map]
 refine VC.go_loop (fun s:RtSt=> [.bool false,.int (s.k:Int),.ls s.m]) (fun s=>s.k≤l.length∧(∀j,j<s.k→idAt (l.map (·.to)) j)∧∀x:Int,mtrue s.m x=decide (x∈(l.map (·.to)).take s.k)) (fun s=>l.length-s.k) ⟨0,[]⟩ rfl
  ⟨Nat.zero_le _,fun j hj=>absurd hj (Nat.not_lt_zero j),fun x=>by simp[mtrue_nil]⟩ fun s hs=>?_
 obtain ⟨i1,i2,i3⟩:=hs
 simp only[sVC,sEV,sENV,sVAL,sBO,forall_const,List.length_map]
 refine ⟨fun hc=>?_,fun hc=>?_⟩
 ·have hk:s.k<l.length:=by omega
  have hv:(l.map (·.to)).getD s.k 0=((l.getD s.k Mp.zero).to):=by simp[List.getD,hk]
  have hat:idAt (l.map (·.to)) s.k↔1≤((l.getD s.k Mp.zero).to)∧((l.getD s.k Mp.zero).to)≤255∧((l.getD s.k Mp.zero).to)∉(l.map (·.to)).take s.k:=by unfold idAt;rw[hv]
  have htk:(l.map (·.to)).take (s.k+1)=(l.map (·.to)).take s.k++ [((l.getD s.k Mp.zero).to)]:=by rw[List.take_succ_eq_append_getElem (by simpa using hk),←hv];simp[List.getD,hk]
  rw[Int.toNat_natCast,mp_getD l s.k hk]
  try simp only[v_hd,v_tl,v_int,v_ls]
  refine ⟨by omega,by omega,_,pc_plan_to _,?_⟩
  simp only[v_int]
  generalize ((l.getD s.k Mp.zero).to)=e at hat htk
  have hm:=i3 e
  refine ⟨fun h=>?_,fun h=>?_⟩
  ·have h:(e<1∨255<e)∨mtrue s.m e=true:=by
    rcases h with h|h
    ·exact .inl h
    ·rw[if_pos trivial] at h;exact .inr h
   rw[hm,decide_eq_true_eq] at h
   have hn:¬idsRight (l.map (·.to)):=fun hr=>by
    have h1:=hat.1 (hr s.k (by simpa using hk))
    rcases h with h|h
    ·omega
    ·exact h1.2.2 h
   rw[decide_eq_false hn]
  ·have h:¬(e<1∨255<e)∧mtrue s.m e=false:=⟨h.1,by have h2:=h.2;rw[if_pos trivial] at h2;exact h2⟩
   rw[hm,decide_eq_false_iff_not] at h
   refine ⟨by omega,⟨s.k+1,_⟩,by simp;rfl,⟨by simp only;omega,fun j hj=>?_,fun x=>?_⟩,by simp only;omega⟩
   ·by_cases hjk:j=s.k
    ·rw[hjk];exact hat.2 ⟨by omega,by omega,h.2⟩
    ·simp only at hj;exact i2 j (by omega)
   ·simp only
    rw[mtrue_mset,i3,htk]
    by_cases hx:e=x
    ·rw[if_pos hx];simp[hx]
    ·have:¬x=e:=fun h=>hx h.symm
     rw[if_neg hx]
     simp[this]
 ·have he:s.k=l.length:=by omega
  rw[decide_eq_true (show idsRight (l.map (·.to)) from fun j hj=>i2 j (by first|(simp at hj;omega)|omega))]
theorem pc_distinct_it (l:List Int) (hl:l.length≤1000000):PC Tryz.prog f_plan_distinct_int_it [(.sl I64,Ints l),(.fun_ f_plan_itself,.ls [])] [(.bool,.bool (decide (idsRight l)))]:=by
 apply pcv_plan_distinct_int_it rfl
 simp only[vc_plan_distinct_int_it,sVC,sEV,sENV,sVAL,sBO,forall_const,List.length_map]
 refine VC.go_loop (fun s:RtSt=> [.bool false,.int (s.k:Int),.ls s.m]) (fun s=>s.k≤l.length∧(∀j,j<s.k→idAt l j)∧∀x:Int,mtrue s.m x=decide (x∈l.take s.k)) (fun s=>l.length-s.k) ⟨0,[]⟩ rfl
  ⟨Nat.zero_le _,fun j hj=>absurd hj (Nat.not_lt_zero j),fun x=>by simp[mtrue_nil]⟩ fun s hs=>?_
 obtain ⟨i1,i2,i3⟩:=hs
 simp only[sVC,sEV,sENV,sVAL,sBO,forall_const,List.length_map]
 refine ⟨fun hc=>?_,fun hc=>?_⟩
 ·have hk:s.k<l.length:=by omega
  have hv:l.getD s.k 0=(l.getD s.k 0):=rfl
  have hat:idAt l s.k↔1≤(l.getD s.k 0)∧(l.getD s.k 0)≤255∧(l.getD s.k 0)∉l.take s.k:=by unfold idAt;rw[hv]
  have htk:l.take (s.k+1)=l.take s.k++ [(l.getD s.k 0)]:=by rw[List.take_succ_eq_append_getElem (by simpa using hk),←hv];simp[List.getD,hk]
  rw[Int.toNat_natCast,int_getD l s.k hk]
  try simp only[v_hd,v_tl,v_int,v_ls]
  refine ⟨by omega,by omega,_,pc_plan_itself _,?_⟩
  simp only[v_int]
  generalize (l.getD s.k 0)=e at hat htk
  have hm:=i3 e
  refine ⟨fun h=>?_,fun h=>?_⟩
  ·have h:(e<1∨255<e)∨mtrue s.m e=true:=by
    rcases h with h|h
    ·exact .inl h
    ·rw[if_pos trivial] at h;exact .inr h
   rw[hm,decide_eq_true_eq] at h
   have hn:¬idsRight l:=fun hr=>by
    have h1:=hat.1 (hr s.k (by simpa using hk))
    rcases h with h|h
    ·omega
    ·exact h1.2.2 h
   rw[decide_eq_false hn]
  ·have h:¬(e<1∨255<e)∧mtrue s.m e=false:=⟨h.1,by have h2:=h.2;rw[if_pos trivial] at h2;exact h2⟩
   rw[hm,decide_eq_false_iff_not] at h
   refine ⟨by omega,⟨s.k+1,_⟩,by simp;rfl,⟨by simp only;omega,fun j hj=>?_,fun x=>?_⟩,by simp only;omega⟩
   ·by_cases hjk:j=s.k
    ·rw[hjk];exact hat.2 ⟨by omega,by omega,h.2⟩
    ·simp only at hj;exact i2 j (by omega)
   ·simp only
    rw[mtrue_mset,i3,htk]
    by_cases hx:e=x
    ·rw[if_pos hx];simp[hx]
    ·have:¬x=e:=fun h=>hx h.symm
     rw[if_neg hx]
     simp[this]
 ·have he:s.k=l.length:=by omega
  rw[decide_eq_true (show idsRight l from fun j hj=>i2 j (by first|(simp at hj;omega)|omega))]
end Go.Vc

set_option maxRecDepth 100000
namespace Go.Vc
open Go Go.Proofs Go.Plain
/-! The place of an id. -/
/-! Plans. -/
abbrev PlSh:Sh:= .pair .bool (.pair .bool (.pair .bool (.pair I64 (.pair .bool (.pair (.int .u16) (.pair .bool (.pair (.int .u32) (.pair .bool (.pair (.int .u32) (.pair (.sl MpSh) (.pair (.sl ElSh) (.pair (.sl I64) (.pair (.sl ElSh) (.pair .bool .unit))))))))))))))
abbrev PlC (p:Pl):C:= .ls [.bool p.sm,.bool p.m,.bool p.st,.int p.ty,.bool p.sq,.int p.seq,.bool p.stm,.int p.time,.bool p.ss,.int p.ssrc,Mps p.maps,Els p.over,Ints p.drops,Els p.adds,.bool p.np]
def dropMap (l:List Int):List C:=l.foldl (fun m d=>mset m d (.bool true)) []
theorem dropMap_snoc (l:List Int) (x:Int):dropMap (l++ [x])=mset (dropMap l) x (.bool true):=by unfold dropMap;rw[List.foldl_append];rfl
theorem dropMap_fold (x:Int):∀(l:List Int) (m:List C),mtrue (l.foldl (fun m d=>mset m d (.bool true)) m) x=(mtrue m x||decide (x∈l))
 | [],m=>by simp
 |y::l,m=>by
  rw[List.foldl_cons,dropMap_fold x l,mtrue_mset]
  by_cases h:y=x
  ·simp[h]
  ·have:¬x=y:=fun e=>h e.symm
   simp[h,this]
theorem dropMap_mem (l:List Int) (x:Int):mtrue (dropMap l) x=decide (x∈l):=by
 unfold dropMap
 rw[dropMap_fold,mtrue_nil,Bool.false_or]
theorem pc_plan_drops (p:Pl) (h:plFew p):PC Tryz.prog f_plan_drops [(PlSh,PlC p)] [(.mp .i64 .bool,.ls (dropMap p.drops))]:=by
 obtain ⟨_,_,hl,_⟩:=h
 apply pcv_plan_drops rfl
 simp only[vc_plan_drops,sVC,sEV,sENV,sVAL,sBO,forall_const,List.length_map]
 refine VC.go_loop (fun i:Nat=> [.int (i:Int),.ls (dropMap (p.drops.take i))]) (fun i=>i≤p.drops.length) (fun i=>p.drops.length-i) 0 rfl (Nat.zero_le _) fun i hi=>?_
 simp only[sVC,sEV,sENV,sVAL,sBO,forall_const,List.length_map]
 refine ⟨fun hc=>?_,fun hc=>?_⟩
 ·have hk:i<p.drops.length:=by omega
  rw[Int.toNat_natCast,int_getD _ i hk]
  refine ⟨by omega,by omega,by omega,i+1,?_,by omega,by omega⟩
  rw[List.take_succ_eq_append_getElem hk,dropMap_snoc]
  simp[List.getD,hk]
 ·have:i=p.drops.length:=by omega
  subst this
  rw[List.take_length]
theorem pc_plan_Right (p:Pl) (h:plFew p):PC Tryz.prog f_plan_Right [(PlSh,PlC p)] [(.bool,.bool (decide (plRight p)))]:=by
 have hh:=h
 obtain ⟨h1,h2,h3,h4⟩:=h
 apply pcv_plan_Right rfl
 simp only[vc_plan_Right,sVC,sEV,sENV,sVAL,sBO,forall_const,List.length_map]
 refine ⟨fun h=>?_,fun g1=>⟨fun h=>?_,fun g2=>⟨_,pc_distinct_from p.maps h1,_,fun _=>pc_distinct_to p.maps h1,_,fun _=>pc_distinct_it p.drops h3,fun h=>?_,fun g3=>⟨_,pc_elem_Right p.over h2,_,fun _=>pc_elem_Right p.adds h4,fun h=>?_,fun g4=>⟨_,pc_plan_drops p hh,?_⟩⟩⟩⟩⟩
 ·have:¬plRight p:=by
   rintro ⟨⟨f1,f2,f3,f4,f5,f6,f7⟩,_⟩
   rcases h with (⟨a,b⟩|⟨a,b⟩)|⟨a,b⟩<;>simp_all
  rw[decide_eq_false this]
 ·have:¬plRight p:=by
   rintro ⟨⟨f1,f2,f3,f4,f5,f6,f7⟩,_⟩
   rcases h with ((⟨a,b⟩|⟨a,b⟩)|h)|h
   ·simp_all
   ·simp_all
   ·omega
   ·omega
  rw[decide_eq_false this]
 ·have:¬plRight p:=by
   rintro ⟨_,r1,r2,r3,_⟩
   simp only[v_bool,decide_eq_false_iff_not] at h
   rcases h with (h|h)|h
   ·exact h r1
   ·exact h r2
   ·exact h r3
  rw[decide_eq_false this]
 ·have:¬plRight p:=by
   rintro ⟨_,_,_,_,r1,r2,_⟩
   simp only[v_bool,decide_eq_false_iff_not] at h
   rcases h with h|h
   ·exact h r1
   ·exact h r2
  rw[decide_eq_false this]
 simp only[v_bool,decide_eq_false_iff_not,decide_eq_true_eq,not_or,Decidable.not_not] at g3 g4
 have gf:flagsOk p:=by
  refine ⟨?_,?_,?_,?_,?_,by omega,by omega⟩
  ·cases hb:p.sm<;>cases hc:p.m<;>simp_all
  ·cases hb:p.st<;>simp_all
  ·cases hb:p.sq<;>simp_all
  ·cases hb:p.stm<;>simp_all
  ·cases hb:p.ss<;>simp_all
 refine VC.go_loop (fun i:Nat=> [.bool false,.int (i:Int)]) (fun i=>i≤p.maps.length∧∀m∈p.maps.take i,m.fr∉p.drops) (fun i=>p.maps.length-i) 0 rfl ⟨Nat.zero_le _,by simp⟩ fun i hi=>?_
 obtain ⟨i1,i2⟩:=hi
 simp only[sVC,sEV,sENV,sVAL,sBO,forall_const,List.length_map]
 refine ⟨fun hc=>?_,fun hc=>?_⟩
 ·have hk:i<p.maps.length:=by omega
  rw[Int.toNat_natCast,mp_getD p.maps i hk]
  have hm:p.maps.getD i Mp.zero∈p.maps:=by simp[List.getD,hk]
  have ht:p.maps.take (i+1)=p.maps.take i++ [p.maps.getD i Mp.zero]:=by rw[List.take_succ_eq_append_getElem hk];simp[List.getD,hk]
  generalize p.maps.getD i Mp.zero=e at hm ht
  simp only[v_hd,v_ls,v_int,if_true]
  refine ⟨by omega,by omega,fun h=>?_,fun h=>⟨by omega,i+1,by simp,⟨by omega,?_⟩,by omega⟩⟩
  ·have:¬plRight p:=by
    rintro ⟨_,_,_,_,_,_,r,_⟩
    have h:mtrue (dropMap p.drops) e.fr=true:=h
    rw[dropMap_mem,decide_eq_true_eq] at h
    exact r _ h (List.mem_map.2 ⟨e,hm,rfl⟩)
   rw[decide_eq_false this]
  ·rw[ht]
   intro m hm2
   rcases List.mem_append.1 hm2 with hm2|hm2
   ·exact i2 m hm2
   ·rw[List.mem_singleton] at hm2;rw[hm2]
    have h:mtrue (dropMap p.drops) e.fr=false:=h
    rw[dropMap_mem,decide_eq_false_iff_not] at h
    exact h
 ·have:i=p.maps.length:=by omega
  subst this
  rw[List.take_length] at i2
  refine VC.go_loop (fun k:Nat=> [.bool false,.int (k:Int)]) (fun k=>k≤p.over.length∧∀m∈p.over.take k,m.id∉p.drops) (fun k=>p.over.length-k) 0 rfl ⟨Nat.zero_le _,by simp⟩ fun k hk=>?_
  obtain ⟨k1,k2⟩:=hk
  simp only[sVC,sEV,sENV,sVAL,sBO,forall_const,List.length_map]
  refine ⟨fun hc=>?_,fun hc=>?_⟩
  ·have hk:k<p.over.length:=by omega
   rw[el_getD p.over k hk]
   have hm:=el_mem hk
   have ht:=el_take p.over k hk
   generalize p.over.getD k El.zero=e at hm ht
   simp only[v_hd,v_ls,v_int,if_true]
   refine ⟨by omega,by omega,fun h=>?_,fun h=>⟨by omega,k+1,by simp,⟨by omega,?_⟩,by omega⟩⟩
   ·have:¬plRight p:=by
     rintro ⟨_,_,_,_,_,_,_,r⟩
     have h:mtrue (dropMap p.drops) e.id=true:=h
     rw[dropMap_mem,decide_eq_true_eq] at h
     exact r _ h (List.mem_map.2 ⟨e,hm,rfl⟩)
    rw[decide_eq_false this]
   ·rw[ht]
    intro m hm2
    rcases List.mem_append.1 hm2 with hm2|hm2
    ·exact k2 m hm2
    ·rw[List.mem_singleton] at hm2;rw[hm2]
     have h:mtrue (dropMap p.drops) e.id=false:=h
     rw[dropMap_mem,decide_eq_false_iff_not] at h
     exact h
  ·have:k=p.over.length:=by omega
   subst this
   rw[List.take_length] at k2
   have:plRight p:=by
    refine ⟨gf,g3.1.1,g3.1.2,g3.2,g4.1,g4.2,fun d hd hm=>?_,fun d hd hm=>?_⟩
    ·obtain ⟨m,hm1,rfl⟩:=List.mem_map.1 hm
     exact i2 m hm1 hd
    ·obtain ⟨m,hm1,rfl⟩:=List.mem_map.1 hm
     exact k2 m hm1 hd
   rw[decide_eq_true this]
def plShort (p:Pl):Prop:=p.maps.length≤300∧p.drops.length≤300∧elShort p.over=true∧elShort p.adds=true
instance (p:Pl):Decidable (plShort p):=by unfold plShort;infer_instance
theorem pc_ref29_Short (p:Pl) (h2:p.over.length≤maxLen) (h4:p.adds.length≤maxLen):PC Tryz.prog f_crossbarref29_Short [(PlSh,PlC p)] [(.bool,.bool (decide (plShort p)))]:=by
 apply pcv_crossbarref29_Short rfl
 simp only[vc_crossbarref29_Short,sVC,sEV,sENV,sVAL,sBO,forall_const,List.length_map]
 refine ⟨_,fun _=>pc_ref08_Short p.over h2,_,fun _=>pc_ref08_Short p.adds h4,?_⟩
 congr 2
 by_cases h1:p.maps.length≤300<;>by_cases hd:p.drops.length≤300<;>cases ho:elShort p.over<;>cases ha:elShort p.adds<;>simp[plShort,h1,hd,ho,ha,show ((p.maps.length:Int)≤300)↔p.maps.length≤300 by omega,show ((p.drops.length:Int)≤300)↔p.drops.length≤300 by omega]
theorem pc_plan_anew (p:Pl):PC Tryz.prog f_plan_anew [(PlSh,PlC p)] [(.bool,.bool (decide (p.drops≠[]∨p.adds≠[])))]:=by
 apply pcv_plan_anew rfl
 simp only[vc_plan_anew,sVC,sEV,sENV,sVAL,sBO,forall_const,List.length_map]
 generalize p.drops=d
 generalize p.adds=a
 cases d<;>cases a<;>simp<;>omega
theorem pc_plan_Elements (p:Pl):PC Tryz.prog f_plan_Elements [(PlSh,PlC p)] [(.bool,.bool (decide (p.maps≠[]∨p.over≠[]∨p.drops≠[]∨p.adds≠[])))]:=by
 apply pcv_plan_Elements rfl
 simp only[vc_plan_Elements,sVC,sEV,sENV,sVAL,sBO,forall_const,List.length_map]
 refine ⟨_,fun _=>pc_plan_anew p,?_⟩
 congr 2
 generalize p.maps=a1
 generalize p.over=a2
 generalize p.drops=a3
 generalize p.adds=a4
 cases a1<;>cases a2<;>cases a3<;>cases a4<;>simp<;>omega
end Go.Vc

set_option maxRecDepth 100000
namespace Go.Vc
open Go Go.Proofs Go.Plain
open Go.Lib (decDigits nDigits)
def wMarker:List UInt8:=[109,97,114,107,101,114]
def wOn:List UInt8:=[111,110]
def wOff:List UInt8:=[111,102,102]
def wType:List UInt8:=[116,121,112,101]
def wSeq:List UInt8:=[115,101,113]
def wTime:List UInt8:=[116,105,109,101]
def wSsrc:List UInt8:=[115,115,114,99]
def wMap:List UInt8:=[109,97,112]
def wOver:List UInt8:=[111,118,101,114]
def wDrop:List UInt8:=[100,114,111,112]
def wAdd:List UInt8:=[97,100,100]
def wNopad:List UInt8:=[110,111,112,97,100]
abbrev numI (n:Int):List UInt8:=decDigits n.toNat
def tk1 (p:Pl):List (List UInt8):=if p.sm then [wMarker,if p.m then wOn else wOff] else []
def tk2 (p:Pl):List (List UInt8):=if p.st then [wType,numI p.ty] else []
def tk3 (p:Pl):List (List UInt8):=if p.sq then [wSeq,numI p.seq] else []
def tk4 (p:Pl):List (List UInt8):=if p.stm then [wTime,numI p.time] else []
def tk5 (p:Pl):List (List UInt8):=if p.ss then [wSsrc,numI p.ssrc] else []
def tkM (l:List Mp):List (List UInt8):=l.flatMap fun m=> [wMap,numI m.fr,numI m.to]
def tkE (w:List UInt8) (l:List El):List (List UInt8):=l.flatMap fun e=> [w,numI e.id,qs e.data]
def tkD (l:List Int):List (List UInt8):=l.flatMap fun d=> [wDrop,numI d]
def tkN (p:Pl):List (List UInt8):=if p.np then [wNopad] else []
/-- A plan's words. -/
def toks (p:Pl):List (List UInt8):=tk1 p++(tk2 p++(tk3 p++(tk4 p++(tk5 p++(tkM p.maps++(tkE wOver p.over++(tkD p.drops++(tkE wAdd p.adds++tkN p))))))))
def printL (p:Pl):List UInt8:=joinSp (toks p)
/-- Words, a blank ahead of each. -/
def flatW (ts:List (List UInt8)):List UInt8:=ts.flatMap (32::·)
theorem flatW_app (a b:List (List UInt8)):flatW (a++b)=flatW a++flatW b:=by simp[flatW]
theorem flatW_join:∀ts:List (List UInt8),ts≠[]→flatW ts=32::joinSp ts
 | [],h=>absurd rfl h
 | [w],_=>by simp[flatW,joinSp]
 |w::v::r,_=>by
  have ih:=flatW_join (v::r) (by simp)
  have e:flatW (w::v::r)=(32::w)++flatW (v::r):=by simp[flatW]
  have e2:joinSp (w::v::r)=w++32::joinSp (v::r):=rfl
  rw[e,ih,e2]
  simp
theorem flatW_tail (ts:List (List UInt8)):(flatW ts).drop 1=joinSp ts:=by
 by_cases h:ts=[]
 ·subst h;rfl
 ·rw[flatW_join ts h];rfl
/-! Numerals. -/
def dig? (x:UInt8):Bool:=decide (48≤x.toNat∧x.toNat≤57)
def valD (w:List UInt8):Nat:=w.foldl (fun n x=>10*n+(x.toNat-48)) 0
theorem valD_snoc (w:List UInt8) (x:UInt8):valD (w++ [x])=10*valD w+(x.toNat-48):=by unfold valD;rw[List.foldl_append];rfl
theorem dec_small {n:Nat} (h:n<10):decDigits n=[UInt8.ofNat (48+n)]:=by rw[decDigits,dif_pos h]
theorem dec_big {n:Nat} (h:¬n<10):decDigits n=decDigits (n/10)++ [UInt8.ofNat (48+n%10)]:=by rw[decDigits,dif_neg h]
theorem dec_facts (n:Nat):(decDigits n).all dig?=true∧valD (decDigits n)=n∧decDigits n≠[]:=by
 induction n using Nat.strongRecOn with
 |_ n ih=>
  by_cases h:n<10
  ·rw[dec_small h]
   have e:(UInt8.ofNat (48+n)).toNat=48+n:=by rw[UInt8.toNat_ofNat'];omega
   refine ⟨?_,?_,by simp⟩
   ·simp only[List.all_cons,List.all_nil,Bool.and_true,dig?,e,decide_eq_true_eq];omega
   ·unfold valD;simp only[List.foldl_cons,List.foldl_nil,e];omega
  ·rw[dec_big h]
   obtain ⟨h1,h2,h3⟩:=ih (n/10) (by omega)
   have e:(UInt8.ofNat (48+n%10)).toNat=48+n%10:=by rw[UInt8.toNat_ofNat'];omega
   refine ⟨?_,?_,by simp⟩
   ·rw[List.all_append,h1]
    simp only[List.all_cons,List.all_nil,Bool.and_true,Bool.true_and,dig?,e,decide_eq_true_eq];omega
   ·rw[valD_snoc,h2,e];omega
theorem nD_le:∀(k n:Nat),n<10^(k+1)→nDigits n≤k+1
 |0,n,h=>by rw[Go.Lib.nDigits_small (by simpa using h)];exact Nat.le_refl _
 |k+1,n,h=>by
  by_cases h10:n<10
  ·rw[Go.Lib.nDigits_small h10];omega
  ·rw[Go.Lib.nDigits_big h10]
   have:=nD_le k (n/10) (by rw[Nat.pow_succ] at h;omega)
   omega
theorem dec_len {n:Nat} (h:n<4294967296):1≤(decDigits n).length∧(decDigits n).length≤10:=by
 rw[Go.Lib.decDigits_length]
 exact ⟨Go.Lib.nDigits_pos n,nD_le 9 n (by omega)⟩
theorem dig_sgn {x:UInt8} (h:dig? x=true):tsgn x=true:=by
 have h:=of_decide_eq_true h
 unfold tsgn
 rw[decide_eq_true_eq]
 omega
theorem dec_tok {n:Nat} (h:n<4294967296):tokL (decDigits n)=true:=by
 obtain ⟨h1,h2⟩:=dec_len h
 unfold tokL
 rw[Bool.and_eq_true,decide_eq_true_eq]
 refine ⟨by omega,List.all_eq_true.2 fun x hx=>dig_sgn (List.all_eq_true.1 (dec_facts n).1 x hx)⟩
/-! Each word of a plan that is right is one. -/
theorem num_tok {n:Int} (h:n<4294967296):tokL (numI n)=true:=dec_tok (by omega)
theorem els_lt {l:List El} (h:elRight l):∀e∈l,1≤e.id∧e.id≤255∧e.data.length≤255:=by
 intro x hx
 obtain ⟨j,hj⟩:=List.getElem?_of_mem hx
 have hlt:=(List.getElem?_eq_some_iff.1 hj).1
 have:=h j hlt
 unfold elAt at this
 have e:l.getD j El.zero=x:=by simp[List.getD,hj]
 rw[e] at this
 exact ⟨this.1,this.2.1,this.2.2.1⟩
theorem toks_word {p:Pl} (h:plRight p) (hn:plNum p):∀w∈toks p,isWord w:=by
 obtain ⟨⟨_,_,_,_,_,t0,t1⟩,r1,r2,r3,r4,r5,_⟩:=h
 obtain ⟨n1,n2,n3,n4,n5,n6⟩:=hn
 intro w hw
 unfold toks at hw
 simp only[List.mem_append] at hw
 rcases hw with hw|hw|hw|hw|hw|hw|hw|hw|hw|hw
 ·unfold tk1 at hw
  split at hw
  ·simp only[List.mem_cons,List.mem_nil_iff,or_false] at hw
   rcases hw with rfl|rfl
   ·exact .inr (by decide)
   ·split<;>exact .inr (by decide)
  ·cases hw
 ·unfold tk2 at hw
  split at hw
  ·simp only[List.mem_cons,List.mem_nil_iff,or_false] at hw
   rcases hw with rfl|rfl
   ·exact .inr (by decide)
   ·exact .inr (num_tok (by omega))
  ·cases hw
 ·unfold tk3 at hw
  split at hw
  ·simp only[List.mem_cons,List.mem_nil_iff,or_false] at hw
   rcases hw with rfl|rfl
   ·exact .inr (by decide)
   ·exact .inr (num_tok (by omega))
  ·cases hw
 ·unfold tk4 at hw
  split at hw
  ·simp only[List.mem_cons,List.mem_nil_iff,or_false] at hw
   rcases hw with rfl|rfl
   ·exact .inr (by decide)
   ·exact .inr (num_tok (by omega))
  ·cases hw
 ·unfold tk5 at hw
  split at hw
  ·simp only[List.mem_cons,List.mem_nil_iff,or_false] at hw
   rcases hw with rfl|rfl
   ·exact .inr (by decide)
   ·exact .inr (num_tok (by omega))
  ·cases hw
 ·obtain ⟨m,hm,hw⟩:=List.mem_flatMap.1 hw
  have a1:=ids_lt r1 m.fr (List.mem_map.2 ⟨m,hm,rfl⟩)
  have a2:=ids_lt r2 m.to (List.mem_map.2 ⟨m,hm,rfl⟩)
  simp only[List.mem_cons,List.mem_nil_iff,or_false] at hw
  rcases hw with rfl|rfl|rfl
  ·exact .inr (by decide)
  ·exact .inr (num_tok (by omega))
  ·exact .inr (num_tok (by omega))
 ·obtain ⟨e,he,hw⟩:=List.mem_flatMap.1 hw
  have a1:=els_lt r4 e he
  simp only[List.mem_cons,List.mem_nil_iff,or_false] at hw
  rcases hw with rfl|rfl|rfl
  ·exact .inr (by decide)
  ·exact .inr (num_tok (by omega))
  ·exact .inl ⟨_,rfl⟩
 ·obtain ⟨d,hd,hw⟩:=List.mem_flatMap.1 hw
  have a1:=ids_lt r3 d hd
  simp only[List.mem_cons,List.mem_nil_iff,or_false] at hw
  rcases hw with rfl|rfl
  ·exact .inr (by decide)
  ·exact .inr (num_tok (by omega))
 ·obtain ⟨e,he,hw⟩:=List.mem_flatMap.1 hw
  have a1:=els_lt r5 e he
  simp only[List.mem_cons,List.mem_nil_iff,or_false] at hw
  rcases hw with rfl|rfl|rfl
  ·exact .inr (by decide)
  ·exact .inr (num_tok (by omega))
  ·exact .inl ⟨_,rfl⟩
 ·unfold tkN at hw
  split at hw
  ·simp only[List.mem_cons,List.mem_nil_iff,or_false] at hw
   rw[hw]
   exact .inr (by decide)
  ·cases hw
end Go.Vc

set_option maxRecDepth 100000
namespace Go.Vc
open Go Go.Proofs Go.RowKit Go.Plain
def plRowV (p:Pl) (vm vo vd va:Value):Array Value:=
 #[.bool p.sm,.bool p.m,.bool p.st,.int .i64 p.ty,.bool p.sq,.int .u16 p.seq,.bool p.stm,.int .u32 p.time,.bool p.ss,.int .u32 p.ssrc,vm,vo,vd,va,.bool p.np]
/-- The blocks that a plan's elements' bytes may lie in. -/
def PlN (lo pb rb:Nat) (vm vo vd va:Value) (b:Nat):Prop:=lo≤b∧b≠pb∧b≠rb∧vm.ownBlock≠some b∧vo.ownBlock≠some b∧vd.ownBlock≠some b∧va.ownBlock≠some b
def mpCells (l:List Mp):List Value:=l.flatMap fun m=> [.int .i64 m.fr,.int .i64 m.to]
/-- A plan's block. -/
def PlanAt (W:World) (lo pb rb:Nat) (p:Pl):Prop:=
 ∃vm vo vd va xo xa,W.heap[pb]?=some (.cells (plRowV p vm vo vd va) 29 (0,0))∧lo≤pb∧lo≤rb∧pb≠rb∧
  W.ownsRow lo 127 2 vm p.maps.length (mpCells p.maps)∧W.ownsRow lo 103 2 vo p.over.length xo∧W.ownsRow lo 3 1 vd p.drops.length (p.drops.map (Value.int .i64 ·))∧W.ownsRow lo 103 2 va p.adds.length xa∧
  RdRow W (PlN lo pb rb vm vo vd va) ElSh xo (p.over.map ElC)∧RdRow W (PlN lo pb rb vm vo vd va) ElSh xa (p.adds.map ElC)∧
  (∀g,vo.ownBlock=some g→va.ownBlock≠some g)∧vm.ownBlock≠some rb∧vo.ownBlock≠some rb∧vd.ownBlock≠some rb∧va.ownBlock≠some rb
/-- What a group of words does to a plan, as the reader takes it. -/
def grpR (p:Pl) (ws:List (List UInt8)) (wr:Bool):Pl×List (List UInt8)×Bool:=
 let w:=ws.headD []
 let r:=ws.tail
 let b:=wr||ws.isEmpty
 let x:=r.headD []
 let y:=r.tail.headD []
 if w=wMarker then ({p with sm:=true,m:=decide (x=wOn)},r.tail,(b||r.isEmpty)||(decide (x≠wOn)&&decide (x≠wOff)))
 else if w=wType then ({p with st:=true,ty:=(numR 255 x).1},r.tail,(b||r.isEmpty)||(numR 255 x).2)
 else if w=wSeq then ({p with sq:=true,seq:=(numR 65535 x).1},r.tail,(b||r.isEmpty)||(numR 65535 x).2)
 else if w=wTime then ({p with stm:=true,time:=(numR 4294967295 x).1},r.tail,(b||r.isEmpty)||(numR 4294967295 x).2)
 else if w=wSsrc then ({p with ss:=true,ssrc:=(numR 4294967295 x).1},r.tail,(b||r.isEmpty)||(numR 4294967295 x).2)
 else if w=wMap then ({p with maps:=p.maps++ [⟨(numR 255 x).1,(numR 255 y).1⟩]},r.tail.tail,(((b||r.isEmpty)||(numR 255 x).2)||r.tail.isEmpty)||(numR 255 y).2)
 else if w=wOver then ({p with over:=p.over++ [⟨(numR 255 x).1,(unqL y).getD []⟩]},r.tail.tail,(((b||r.isEmpty)||(numR 255 x).2)||r.tail.isEmpty)|| !(unqL y).isSome)
 else if w=wDrop then ({p with drops:=p.drops++ [((numR 255 x).1:Int)]},r.tail,(b||r.isEmpty)||(numR 255 x).2)
 else if w=wAdd then ({p with adds:=p.adds++ [⟨(numR 255 x).1,(unqL y).getD []⟩]},r.tail.tail,(((b||r.isEmpty)||(numR 255 x).2)||r.tail.isEmpty)|| !(unqL y).isSome)
 else if w=wNopad then ({p with np:=true},r,b)
 else (p,r,true)
theorem own_kept {W W':World} {lo:Nat} {e:TypeId} {size:Nat} {v:Value} {n:Nat} {xs:List Value} (h:W.ownsRow lo e size v n xs) (hk:∀g,v.ownBlock=some g→W'.heap[g]?=W.heap[g]?):W'.ownsRow lo e size v n xs:=by
 refine ⟨h.1,?_⟩
 rcases h.2 with h0|⟨g,cap,cur,h1,h2,h3,h4⟩
 ·exact .inl h0
 ·exact .inr ⟨g,cap,cur,h1,h2,by rw[hk g (by rw[h1];rfl)];exact h3,h4⟩
theorem own_lt {W:World} {lo:Nat} {e:TypeId} {size:Nat} {v:Value} {n:Nat} {xs:List Value} (h:W.ownsRow lo e size v n xs) {g:Nat} (hg:v.ownBlock=some g):lo≤g∧g<W.heap.size:=by
 rcases h.2 with ⟨h0,_⟩|⟨g',cap,cur,h1,h2,h3,h4⟩
 ·rw[h0] at hg;cases hg
 ·rw[h1] at hg
  simp only[Value.ownBlock,Option.some.injEq] at hg
  subst hg
  exact ⟨h2,(Array.getElem?_eq_some_iff.1 h3).1⟩
/-- A plan stays where the blocks that it holds stay. -/
theorem PlanAt.keep {W W':World} {lo pb rb:Nat} {p:Pl} (h:PlanAt W lo pb rb p) (hs:W.heap.size≤W'.heap.size) (hk:∀k,k<W.heap.size→k≠rb→W'.heap[k]?=W.heap[k]?):PlanAt W' lo pb rb p:=by
 obtain ⟨vm,vo,vd,va,xo,xa,h1,h2,h3,h4,o1,o2,o3,o4,r1,r2,d,n1,n2,n3,n4⟩:=h
 have hp:pb<W.heap.size:=(Array.getElem?_eq_some_iff.1 h1).1
 refine ⟨vm,vo,vd,va,xo,xa,by rw[hk pb hp h4];exact h1,h2,h3,h4,own_kept o1 ?_,own_kept o2 ?_,own_kept o3 ?_,own_kept o4 ?_,r1.mono hs ?_,r2.mono hs ?_,d,n1,n2,n3,n4⟩
 ·exact fun g hg=>hk g (own_lt o1 hg).2 (fun e=>n1 (by rw[hg,e]))
 ·exact fun g hg=>hk g (own_lt o2 hg).2 (fun e=>n2 (by rw[hg,e]))
 ·exact fun g hg=>hk g (own_lt o3 hg).2 (fun e=>n3 (by rw[hg,e]))
 ·exact fun g hg=>hk g (own_lt o4 hg).2 (fun e=>n4 (by rw[hg,e]))
 ·exact fun b hb hlt=>⟨hk b hlt hb.2.2.1,hb⟩
 ·exact fun b hb hlt=>⟨hk b hlt hb.2.2.1,hb⟩
theorem own_type {W:World} {lo:Nat} {e:TypeId} {size:Nat} {v:Value} {n:Nat} {xs:List Value} (h:W.ownsRow lo e size v n xs) {g:Nat} {cs:Array Value} {t:TypeId} {fz:Nat×Nat} (hg:W.heap[g]?=some (.cells cs t fz)) (ht:t≠e):v.ownBlock≠some g:=by
 rcases h.2 with ⟨h0,_⟩|⟨g',cap,cur,h1,h2,h3,h4⟩
 ·rw[h0];simp[Value.ownBlock]
 ·rw[h1]
  intro hc
  simp only[Value.ownBlock,Option.some.injEq] at hc
  subst hc
  rw[hg] at h3
  simp only[Option.some.injEq,Obj.cells.injEq] at h3
  exact ht h3.2.1
/-- A field that is no slice is stored. -/
theorem PlanAt.set {W:World} {lo pb rb:Nat} {p p':Pl} (h:PlanAt W lo pb rb p) (i:Nat) (v:Value) (hc:∀vm vo vd va,(plRowV p vm vo vd va).set! i v=plRowV p' vm vo vd va)
  (e1:p'.maps=p.maps) (e2:p'.over=p.over) (e3:p'.drops=p.drops) (e4:p'.adds=p.adds):PlanAt (W.setCell ⟨pb,i,none⟩ v) lo pb rb p':=by
 obtain ⟨vm,vo,vd,va,xo,xa,h1,h2,h3,h4,o1,o2,o3,o4,r1,r2,d,n1,n2,n3,n4⟩:=h
 have hk:∀k,k≠pb→(W.setCell ⟨pb,i,none⟩ v).heap[k]?=W.heap[k]?:=fun k hk=>Below.heap_setCell _ _ _ _ (by simpa using hk)
 have t1:=own_type o1 h1 (by decide)
 have t2:=own_type o2 h1 (by decide)
 have t3:=own_type o3 h1 (by decide)
 have t4:=own_type o4 h1 (by decide)
 refine ⟨vm,vo,vd,va,xo,xa,?_,h2,h3,h4,?_,?_,?_,?_,?_,?_,d,n1,n2,n3,n4⟩
 ·rw[←hc vm vo vd va]
  simp[World.setCell,Array.getElem?_modify,h1]
 ·rw[e1];exact own_kept o1 fun g hg=>hk g (fun e=>t1 (by rw[hg,e]))
 ·rw[e2];exact own_kept o2 fun g hg=>hk g (fun e=>t2 (by rw[hg,e]))
 ·rw[e3];exact own_kept o3 fun g hg=>hk g (fun e=>t3 (by rw[hg,e]))
 ·rw[e4];exact own_kept o4 fun g hg=>hk g (fun e=>t4 (by rw[hg,e]))
 ·rw[e2];exact r1.mono (by simp[World.setCell]) fun b hb hlt=>⟨hk b hb.2.1,hb⟩
 ·rw[e4];exact r2.mono (by simp[World.setCell]) fun b hb hlt=>⟨hk b hb.2.1,hb⟩
theorem PlanAt.block {W:World} {lo pb rb:Nat} {p:Pl} (h:PlanAt W lo pb rb p):∃vm vo vd va,W.heap[pb]?=some (.cells (plRowV p vm vo vd va) 29 (0,0)):=by
 obtain ⟨vm,vo,vd,va,xo,xa,h1,_⟩:=h
 exact ⟨vm,vo,vd,va,h1⟩
theorem below_set {lo:Nat} {a w:World} (h:Below lo a w) {k:Nat} (hk:lo≤k) (i:Nat) (v:Value):Below lo a (w.setCell ⟨k,i,none⟩ v):=
 ⟨h.os,h.tape,h.output,by simpa [World.setCell] using h.size,fun j hj=>by rw[Below.heap_setCell _ _ _ _ (by simp;omega)];exact h.block j hj⟩
theorem below_grown {lo rb:Nat} {w w':World} (h:w.grownBy w' (some rb)) (hlo:lo≤w.heap.size) (hr:lo≤rb):Below lo w w':=
 ⟨h.os,h.tape,h.output,h.size,fun j hj=>h.block j (by omega) (by simp;omega)⟩
theorem beq_dec (a b:List UInt8):(a==b)=decide (a=b):=by rw[Bool.eq_iff_iff];simp
theorem next_walk2 (W:World) (lo rb:Nat) (hlo:lo≤W.heap.size) (sv:Value) (wr:Bool) (ws:List (List UInt8)) (s:List UInt8) (hs:ws.headD []=s) (h:RdrAt W rb sv wr) (hw:WordsAt W lo rb sv ws):
  Calls Tryz.prog 96 #[.pointer (some ⟨rb,0,none⟩)] W fun e W'=>∃sv',e= .returned (.string ⟨s.toArray⟩)∧RdrAt W' rb sv' (wr||ws.isEmpty)∧WordsAt W' lo rb sv' ws.tail∧W.grownBy W' (some rb):=by
 subst hs
 exact next_walk W lo rb hlo sv wr ws h hw
theorem own_far {W:World} {lo:Nat} {e e':TypeId} {s s':Nat} {v v':Value} {n n':Nat} {xs xs':List Value} (h:W.ownsRow lo e s v n xs) (h':W.ownsRow lo e' s' v' n' xs') (hne:e≠e') {g:Nat} (hat:v.ownBlock=some g∨W.heap.size≤g):v'.ownBlock≠some g:=by
 intro hc
 rcases hat with ha|ha
 ·rcases h.2 with ⟨h0,_⟩|⟨g',cap,cur,h1,h2,h3,h4⟩
  ·rw[h0] at ha;cases ha
  ·rw[h1] at ha
   simp only[Value.ownBlock,Option.some.injEq] at ha
   subst ha
   exact own_type h' h3 hne hc
 ·have:=(own_lt h' hc).2
  omega
theorem own_far2 {W:World} {lo:Nat} {e':TypeId} {s':Nat} {v v':Value} {n':Nat} {xs':List Value} (h':W.ownsRow lo e' s' v' n' xs') (hne:∀g,v.ownBlock=some g→v'.ownBlock≠some g) {g:Nat} (hat:v.ownBlock=some g∨W.heap.size≤g):v'.ownBlock≠some g:=by
 intro hc
 rcases hat with ha|ha
 ·exact hne g ha hc
 ·have:=(own_lt h' hc).2
  omega
theorem grown_set_keep {W W1:World} {row:Option Nat} (hg:W.grownBy W1 row) (pb i:Nat) (v:Value) (k:Nat) (hk:k<W.heap.size) (hne:k≠pb) (hr:row≠some k):(W1.setCell ⟨pb,i,none⟩ v).heap[k]?=W.heap[k]?:=by
 rw[Below.heap_setCell _ _ _ _ (by simpa using hne)]
 exact hg.block k hk (fun e=>hr e.symm)
theorem grown_set_cells {W W1:World} {row:Option Nat} (hg:W.grownBy W1 row) {pb:Nat} (i:Nat) (v:Value) {cs:Array Value} {t:TypeId} {fz:Nat×Nat} (h:W.heap[pb]?=some (.cells cs t fz)) (hr:row≠some pb):(W1.setCell ⟨pb,i,none⟩ v).heap[pb]?=some (.cells (cs.set! i v) t fz):=by
 have h1:W1.heap[pb]?=some (.cells cs t fz):=by rw[hg.block pb (Array.getElem?_eq_some_iff.1 h).1 (fun e=>hr e.symm)];exact h
 simp[World.setCell,Array.getElem?_modify,h1]
theorem mem_lt {W:World} {b:Nat} {o:Obj} (h:W.heap[b]?=some o):b<W.heap.size:=(Array.getElem?_eq_some_iff.1 h).1
theorem PlanAt.add_maps {W0:World} {lo pb rb:Nat} {p:Pl} (h:PlanAt W0 lo pb rb p) (hrb:rb<W0.heap.size):
  ∃vm,W0.cell? ⟨pb,10,none⟩=some vm∧vm.ownBlock≠some pb∧(∀g,vm.ownBlock=some g→g<W0.heap.size∧lo≤g∧g≠pb∧g≠rb)∧∀W,W0.grownBy W (some rb)→W.cell? ⟨pb,10,none⟩=some vm∧W.frozen? ⟨pb,10,none⟩=false∧W.ownsRow lo 127 2 vm p.maps.length (mpCells p.maps)∧
   ∀(m:Mp),
   ∀W1 g cap,W.grownBy W1 vm.ownBlock→(vm.ownBlock=some g∨W.heap.size≤g)→W1.ownsRow lo 127 2 (.slice (some ⟨g,0,none⟩) (p.maps.length+1) cap) (p.maps.length+1) ((mpCells p.maps)++ [.int .i64 m.fr,.int .i64 m.to])→
    PlanAt (W1.setCell ⟨pb,10,none⟩ (.slice (some ⟨g,0,none⟩) (p.maps.length+1) cap)) lo pb rb {p with maps:=p.maps++ [m]}:=by
 obtain ⟨vm,vo,vd,va,xo,xa,h1',h2,h3,h4,o1',o2',o3',o4',r1',r2',d,n1,n2,n3,n4⟩:=h
 have t0:=own_type o1' h1' (by decide)
 refine ⟨vm,by rw[Lib.cell_of_heap h1'];rfl,t0,fun g hg=>⟨(own_lt o1' hg).2,(own_lt o1' hg).1,fun e=>t0 (by rw[hg,e]),fun e=>n1 (by rw[hg,e])⟩,fun W hk=>?_⟩
 have kk:∀k,k<W0.heap.size→k≠rb→W.heap[k]?=W0.heap[k]?:=fun k h hn=>hk.block k h (by simp;exact hn)
 have hp0:=mem_lt h1'
 have hsz:=hk.size
 have h1:W.heap[pb]?=some (.cells (plRowV p vm vo vd va) 29 (0,0)):=by rw[kk pb hp0 h4];exact h1'
 have o1:=own_kept (W':=W) o1' fun g hg=>kk g (own_lt o1' hg).2 (fun e=>n1 (by rw[hg,e]))
 have o2:=own_kept (W':=W) o2' fun g hg=>kk g (own_lt o2' hg).2 (fun e=>n2 (by rw[hg,e]))
 have o3:=own_kept (W':=W) o3' fun g hg=>kk g (own_lt o3' hg).2 (fun e=>n3 (by rw[hg,e]))
 have o4:=own_kept (W':=W) o4' fun g hg=>kk g (own_lt o4' hg).2 (fun e=>n4 (by rw[hg,e]))
 have r1:=r1'.mono (w':=W) (N':=fun b=>PlN lo pb rb vm vo vd va b∧b<W0.heap.size) hsz fun b hb hlt=>⟨kk b hlt hb.2.2.1,hb,hlt⟩
 have r2:=r2'.mono (w':=W) (N':=fun b=>PlN lo pb rb vm vo vd va b∧b<W0.heap.size) hsz fun b hb hlt=>⟨kk b hlt hb.2.2.1,hb,hlt⟩
 have t1:=own_type o1 h1 (by decide)
 have t2:=own_type o2 h1 (by decide)
 have t3:=own_type o3 h1 (by decide)
 have t4:=own_type o4 h1 (by decide)
 refine ⟨by rw[Lib.cell_of_heap h1];rfl,Lib.frozen_of_heap h1 _,o1,fun m W1 g cap hg hat hown=>?_⟩
 have hgp:g≠pb:=by
  rcases hat with ha|ha
  ·exact fun e=>t1 (by rw[ha,e])
  ·have:=mem_lt h1;omega
 have hgr:g≠rb:=by
  rcases hat with ha|ha
  ·exact fun e=>n1 (by rw[ha,e])
  ·omega
 have fvo:vo.ownBlock≠some g:=own_far o1 o2 (by decide) hat
 have fvd:vd.ownBlock≠some g:=own_far o1 o3 (by decide) hat
 have fva:va.ownBlock≠some g:=own_far o1 o4 (by decide) hat
 have hkp:=grown_set_keep hg pb 10 (.slice (some ⟨g,0,none⟩) (p.maps.length+1) cap)
 have tr:∀b,PlN lo pb rb vm vo vd va b∧b<W0.heap.size→b<W.heap.size→(W1.setCell ⟨pb,10,none⟩ (.slice (some ⟨g,0,none⟩) (p.maps.length+1) cap)).heap[b]?=W.heap[b]?∧PlN lo pb rb (.slice (some ⟨g,0,none⟩) (p.maps.length+1) cap) vo vd va b:=fun b ⟨hb,hb0⟩ hlt=>⟨hkp b hlt hb.2.1 hb.2.2.2.1,hb.1,hb.2.1,hb.2.2.1,(fun e=>by simp only[Value.ownBlock,Option.some.injEq] at e;rcases hat with ha|ha<;>first|(exact hb.2.2.2.1 (by rw[ha,e]))|omega),hb.2.2.2.2.1,hb.2.2.2.2.2.1,hb.2.2.2.2.2.2⟩
 have hsz1:W.heap.size≤(W1.setCell ⟨pb,10,none⟩ (.slice (some ⟨g,0,none⟩) (p.maps.length+1) cap)).heap.size:=by have:=hg.size;simpa [World.setCell] using this
 exact ⟨(.slice (some ⟨g,0,none⟩) (p.maps.length+1) cap),vo,vd,va,xo,xa,grown_set_cells hg 10 (.slice (some ⟨g,0,none⟩) (p.maps.length+1) cap) h1 t1,h2,h3,h4,(by have q:=(own_kept hown fun k hz=>by simp only[Value.ownBlock,Option.some.injEq] at hz;subst hz;exact Below.heap_setCell _ _ _ _ (by simpa using hgp):(W1.setCell ⟨pb,10,none⟩ (.slice (some ⟨g,0,none⟩) (p.maps.length+1) cap)).ownsRow lo 127 2 (.slice (some ⟨g,0,none⟩) (p.maps.length+1) cap) _ _);simpa [mpCells] using q),own_kept o2 fun k hz=>hkp k (own_lt o2 hz).2 (fun e=>t2 (by rw[hz,e])) (own_far o2 o1 (by decide) (.inl hz)),own_kept o3 fun k hz=>hkp k (own_lt o3 hz).2 (fun e=>t3 (by rw[hz,e])) (own_far o3 o1 (by decide) (.inl hz)),own_kept o4 fun k hz=>hkp k (own_lt o4 hz).2 (fun e=>t4 (by rw[hz,e])) (own_far o4 o1 (by decide) (.inl hz)),r1.mono hsz1 tr,r2.mono hsz1 tr,d,(by simp only[Value.ownBlock,ne_eq,Option.some.injEq];exact hgr),n2,n3,n4⟩
theorem PlanAt.add_over {W0:World} {lo pb rb:Nat} {p:Pl} (h:PlanAt W0 lo pb rb p) (hrb:rb<W0.heap.size):
  ∃vo xs,W0.cell? ⟨pb,11,none⟩=some vo∧vo.ownBlock≠some pb∧(∀g,vo.ownBlock=some g→g<W0.heap.size∧lo≤g∧g≠pb∧g≠rb)∧∀W,W0.grownBy W (some rb)→W.cell? ⟨pb,11,none⟩=some vo∧W.frozen? ⟨pb,11,none⟩=false∧W.ownsRow lo 103 2 vo p.over.length xs∧
   ∀(M:Nat) (hM:W0.heap.size≤M) (e:El) (dv:Value) (hd:Rd W (fun b=>M≤b) (.sl (.int .u8)) [dv] (.ls (ofBytes e.data))),
   ∀W1 g cap,W.grownBy W1 vo.ownBlock→(vo.ownBlock=some g∨W.heap.size≤g)→W1.ownsRow lo 103 2 (.slice (some ⟨g,0,none⟩) (p.over.length+1) cap) (p.over.length+1) (xs++ [.int .i64 e.id,dv])→
    PlanAt (W1.setCell ⟨pb,11,none⟩ (.slice (some ⟨g,0,none⟩) (p.over.length+1) cap)) lo pb rb {p with over:=p.over++ [e]}:=by
 obtain ⟨vm,vo,vd,va,xo,xa,h1',h2,h3,h4,o1',o2',o3',o4',r1',r2',d,n1,n2,n3,n4⟩:=h
 have t0:=own_type o2' h1' (by decide)
 refine ⟨vo,xo,by rw[Lib.cell_of_heap h1'];rfl,t0,fun g hg=>⟨(own_lt o2' hg).2,(own_lt o2' hg).1,fun e=>t0 (by rw[hg,e]),fun e=>n2 (by rw[hg,e])⟩,fun W hk=>?_⟩
 have kk:∀k,k<W0.heap.size→k≠rb→W.heap[k]?=W0.heap[k]?:=fun k h hn=>hk.block k h (by simp;exact hn)
 have hp0:=mem_lt h1'
 have hsz:=hk.size
 have h1:W.heap[pb]?=some (.cells (plRowV p vm vo vd va) 29 (0,0)):=by rw[kk pb hp0 h4];exact h1'
 have o1:=own_kept (W':=W) o1' fun g hg=>kk g (own_lt o1' hg).2 (fun e=>n1 (by rw[hg,e]))
 have o2:=own_kept (W':=W) o2' fun g hg=>kk g (own_lt o2' hg).2 (fun e=>n2 (by rw[hg,e]))
 have o3:=own_kept (W':=W) o3' fun g hg=>kk g (own_lt o3' hg).2 (fun e=>n3 (by rw[hg,e]))
 have o4:=own_kept (W':=W) o4' fun g hg=>kk g (own_lt o4' hg).2 (fun e=>n4 (by rw[hg,e]))
 have r1:=r1'.mono (w':=W) (N':=fun b=>PlN lo pb rb vm vo vd va b∧b<W0.heap.size) hsz fun b hb hlt=>⟨kk b hlt hb.2.2.1,hb,hlt⟩
 have r2:=r2'.mono (w':=W) (N':=fun b=>PlN lo pb rb vm vo vd va b∧b<W0.heap.size) hsz fun b hb hlt=>⟨kk b hlt hb.2.2.1,hb,hlt⟩
 have t1:=own_type o1 h1 (by decide)
 have t2:=own_type o2 h1 (by decide)
 have t3:=own_type o3 h1 (by decide)
 have t4:=own_type o4 h1 (by decide)
 refine ⟨by rw[Lib.cell_of_heap h1];rfl,Lib.frozen_of_heap h1 _,o2,fun M hM e dv hd W1 g cap hg hat hown=>?_⟩
 have hgp:g≠pb:=by
  rcases hat with ha|ha
  ·exact fun e=>t2 (by rw[ha,e])
  ·have:=mem_lt h1;omega
 have hgr:g≠rb:=by
  rcases hat with ha|ha
  ·exact fun e=>n2 (by rw[ha,e])
  ·omega
 have fvm:vm.ownBlock≠some g:=own_far o2 o1 (by decide) hat
 have fvd:vd.ownBlock≠some g:=own_far o2 o3 (by decide) hat
 have fva:va.ownBlock≠some g:=own_far2 (v:=vo) o4 (fun g h=>d g h) hat
 have hkp:=grown_set_keep hg pb 11 (.slice (some ⟨g,0,none⟩) (p.over.length+1) cap)
 have tr:∀b,PlN lo pb rb vm vo vd va b∧b<W0.heap.size→b<W.heap.size→(W1.setCell ⟨pb,11,none⟩ (.slice (some ⟨g,0,none⟩) (p.over.length+1) cap)).heap[b]?=W.heap[b]?∧PlN lo pb rb vm (.slice (some ⟨g,0,none⟩) (p.over.length+1) cap) vd va b:=fun b ⟨hb,hb0⟩ hlt=>⟨hkp b hlt hb.2.1 hb.2.2.2.2.1,hb.1,hb.2.1,hb.2.2.1,hb.2.2.2.1,(fun e=>by simp only[Value.ownBlock,Option.some.injEq] at e;rcases hat with ha|ha<;>first|(exact hb.2.2.2.2.1 (by rw[ha,e]))|omega),hb.2.2.2.2.2.1,hb.2.2.2.2.2.2⟩
 have hsz1:W.heap.size≤(W1.setCell ⟨pb,11,none⟩ (.slice (some ⟨g,0,none⟩) (p.over.length+1) cap)).heap.size:=by have:=hg.size;simpa [World.setCell] using this
 have hd2:RdRow (W1.setCell ⟨pb,11,none⟩ (.slice (some ⟨g,0,none⟩) (p.over.length+1) cap)) (PlN lo pb rb vm (.slice (some ⟨g,0,none⟩) (p.over.length+1) cap) vd va) ElSh [.int .i64 e.id,dv] [ElC e]:=by
  have hlo0:lo≤W0.heap.size:=by have:=h2;omega
  refine ⟨[.int .i64 e.id,dv],[],rfl,⟨rfl,[.int .i64 e.id],[dv],rfl,rfl,rfl,[dv],[],rfl,?_,rfl⟩,rfl⟩
  refine hd.mono hsz1 fun b hb hlt=>⟨hkp b hlt (by omega) (fun e=>by have:=(own_lt o2' e).2;omega),by omega,by omega,by omega,(fun e=>by have:=(own_lt o1' e).2;omega),(fun e=>by simp only[Value.ownBlock,Option.some.injEq] at e;rcases hat with ha|ha<;>first|(have:=(own_lt o2' ha).2;omega)|omega),(fun e=>by have:=(own_lt o3' e).2;omega),(fun e=>by have:=(own_lt o4' e).2;omega)⟩
 exact ⟨vm,(.slice (some ⟨g,0,none⟩) (p.over.length+1) cap),vd,va,xo++ [.int .i64 e.id,dv],xa,grown_set_cells hg 11 (.slice (some ⟨g,0,none⟩) (p.over.length+1) cap) h1 t2,h2,h3,h4,own_kept o1 fun k hz=>hkp k (own_lt o1 hz).2 (fun e=>t1 (by rw[hz,e])) (own_far o1 o2 (by decide) (.inl hz)),(by have q:=(own_kept hown fun k hz=>by simp only[Value.ownBlock,Option.some.injEq] at hz;subst hz;exact Below.heap_setCell _ _ _ _ (by simpa using hgp):(W1.setCell ⟨pb,11,none⟩ (.slice (some ⟨g,0,none⟩) (p.over.length+1) cap)).ownsRow lo 103 2 (.slice (some ⟨g,0,none⟩) (p.over.length+1) cap) _ _);simpa [mpCells] using q),own_kept o3 fun k hz=>hkp k (own_lt o3 hz).2 (fun e=>t3 (by rw[hz,e])) (own_far o3 o2 (by decide) (.inl hz)),own_kept o4 fun k hz=>hkp k (own_lt o4 hz).2 (fun e=>t4 (by rw[hz,e])) (fun e=>d _ e hz),(by rw[List.map_append];exact RdRow.append (r1.mono hsz1 tr) hd2),r2.mono hsz1 tr,(fun k hz e=>by simp only[Value.ownBlock,Option.some.injEq] at hz;subst hz;exact fva e),n1,(by simp only[Value.ownBlock,ne_eq,Option.some.injEq];exact hgr),n3,n4⟩
theorem PlanAt.add_drops {W0:World} {lo pb rb:Nat} {p:Pl} (h:PlanAt W0 lo pb rb p) (hrb:rb<W0.heap.size):
  ∃vd,W0.cell? ⟨pb,12,none⟩=some vd∧vd.ownBlock≠some pb∧(∀g,vd.ownBlock=some g→g<W0.heap.size∧lo≤g∧g≠pb∧g≠rb)∧∀W,W0.grownBy W (some rb)→W.cell? ⟨pb,12,none⟩=some vd∧W.frozen? ⟨pb,12,none⟩=false∧W.ownsRow lo 3 1 vd p.drops.length (p.drops.map (Value.int .i64 ·))∧
   ∀(d:Int),
   ∀W1 g cap,W.grownBy W1 vd.ownBlock→(vd.ownBlock=some g∨W.heap.size≤g)→W1.ownsRow lo 3 1 (.slice (some ⟨g,0,none⟩) (p.drops.length+1) cap) (p.drops.length+1) ((p.drops.map (Value.int .i64 ·))++ [.int .i64 d])→
    PlanAt (W1.setCell ⟨pb,12,none⟩ (.slice (some ⟨g,0,none⟩) (p.drops.length+1) cap)) lo pb rb {p with drops:=p.drops++ [d]}:=by
 obtain ⟨vm,vo,vd,va,xo,xa,h1',h2,h3,h4,o1',o2',o3',o4',r1',r2',d,n1,n2,n3,n4⟩:=h
 have t0:=own_type o3' h1' (by decide)
 refine ⟨vd,by rw[Lib.cell_of_heap h1'];rfl,t0,fun g hg=>⟨(own_lt o3' hg).2,(own_lt o3' hg).1,fun e=>t0 (by rw[hg,e]),fun e=>n3 (by rw[hg,e])⟩,fun W hk=>?_⟩
 have kk:∀k,k<W0.heap.size→k≠rb→W.heap[k]?=W0.heap[k]?:=fun k h hn=>hk.block k h (by simp;exact hn)
 have hp0:=mem_lt h1'
 have hsz:=hk.size
 have h1:W.heap[pb]?=some (.cells (plRowV p vm vo vd va) 29 (0,0)):=by rw[kk pb hp0 h4];exact h1'
 have o1:=own_kept (W':=W) o1' fun g hg=>kk g (own_lt o1' hg).2 (fun e=>n1 (by rw[hg,e]))
 have o2:=own_kept (W':=W) o2' fun g hg=>kk g (own_lt o2' hg).2 (fun e=>n2 (by rw[hg,e]))
 have o3:=own_kept (W':=W) o3' fun g hg=>kk g (own_lt o3' hg).2 (fun e=>n3 (by rw[hg,e]))
 have o4:=own_kept (W':=W) o4' fun g hg=>kk g (own_lt o4' hg).2 (fun e=>n4 (by rw[hg,e]))
 have r1:=r1'.mono (w':=W) (N':=fun b=>PlN lo pb rb vm vo vd va b∧b<W0.heap.size) hsz fun b hb hlt=>⟨kk b hlt hb.2.2.1,hb,hlt⟩
 have r2:=r2'.mono (w':=W) (N':=fun b=>PlN lo pb rb vm vo vd va b∧b<W0.heap.size) hsz fun b hb hlt=>⟨kk b hlt hb.2.2.1,hb,hlt⟩
 have t1:=own_type o1 h1 (by decide)
 have t2:=own_type o2 h1 (by decide)
 have t3:=own_type o3 h1 (by decide)
 have t4:=own_type o4 h1 (by decide)
 refine ⟨by rw[Lib.cell_of_heap h1];rfl,Lib.frozen_of_heap h1 _,o3,fun dn W1 g cap hg hat hown=>?_⟩
 have hgp:g≠pb:=by
  rcases hat with ha|ha
  ·exact fun e=>t3 (by rw[ha,e])
  ·have:=mem_lt h1;omega
 have hgr:g≠rb:=by
  rcases hat with ha|ha
  ·exact fun e=>n3 (by rw[ha,e])
  ·omega
 have fvm:vm.ownBlock≠some g:=own_far o3 o1 (by decide) hat
 have fvo:vo.ownBlock≠some g:=own_far o3 o2 (by decide) hat
 have fva:va.ownBlock≠some g:=own_far o3 o4 (by decide) hat
 have hkp:=grown_set_keep hg pb 12 (.slice (some ⟨g,0,none⟩) (p.drops.length+1) cap)
 have tr:∀b,PlN lo pb rb vm vo vd va b∧b<W0.heap.size→b<W.heap.size→(W1.setCell ⟨pb,12,none⟩ (.slice (some ⟨g,0,none⟩) (p.drops.length+1) cap)).heap[b]?=W.heap[b]?∧PlN lo pb rb vm vo (.slice (some ⟨g,0,none⟩) (p.drops.length+1) cap) va b:=fun b ⟨hb,hb0⟩ hlt=>⟨hkp b hlt hb.2.1 hb.2.2.2.2.2.1,hb.1,hb.2.1,hb.2.2.1,hb.2.2.2.1,hb.2.2.2.2.1,(fun e=>by simp only[Value.ownBlock,Option.some.injEq] at e;rcases hat with ha|ha<;>first|(exact hb.2.2.2.2.2.1 (by rw[ha,e]))|omega),hb.2.2.2.2.2.2⟩
 have hsz1:W.heap.size≤(W1.setCell ⟨pb,12,none⟩ (.slice (some ⟨g,0,none⟩) (p.drops.length+1) cap)).heap.size:=by have:=hg.size;simpa [World.setCell] using this
 exact ⟨vm,vo,(.slice (some ⟨g,0,none⟩) (p.drops.length+1) cap),va,xo,xa,grown_set_cells hg 12 (.slice (some ⟨g,0,none⟩) (p.drops.length+1) cap) h1 t3,h2,h3,h4,own_kept o1 fun k hz=>hkp k (own_lt o1 hz).2 (fun e=>t1 (by rw[hz,e])) (own_far o1 o3 (by decide) (.inl hz)),own_kept o2 fun k hz=>hkp k (own_lt o2 hz).2 (fun e=>t2 (by rw[hz,e])) (own_far o2 o3 (by decide) (.inl hz)),(by have q:=(own_kept hown fun k hz=>by simp only[Value.ownBlock,Option.some.injEq] at hz;subst hz;exact Below.heap_setCell _ _ _ _ (by simpa using hgp):(W1.setCell ⟨pb,12,none⟩ (.slice (some ⟨g,0,none⟩) (p.drops.length+1) cap)).ownsRow lo 3 1 (.slice (some ⟨g,0,none⟩) (p.drops.length+1) cap) _ _);simpa [mpCells] using q),own_kept o4 fun k hz=>hkp k (own_lt o4 hz).2 (fun e=>t4 (by rw[hz,e])) (own_far o4 o3 (by decide) (.inl hz)),r1.mono hsz1 tr,r2.mono hsz1 tr,d,n1,n2,(by simp only[Value.ownBlock,ne_eq,Option.some.injEq];exact hgr),n4⟩
theorem PlanAt.add_adds {W0:World} {lo pb rb:Nat} {p:Pl} (h:PlanAt W0 lo pb rb p) (hrb:rb<W0.heap.size):
  ∃va xs,W0.cell? ⟨pb,13,none⟩=some va∧va.ownBlock≠some pb∧(∀g,va.ownBlock=some g→g<W0.heap.size∧lo≤g∧g≠pb∧g≠rb)∧∀W,W0.grownBy W (some rb)→W.cell? ⟨pb,13,none⟩=some va∧W.frozen? ⟨pb,13,none⟩=false∧W.ownsRow lo 103 2 va p.adds.length xs∧
   ∀(M:Nat) (hM:W0.heap.size≤M) (e:El) (dv:Value) (hd:Rd W (fun b=>M≤b) (.sl (.int .u8)) [dv] (.ls (ofBytes e.data))),
   ∀W1 g cap,W.grownBy W1 va.ownBlock→(va.ownBlock=some g∨W.heap.size≤g)→W1.ownsRow lo 103 2 (.slice (some ⟨g,0,none⟩) (p.adds.length+1) cap) (p.adds.length+1) (xs++ [.int .i64 e.id,dv])→
    PlanAt (W1.setCell ⟨pb,13,none⟩ (.slice (some ⟨g,0,none⟩) (p.adds.length+1) cap)) lo pb rb {p with adds:=p.adds++ [e]}:=by
 obtain ⟨vm,vo,vd,va,xo,xa,h1',h2,h3,h4,o1',o2',o3',o4',r1',r2',d,n1,n2,n3,n4⟩:=h
 have t0:=own_type o4' h1' (by decide)
 refine ⟨va,xa,by rw[Lib.cell_of_heap h1'];rfl,t0,fun g hg=>⟨(own_lt o4' hg).2,(own_lt o4' hg).1,fun e=>t0 (by rw[hg,e]),fun e=>n4 (by rw[hg,e])⟩,fun W hk=>?_⟩
 have kk:∀k,k<W0.heap.size→k≠rb→W.heap[k]?=W0.heap[k]?:=fun k h hn=>hk.block k h (by simp;exact hn)
 have hp0:=mem_lt h1'
 have hsz:=hk.size
 have h1:W.heap[pb]?=some (.cells (plRowV p vm vo vd va) 29 (0,0)):=by rw[kk pb hp0 h4];exact h1'
 have o1:=own_kept (W':=W) o1' fun g hg=>kk g (own_lt o1' hg).2 (fun e=>n1 (by rw[hg,e]))
 have o2:=own_kept (W':=W) o2' fun g hg=>kk g (own_lt o2' hg).2 (fun e=>n2 (by rw[hg,e]))
 have o3:=own_kept (W':=W) o3' fun g hg=>kk g (own_lt o3' hg).2 (fun e=>n3 (by rw[hg,e]))
 have o4:=own_kept (W':=W) o4' fun g hg=>kk g (own_lt o4' hg).2 (fun e=>n4 (by rw[hg,e]))
 have r1:=r1'.mono (w':=W) (N':=fun b=>PlN lo pb rb vm vo vd va b∧b<W0.heap.size) hsz fun b hb hlt=>⟨kk b hlt hb.2.2.1,hb,hlt⟩
 have r2:=r2'.mono (w':=W) (N':=fun b=>PlN lo pb rb vm vo vd va b∧b<W0.heap.size) hsz fun b hb hlt=>⟨kk b hlt hb.2.2.1,hb,hlt⟩
 have t1:=own_type o1 h1 (by decide)
 have t2:=own_type o2 h1 (by decide)
 have t3:=own_type o3 h1 (by decide)
 have t4:=own_type o4 h1 (by decide)
 refine ⟨by rw[Lib.cell_of_heap h1];rfl,Lib.frozen_of_heap h1 _,o4,fun M hM e dv hd W1 g cap hg hat hown=>?_⟩
 have hgp:g≠pb:=by
  rcases hat with ha|ha
  ·exact fun e=>t4 (by rw[ha,e])
  ·have:=mem_lt h1;omega
 have hgr:g≠rb:=by
  rcases hat with ha|ha
  ·exact fun e=>n4 (by rw[ha,e])
  ·omega
 have fvm:vm.ownBlock≠some g:=own_far o4 o1 (by decide) hat
 have fvo:vo.ownBlock≠some g:=own_far2 (v:=va) o2 (fun g h e=>d g e h) hat
 have fvd:vd.ownBlock≠some g:=own_far o4 o3 (by decide) hat
 have hkp:=grown_set_keep hg pb 13 (.slice (some ⟨g,0,none⟩) (p.adds.length+1) cap)
 have tr:∀b,PlN lo pb rb vm vo vd va b∧b<W0.heap.size→b<W.heap.size→(W1.setCell ⟨pb,13,none⟩ (.slice (some ⟨g,0,none⟩) (p.adds.length+1) cap)).heap[b]?=W.heap[b]?∧PlN lo pb rb vm vo vd (.slice (some ⟨g,0,none⟩) (p.adds.length+1) cap) b:=fun b ⟨hb,hb0⟩ hlt=>⟨hkp b hlt hb.2.1 hb.2.2.2.2.2.2,hb.1,hb.2.1,hb.2.2.1,hb.2.2.2.1,hb.2.2.2.2.1,hb.2.2.2.2.2.1,(fun e=>by simp only[Value.ownBlock,Option.some.injEq] at e;rcases hat with ha|ha<;>first|(exact hb.2.2.2.2.2.2 (by rw[ha,e]))|omega)⟩
 have hsz1:W.heap.size≤(W1.setCell ⟨pb,13,none⟩ (.slice (some ⟨g,0,none⟩) (p.adds.length+1) cap)).heap.size:=by have:=hg.size;simpa [World.setCell] using this
 have hd2:RdRow (W1.setCell ⟨pb,13,none⟩ (.slice (some ⟨g,0,none⟩) (p.adds.length+1) cap)) (PlN lo pb rb vm vo vd (.slice (some ⟨g,0,none⟩) (p.adds.length+1) cap)) ElSh [.int .i64 e.id,dv] [ElC e]:=by
  have hlo0:lo≤W0.heap.size:=by have:=h2;omega
  refine ⟨[.int .i64 e.id,dv],[],rfl,⟨rfl,[.int .i64 e.id],[dv],rfl,rfl,rfl,[dv],[],rfl,?_,rfl⟩,rfl⟩
  refine hd.mono hsz1 fun b hb hlt=>⟨hkp b hlt (by omega) (fun e=>by have:=(own_lt o4' e).2;omega),by omega,by omega,by omega,(fun e=>by have:=(own_lt o1' e).2;omega),(fun e=>by have:=(own_lt o2' e).2;omega),(fun e=>by have:=(own_lt o3' e).2;omega),(fun e=>by simp only[Value.ownBlock,Option.some.injEq] at e;rcases hat with ha|ha<;>first|(have:=(own_lt o4' ha).2;omega)|omega)⟩
 exact ⟨vm,vo,vd,(.slice (some ⟨g,0,none⟩) (p.adds.length+1) cap),xo,xa++ [.int .i64 e.id,dv],grown_set_cells hg 13 (.slice (some ⟨g,0,none⟩) (p.adds.length+1) cap) h1 t4,h2,h3,h4,own_kept o1 fun k hz=>hkp k (own_lt o1 hz).2 (fun e=>t1 (by rw[hz,e])) (own_far o1 o4 (by decide) (.inl hz)),own_kept o2 fun k hz=>hkp k (own_lt o2 hz).2 (fun e=>t2 (by rw[hz,e])) (fun e=>d _ hz e),own_kept o3 fun k hz=>hkp k (own_lt o3 hz).2 (fun e=>t3 (by rw[hz,e])) (own_far o3 o4 (by decide) (.inl hz)),(by have q:=(own_kept hown fun k hz=>by simp only[Value.ownBlock,Option.some.injEq] at hz;subst hz;exact Below.heap_setCell _ _ _ _ (by simpa using hgp):(W1.setCell ⟨pb,13,none⟩ (.slice (some ⟨g,0,none⟩) (p.adds.length+1) cap)).ownsRow lo 103 2 (.slice (some ⟨g,0,none⟩) (p.adds.length+1) cap) _ _);simpa [mpCells] using q),r1.mono hsz1 tr,(by rw[List.map_append];exact RdRow.append (r2.mono hsz1 tr) hd2),(fun k hz e=>by simp only[Value.ownBlock,Option.some.injEq] at e;subst e;exact fvo hz),n1,n2,n3,(by simp only[Value.ownBlock,ne_eq,Option.some.injEq];exact hgr)⟩
end Go.Vc
