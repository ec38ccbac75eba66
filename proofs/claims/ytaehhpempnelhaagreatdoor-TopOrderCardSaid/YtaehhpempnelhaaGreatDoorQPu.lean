/-
  The contracts of plan.Apply and plan.Fits, each out of its condition.
-/
import Derived.Test.YtaehhpempnelhaaGreatDoorQPt
import Derived.Test.YtaehhpempnelhaaGreatDoorQBase4

set_option maxRecDepth 100000
namespace Go.Vc
open Go Go.Proofs Go.Plain
def apE (p:Pl) (k:Pk):Int:=if ¬k.right then 1 else if (behind p k).isSome then 0 else 9
def apO (p:Pl) (k:Pk):Pk:=if apE p k=0 then (behind p k).getD Pk.zero else Pk.zero
theorem ap_bad {p:Pl} {k:Pk} {e:Int} (h:apE p k=e) (he:e≠0):PkC (apO p k)= .ls [.ls [.bool false,.bool false,.bool false,.int 0,.int 0,.int 0,.int 0,.ls []],.int 0,.ls [],.ls [],.int 0]:=by
 unfold apO
 rw[h,if_neg he]
 rfl
theorem ap_good {p:Pl} {k x:Pk} (hr:k.right) (h:behind p k=some x):apE p k=0∧apO p k=x:=by
 have:apE p k=0:=by unfold apE;rw[if_neg (fun hh=>hh hr),h];rfl
 refine ⟨this,?_⟩
 unfold apO
 rw[if_pos this,h]
 rfl
theorem ap_none {p:Pl} {k:Pk} (hr:k.right) (h:behind p k=none):apE p k=9:=by unfold apE;rw[if_neg (fun hh=>hh hr),h];rfl
theorem elBytes_len {l:List El} (h:elRight l):(elBytes l).length≤100000:=by
 have h1:=right_count h
 have h2:=elRaw_len (elNarrow l) l (fun e he=>(right_mem h e he).2.2)
 unfold elBytes fill4
 simp only[List.length_append,List.length_replicate]
 omega
theorem was_right {k:Pk} {w:List El} (h:wasOf k=some w):elRight w:=by
 unfold wasOf at h
 split at h
 ·split at h
  ·cases h
   exact (spots_good k.prof k.ext).2.2
  ·cases h
 ·cases h
  exact fun j hj=>absurd hj (by simp)
theorem plElems_some {p:Pl} {k:Pk} {l:List El} (h:plElems p k=some l):∃w,wasOf k=some w∧plMeets p w∧l=plOuts p w:=by
 cases hw:wasOf k with
 |none=>unfold plElems at h;rw[hw] at h;cases h
 |some w=>
  rw[plElems_of hw] at h
  split at h
  ·rename_i hc
   cases h
   exact ⟨w,rfl,hc.1,rfl⟩
  ·cases h
theorem fold_ip_len {p:Pl} {nar:Bool}:∀(l:List Sp) (x:List UInt8),(∀s∈l,Plain.ahead nar≤s.pos∧s.pos+s.size≤x.length∧((s.id:Int)∈elIds p.over→(newData p s.id []).length=s.size))→(l.foldl (ipStep p nar) x).length=x.length
 | [],_,_=>rfl
 |s::l,x,h=>by
  obtain ⟨h1,h2,h3⟩:=h s (by simp)
  have e:=ipStep_len (p:=p) (nar:=nar) h1 h2 h3
  rw[List.foldl_cons,fold_ip_len l _ (fun t ht=>by rw[e];exact h t (by simp[ht])),e]
theorem pc_plan_Apply (p:Pl) (k:Pk) (hf:plFew p) (hn:plNum p) (ho:k.ok) (hb:k.ext.length≤1000000) (hpy:k.pay.length≤1000000) (hd:k.pad≤1000000):PC Tryz.prog f_plan_Apply [(PlSh,PlC p),(PkSh,PkC k)] [(PkSh,PkC (apO p k)),(I64,.int (apE p k))]:=by
 apply pcv_plan_Apply rfl
 simp only[vc_plan_Apply,sVC,sEV,sENV,sVAL,sBO,forall_const,List.length_map]
 refine ⟨_,pc_packet_Right k hb hpy hd,fun h=>?_,fun h=>⟨_,pc_plan_Right p hf,fun h2=>?_,fun h2=>?_⟩⟩
 ·have h:¬k.right:=of_decide_eq_false h
  have e:apE p k=1:=by unfold apE;rw[if_pos h]
  rw[ap_bad e (by decide),e]
 ·have h:k.right:=of_decide_eq_true h
  have h2:¬plRight p:=of_decide_eq_false h2
  have e:apE p k=9:=ap_none h (by unfold behind;rw[if_neg h2])
  rw[ap_bad e (by decide),e]
 ·have hr:k.right:=of_decide_eq_true h
  have hp:plRight p:=of_decide_eq_true h2
  have hbe:behind p k=match (if plAny p then plElems p k else some []) with|none=>none|some l=>if (plOut p k l).right then some (plOut p k l) else none:=by unfold behind;rw[if_pos hp];rfl
  refine ⟨_,pc_plan_fields p k hn hr,_,pc_plan_Elements p,fun ha=>⟨_,_,pc_plan_elements p k hp hf hr ho,fun hno=>?_,fun hyes=>⟨_,pc_plan_anew p,fun han=>?_,fun han=>?_⟩⟩,fun ha=>?_⟩
  ·have ha:plAny p:=of_decide_eq_true ha
   have hno:plElems p k=none:=by
    have hno:(plElems p k).isSome=false:=hno
    cases h:plElems p k with
    |none=>rfl
    |some l=>rw[h] at hno;cases hno
   have e:apE p k=9:=ap_none hr (by rw[hbe,if_pos ha,hno])
   rw[ap_bad e (by decide),e]
  ·have ha:plAny p:=of_decide_eq_true ha
   have han:plAnew p:=of_decide_eq_true han
   obtain ⟨l,hl⟩:∃l,plElems p k=some l:=Option.isSome_iff_exists.1 hyes
   obtain ⟨w,hw,hme,rfl⟩:=plElems_some hl
   have hlr:=outs_right hp (was_right hw) hme.2.2
   rw[if_pos ha,hl] at hbe
   simp only at hbe
   rw[hl,Option.getD_some]
   generalize plOuts p w=l at hlr hl hbe
   have hlen:=right_count hlr
   have hel:(Els l).toList.length=l.length:=by simp[Els]
   rw[hel]
   have hX:plOut p k l= {plFields p k with hd:= {hdNew p k.hd with ext:=decide (l≠[])},prof:=if l=[] then 0 else elProfile l,ext:=if l=[] then [] else elBytes l}:=by
    unfold plOut
    rw[if_pos ha,if_pos han]
   refine ⟨fun hc=>?_,fun hc=>?_⟩
   ·have hne:l≠[]:=fun e=>by rw[e] at hc;exact absurd hc (by decide)
    rw[decide_eq_true hne,if_neg hne,if_neg hne] at hX
    rw[decide_eq_true hc]
    have hbl:=elBytes_len hlr
    obtain ⟨q1,q2⟩:elwB l=elBytes l∧elwE l=0:=⟨if_pos hlr,if_pos hlr⟩
    have hwr:=pc_elem_Write l (by omega)
    rw[q1,q2] at hwr
    have hrt:=pc_packet_Right (plOut p k l) (by rw[hX];show (elBytes l).length≤1000000;omega) (by rw[hX];exact hpy) (by rw[hX];show (if p.np then 0 else k.pad)≤1000000;split<;>omega)
    refine ⟨_,_,_,hwr,_,by rw[hX] at hrt;exact hrt,fun h=>?_,fun h=>?_⟩
    ·have h:¬(plOut p k l).right:=by rw[hX];exact of_decide_eq_false h
     have e:apE p k=9:=ap_none hr (by rw[hbe,if_neg h])
     rw[ap_bad e (by decide),e]
    ·have h:(plOut p k l).right:=by rw[hX];exact of_decide_eq_true h
     obtain ⟨g1,g2⟩:=ap_good hr (by rw[hbe,if_pos h])
     rw[g1,g2,hX]
     rfl
   ·have he:l=[]:=List.eq_nil_of_length_eq_zero (by omega)
    subst he
    have hrt:=pc_packet_Right (plOut p k []) (by rw[hX];show ([]:List UInt8).length≤1000000;simp) (by rw[hX];exact hpy) (by rw[hX];show (if p.np then 0 else k.pad)≤1000000;split<;>omega)
    refine ⟨_,by rw[hX] at hrt;exact hrt,fun h=>?_,fun h=>?_⟩
    ·have h:¬(plOut p k []).right:=by rw[hX];exact of_decide_eq_false h
     have e:apE p k=9:=ap_none hr (by rw[hbe,if_neg h])
     rw[ap_bad e (by decide),e]
    ·have h:(plOut p k []).right:=by rw[hX];exact of_decide_eq_true h
     obtain ⟨g1,g2⟩:=ap_good hr (by rw[hbe,if_pos h])
     rw[g1,g2,hX]
     rfl
  ·have ha:plAny p:=of_decide_eq_true ha
   have han:¬plAnew p:=of_decide_eq_false han
   obtain ⟨l,hl⟩:∃l,plElems p k=some l:=Option.isSome_iff_exists.1 hyes
   obtain ⟨w,hw,hme,hlw⟩:=plElems_some hl
   rw[if_pos ha,hl] at hbe
   simp only at hbe
   have hX:plOut p k l= {plFields p k with ext:=plExt p k}:=by
    unfold plOut
    rw[if_pos ha,if_neg han]
   have hdr:p.drops=[]:=Decidable.not_not.1 fun h=>han (.inl h)
   have hx:k.hd.ext=true:=by
    cases hx:k.hd.ext with
    |true=>rfl
    |false=>
     exfalso
     have:wasOf k=some []:=by unfold wasOf;rw[if_neg (by rw[hx];decide)]
     rw[this] at hw
     cases hw
     obtain ⟨⟨m1,m2,m3⟩,_,_⟩:=hme
     rcases ha with h|h|h
     ·obtain ⟨m,hm⟩:=List.exists_mem_of_ne_nil _ h
      exact absurd (m1 m.fr (List.mem_map.2 ⟨m,hm,rfl⟩)) (by simp[elIds])
     ·obtain ⟨m,hm⟩:=List.exists_mem_of_ne_nil _ h
      exact absurd (m2 m.id (List.mem_map.2 ⟨m,hm,rfl⟩)) (by simp[elIds])
     ·exact han h
   have hsp:(spots k.prof k.ext).2=0:=by
    unfold wasOf at hw
    rw[if_pos hx] at hw
    split at hw
    ·assumption
    ·cases hw
   have hwe:w=elRead k.prof k.ext:=by
    unfold wasOf at hw
    rw[if_pos hx,if_pos hsp] at hw
    cases hw
    rfl
   have hls:∀s∈(spots k.prof k.ext).1,(s.id:Int)∈elIds p.over→(newData p s.id []).length=s.size:=by
    intro s hs ho2
    have hm:elOf k.ext s∈w:=by rw[hwe];exact List.mem_map.2 ⟨s,hs,rfl⟩
    have:=hme.2.1 _ hm (by rw[hdr];simp)
    have hz:=(spots_good k.prof k.ext).1 s hs
    have hid:(elOf k.ext s).id=(s.id:Int):=rfl
    have hdl:(elOf k.ext s).data.length=s.size:=by unfold elOf;simp;omega
    rw[hid,hdl] at this
    rw[data_some [] (elOf k.ext s).data ho2]
    exact this
   have hip:=pc_plan_inPlace p k hp hf ho hb hsp hls
   have hpl:(plExt p k).length≤1000000:=by
    unfold plExt narB
    rw[fold_ip_len _ _ fun s hs=>⟨spots_ge hsp s hs,(spots_good k.prof k.ext).1 s hs,hls s hs⟩]
    exact hb
   have hrt:=pc_packet_Right (plOut p k l) (by rw[hX];exact hpl) (by rw[hX];exact hpy) (by rw[hX];show (if p.np then 0 else k.pad)≤1000000;split<;>omega)
   refine ⟨_,hip,_,by rw[hX] at hrt;exact hrt,fun h=>?_,fun h=>?_⟩
   ·have h:¬(plOut p k l).right:=by rw[hX];exact of_decide_eq_false h
    have e:apE p k=9:=ap_none hr (by rw[hbe,if_neg h])
    rw[ap_bad e (by decide),e]
   ·have h:(plOut p k l).right:=by rw[hX];exact of_decide_eq_true h
    obtain ⟨g1,g2⟩:=ap_good hr (by rw[hbe,if_pos h])
    rw[g1,g2,hX]
    rfl
  ·have ha:¬plAny p:=of_decide_eq_false ha
   rw[if_neg ha] at hbe
   simp only at hbe
   have hX:plOut p k []=plFields p k:=by unfold plOut;rw[if_neg ha]
   rw[hX] at hbe
   have hrt:=pc_packet_Right (plFields p k) hb hpy (by show (if p.np then 0 else k.pad)≤1000000;split<;>omega)
   refine ⟨_,hrt,fun h=>?_,fun h=>?_⟩
   ·have h:¬(plFields p k).right:=of_decide_eq_false h
    have e:apE p k=9:=ap_none hr (by rw[hbe,if_neg h])
    rw[ap_bad e (by decide),e]
   ·have h:(plFields p k).right:=of_decide_eq_true h
    obtain ⟨g1,g2⟩:=ap_good hr (by rw[hbe,if_pos h])
    rw[g1,g2]
    rfl
theorem pc_plan_Fits (p:Pl) (k:Pk) (hf:plFew p) (hn:plNum p) (ho:k.ok) (hb:k.ext.length≤1000000) (hpy:k.pay.length≤1000000) (hd:k.pad≤1000000):PC Tryz.prog f_plan_Fits [(PlSh,PlC p),(PkSh,PkC k)] [(.bool,.bool (decide (apE p k=0)))]:=by
 apply pcv_plan_Fits rfl
 simp only[vc_plan_Fits,sVC,sEV,sENV,sVAL,sBO,forall_const,List.length_map]
 exact ⟨_,_,pc_plan_Apply p k hf hn ho hb hpy hd,rfl⟩
end Go.Vc
