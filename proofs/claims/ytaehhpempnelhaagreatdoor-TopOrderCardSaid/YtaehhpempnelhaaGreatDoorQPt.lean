/-
  The contracts of plan: what a plan makes of a packet, each out of its condition.
-/
import Derived.Test.YtaehhpempnelhaaGreatDoorQVcs1
import Derived.Test.YtaehhpempnelhaaGreatDoorQTx2
import Derived.Test.YtaehhpempnelhaaGreatDoorQTx4
import Derived.Test.YtaehhpempnelhaaGreatDoorQBase3

set_option maxRecDepth 100000
namespace Go.Vc
open Go Go.Proofs Go.Plain
theorem pc_bytes_Clone (b:List UInt8) (hb:b.length≤1000000):PC Tryz.prog f_bytes_Clone [(Byt,B b)] [(Byt,B b)]:=by
 apply pcv_bytes_Clone rfl
 simp only[vc_bytes_Clone,sVC,sEV,sENV,sVAL,sBO,forall_const,ofBytes_length]
 refine ⟨fun h=>?_,by omega⟩
 rw[show B b=C.ls [] from congrArg C.ls h]
theorem pn_bytes_Clone (b:List UInt8) (hb:b.length≤1000000):PC Tryz.prog n_bytes_Clone [(Byt,B b)] [(Byt,B b)]:=by
 apply pcn_bytes_Clone rfl
 simp only[vn_bytes_Clone,sVC,sEV,sENV,sVAL,sBO,forall_const,ofBytes_length]
 refine ⟨fun h=>?_,by omega⟩
 rw[show B b=C.ls [] from congrArg C.ls h]
theorem pc_slices_Clone (l:List Nat) (hl:l.length≤1000000):PC Tryz.prog f_slices_Clone___uint32_uint32_ [(.sl U32,Ns l)] [(.sl U32,Ns l)]:=by
 apply pcv_slices_Clone___uint32_uint32_ rfl
 simp only[vc_slices_Clone___uint32_uint32_,sVC,sEV,sENV,sVAL,sBO,forall_const]
 have hn:(ofNats l).length=l.length:=by simp[ofNats]
 refine ⟨fun h=>?_,by omega⟩
 rw[show Ns l=C.ls [] from congrArg C.ls h]
theorem pc_plan_Keeps (p:Pl):PC Tryz.prog f_plan_Keeps [(PlSh,PlC p)] [(.bool,.bool (decide (plKeeps p)))]:=by
 apply pcv_plan_Keeps rfl
 simp only[vc_plan_Keeps,sVC,sEV,sENV,sVAL,sBO,forall_const]
 refine ⟨_,pc_plan_anew p,?_⟩
 congr 3
 have e:(plKeeps p↔¬(p.drops≠[]∨p.adds≠[])∧p.np=false):=Iff.rfl
 rw[Bool.eq_iff_iff,decide_eq_true_eq,e]
 by_cases h:p.drops≠[]∨p.adds≠[]
 ·simp[h]
 ·simp[h]
theorem pc_plan_fields (p:Pl) (k:Pk) (hn:plNum p) (hr:k.right):PC Tryz.prog f_plan_fields [(PlSh,PlC p),(PkSh,PkC k)] [(PkSh,PkC (plFields p k))]:=by
 obtain ⟨⟨⟨_,_,r3⟩,f2,f3,f4,f5⟩,f6⟩:=hr
 unfold Pk.sum at f6
 apply pcv_plan_fields rfl
 simp only[vc_plan_fields,sVC,sEV,sENV,sVAL,sBO,forall_const]
 refine ⟨_,pc_slices_Clone k.hd.csrc (by omega),_,pc_bytes_Clone k.ext (by omega),_,pc_bytes_Clone k.pay (by omega),?_⟩
 obtain ⟨n1,n2,n3,n4,n5,n6⟩:=hn
 have c:∀(s:Bool) (x:Int) (y:Nat),0≤x→(if s=true then x else (y:Int))=((if s=true then x.toNat else y:Nat):Int):=fun s x y h=>by cases s<;>simp<;>omega
 have d:(if p.np=true then (0:Int) else (k.pad:Int))=((if p.np=true then 0 else k.pad:Nat):Int):=by cases p.np<;>rfl
 rw[c _ _ _ n1,c _ _ _ n3,c _ _ _ n5,d]
 rfl
def mpMap (l:List Mp):List C:=l.foldl (fun m x=>mset m x.fr (.int x.to)) []
def ovMap (l:List El):List C:=l.foldl (fun m x=>mset m x.id (B x.data)) []
theorem fold_find {α:Type} (key:α→Int) (val:α→C) (x:Int):∀(l:List α),(l.map key).Nodup→∀m:List C,(∀a∈l,mfind m (key a)=none)→mfind (l.foldl (fun m a=>mset m (key a) (val a)) m) x=((l.find? (fun a=>key a==x)).map (fun a=>C.ls [.int x,val a])).or (mfind m x)
 | [],_,m,_=>by simp
 |a::l,hn,m,hm=>by
  simp only[List.map_cons,List.nodup_cons] at hn
  rw[List.foldl_cons,fold_find key val x l hn.2 _ (fun c hc=>by
   rw[mfind_mset,if_neg (fun e=>hn.1 (List.mem_map.2 ⟨c,hc,e.symm⟩)),hm c (List.mem_cons_of_mem _ hc)]),mfind_mset,List.find?_cons]
  by_cases h:key a=x
  ·have hnone:l.find? (fun a=>key a==x)=none:=by
    rw[List.find?_eq_none]
    intro c hc he
    exact hn.1 (List.mem_map.2 ⟨c,hc,by rw[h];simpa using he⟩)
   have hb:(key a==x)=true:=by simpa using h
   rw[hnone,hb,if_pos h,h]
   rfl
  ·have hb:(key a==x)=false:=by simpa using h
   rw[hb,if_neg h]
theorem mp_find (l:List Mp) (hn:(l.map (·.fr)).Nodup) (x:Int):mfind (mpMap l) x=(l.find? (fun a=>a.fr==x)).map (fun a=>C.ls [.int x,.int a.to]):=by
 have:=fold_find (·.fr) (fun a:Mp=>C.int a.to) x l hn [] (fun _ _=>rfl)
 unfold mpMap
 rw[this]
 show Option.or _ none=_
 rw[Option.or_none]
theorem ov_find (l:List El) (hn:(l.map (·.id)).Nodup) (x:Int):mfind (ovMap l) x=(l.find? (fun a=>a.id==x)).map (fun a=>C.ls [.int x,B a.data]):=by
 have:=fold_find (·.id) (fun a:El=>B a.data) x l hn [] (fun _ _=>rfl)
 unfold ovMap
 rw[this]
 show Option.or _ none=_
 rw[Option.or_none]
theorem pc_plan_maps (p:Pl) (h:plFew p):PC Tryz.prog f_plan_maps [(PlSh,PlC p)] [(.mp .i64 I64,.ls (mpMap p.maps))]:=by
 apply pcv_plan_maps rfl
 simp only[vc_plan_maps,sVC,sEV,sENV,sVAL,sBO,forall_const,List.length_map]
 have hl:=h.1
 refine VC.go_loop (fun i:Nat=> [.int (i:Int),.ls (mpMap (p.maps.take i))]) (fun i=>i≤p.maps.length) (fun i=>p.maps.length-i) 0 rfl (Nat.zero_le _) fun i hi=>?_
 simp only[sVC,sEV,sENV,sVAL,sBO,forall_const,List.length_map]
 refine ⟨fun hc=>⟨by omega,by omega,by omega,i+1,?_,by omega,by omega⟩,fun hc=>?_⟩
 ·have hk:i<p.maps.length:=by omega
  have hg:(p.maps.map MpC).getD (i:Int).toNat default=MpC p.maps[i]:=by simp[List.getD,hk]
  rw[hg,List.take_succ_eq_append_getElem hk]
  unfold mpMap
  rw[List.foldl_append]
  rfl
 ·have:i=p.maps.length:=by omega
  subst this
  rw[List.take_length]
theorem pc_plan_overs (p:Pl) (h:plFew p):PC Tryz.prog f_plan_overs [(PlSh,PlC p)] [(.mp .i64 Byt,.ls (ovMap p.over))]:=by
 apply pcv_plan_overs rfl
 simp only[vc_plan_overs,sVC,sEV,sENV,sVAL,sBO,forall_const,List.length_map]
 have hl:=h.2.1
 refine VC.go_loop (fun i:Nat=> [.int (i:Int),.ls (ovMap (p.over.take i))]) (fun i=>i≤p.over.length) (fun i=>p.over.length-i) 0 rfl (Nat.zero_le _) fun i hi=>?_
 simp only[sVC,sEV,sENV,sVAL,sBO,forall_const,List.length_map]
 refine ⟨fun hc=>⟨by omega,by omega,by omega,i+1,?_,by omega,by omega⟩,fun hc=>?_⟩
 ·have hk:i<p.over.length:=by omega
  have hg:(p.over.map ElC).getD (i:Int).toNat default=ElC p.over[i]:=by simp[List.getD,hk]
  rw[hg,List.take_succ_eq_append_getElem hk]
  unfold ovMap
  rw[List.foldl_append]
  rfl
 ·have:i=p.over.length:=by omega
  subst this
  rw[List.take_length]
theorem pc_plan_elid (e:El):PC Tryz.prog f_plan_elements_1 [(ElSh,ElC e)] [(I64,.int e.id)]:=by
 apply pcv_plan_elements_1 rfl
 simp only[vc_plan_elements_1,sVC,sEV,sENV,sVAL,sBO,forall_const]
theorem pc_distinct_el (l:List El) (hl:l.length≤1000000):PC Tryz.prog f_plan_distinct_api_Elem_id [(.sl ElSh,Els l),(.fun_ f_plan_elements_1,.ls [])] [(.bool,.bool (decide (idsRight (elIds l))))]:=by
 apply pcv_plan_distinct_api_Elem_id rfl
 simp only[vc_plan_distinct_api_Elem_id,sVC,sEV,sENV,sVAL,sBO,forall_const,List.length_map]
 have hil:(elIds l).length=l.length:=by simp[elIds]
 refine VC.go_loop (fun s:RtSt=> [.bool false,.int (s.k:Int),.ls s.m]) (fun s=>s.k≤l.length∧(∀j,j<s.k→idAt (elIds l) j)∧∀x:Int,mtrue s.m x=decide (x∈(elIds l).take s.k)) (fun s=>l.length-s.k) ⟨0,[]⟩ rfl
  ⟨Nat.zero_le _,fun j hj=>absurd hj (Nat.not_lt_zero j),fun x=>by simp[mtrue_nil]⟩ fun s hs=>?_
 obtain ⟨i1,i2,i3⟩:=hs
 simp only[sVC,sEV,sENV,sVAL,sBO,forall_const,List.length_map]
 refine ⟨fun hc=>?_,fun hc=>?_⟩
 ·have hk:s.k<l.length:=by omega
  have hk2:s.k<(elIds l).length:=by omega
  have hat:idAt (elIds l) s.k↔1≤((elIds l).getD s.k 0)∧((elIds l).getD s.k 0)≤255∧((elIds l).getD s.k 0)∉(elIds l).take s.k:=Iff.rfl
  have htk:(elIds l).take (s.k+1)=(elIds l).take s.k++ [((elIds l).getD s.k 0)]:=by rw[List.take_succ_eq_append_getElem hk2];simp[List.getD,hk2]
  have hid:(l.getD s.k El.zero).id=(elIds l).getD s.k 0:=by simp[elIds,List.getD,hk]
  rw[el_getD l s.k hk]
  refine ⟨by omega,by omega,_,pc_plan_elid _,?_⟩
  rw[hid]
  simp only[v_int]
  generalize ((elIds l).getD s.k 0)=e at hat htk
  have hm:=i3 e
  refine ⟨fun h=>?_,fun h=>?_⟩
  ·have h:(e<1∨255<e)∨mtrue s.m e=true:=by
    rcases h with h|h
    ·exact .inl h
    ·rw[if_pos trivial] at h;exact .inr h
   rw[hm,decide_eq_true_eq] at h
   have hn:¬idsRight (elIds l):=fun hr=>by
    have h1:=hat.1 (hr s.k hk2)
    rcases h with h|h
    ·omega
    ·exact h1.2.2 h
   rw[decide_eq_false hn]
  ·have h:¬(e<1∨255<e)∧mtrue s.m e=false:=⟨h.1,by have h2:=h.2;rw[if_pos trivial] at h2;exact h2⟩
   rw[hm,decide_eq_false_iff_not] at h
   refine ⟨by omega,⟨s.k+1,_⟩,by simp;rfl,⟨by simp only;omega,fun j hj=>?_,fun x=>?_⟩,by simp only;omega⟩
   ·by_cases hjk:j=s.k
    ·rw[hjk];exact hat.2 ⟨by omega,by omega,h.2⟩
    ·simp only at hj;exact i2 j (by omega)
   ·simp only
    rw[mtrue_mset,i3,htk]
    by_cases hx:e=x
    ·rw[if_pos hx];simp[hx]
    ·have:¬x=e:=fun h=>hx h.symm
     rw[if_neg hx]
     simp[this]
 ·have he:s.k=l.length:=by omega
  rw[decide_eq_true (show idsRight (elIds l) from fun j hj=>i2 j (by omega))]
def outL (p:Pl) (l:List El):List El:=(l.filter fun e=>decide (e.id∉p.drops)).map (newEl p)
theorem outL_snoc (p:Pl) (l:List El) (e:El):outL p (l++ [e])=outL p l++(if e.id∈p.drops then [] else [newEl p e]):=by
 unfold outL
 rw[List.filter_append,List.map_append]
 by_cases h:e.id∈p.drops<;>simp[h]
theorem cnt_snoc (p:Pl) (l:List El) (e:El):cnt p (l++ [e])=cnt p l+cntE p e:=by simp[cnt]
theorem lens_snoc (p:Pl) (l:List El) (e:El):plLens p (l++ [e])↔plLens p l∧(e.id∉p.drops→(newData p e.id e.data).length=e.data.length):=by
 unfold plLens
 simp only[List.mem_append,List.mem_singleton]
 constructor
 ·intro h
  exact ⟨fun x hx=>h x (.inl hx),h e (.inr rfl)⟩
 ·rintro ⟨h1,h2⟩ x (hx|hx)
  ·exact h1 x hx
  ·subst hx;exact h2
theorem ov_some {p:Pl} (hn:(p.over.map (·.id)).Nodup) {x:Int} (d:List UInt8) (hx:x∈elIds p.over):mfind (ovMap p.over) x=some (.ls [.int x,B (newData p x d)]):=by
 rw[ov_find _ hn]
 unfold newData
 cases hf:p.over.find? (fun a=>a.id==x) with
 |none=>
  rw[List.find?_eq_none] at hf
  obtain ⟨e,he,hx⟩:=List.mem_map.1 hx
  exact absurd (by simpa using hx) (hf e he)
 |some e=>rfl
theorem ov_none {p:Pl} (hn:(p.over.map (·.id)).Nodup) {x:Int} (hx:x∉elIds p.over):mfind (ovMap p.over) x=none:=by
 rw[ov_find _ hn,Option.map_eq_none_iff,List.find?_eq_none]
 intro e he h
 exact hx (List.mem_map.2 ⟨e,he,by simpa using h⟩)
theorem mp_some {p:Pl} (hn:(p.maps.map (·.fr)).Nodup) {x:Int} (hx:x∈p.maps.map (·.fr)):mfind (mpMap p.maps) x=some (.ls [.int x,.int (newId p x)]):=by
 rw[mp_find _ hn]
 unfold newId
 cases hf:p.maps.find? (fun a=>a.fr==x) with
 |none=>
  rw[List.find?_eq_none] at hf
  obtain ⟨e,he,hx⟩:=List.mem_map.1 hx
  exact absurd (by simpa using hx) (hf e he)
 |some e=>rfl
theorem mp_none {p:Pl} (hn:(p.maps.map (·.fr)).Nodup) {x:Int} (hx:x∉p.maps.map (·.fr)):mfind (mpMap p.maps) x=none:=by
 rw[mp_find _ hn,Option.map_eq_none_iff,List.find?_eq_none]
 intro e he h
 exact hx (List.mem_map.2 ⟨e,he,by simpa using h⟩)
theorem dr_find (l:List Int) (hn:l.Nodup) (x:Int):mfind (dropMap l) x=if x∈l then some (.ls [.int x,.bool true]) else none:=by
 have:=fold_find id (fun _=>C.bool true) x l (by simpa using hn) [] (fun _ _=>rfl)
 unfold dropMap
 simp only[id] at this
 rw[this]
 show Option.or _ none=_
 rw[Option.or_none]
 by_cases h:x∈l
 ·rw[if_pos h]
  have:(l.find? (fun a=>a==x)).isSome:=by rw[List.find?_isSome];exact ⟨x,h,by simp⟩
  obtain ⟨y,hy⟩:=Option.isSome_iff_exists.1 this
  rw[hy]
  rfl
 ·rw[if_neg h,List.find?_eq_none.2]
  ·rfl
  ·intro y hy he
   exact h (by rw[show x=y by simpa using (by simpa using he:y=x).symm];exact hy)
theorem right_count {l:List El} (h:elRight l):l.length≤256:=by
 have h1:=(elRight_fits h).2
 have h2:=right_mem h
 have:=nodup_lt 256 _ h1 (by
  intro x hx
  obtain ⟨e,he,rfl⟩:=List.mem_map.1 hx
  have:=h2 e he
  omega)
 simpa using this
theorem cnt_le (p:Pl):∀l:List El,cnt p l≤2*l.length
 | []=>Nat.le_refl _
 |e::l=>by
  have ih:=cnt_le p l
  have e1:cnt p (e::l)=cntE p e+cnt p l:=by simp[cnt]
  have e2:cntE p e≤2:=by unfold cntE;split<;>(try split)<;>(try split)<;>omega
  rw[e1,List.length_cons]
  omega
theorem outL_le (p:Pl) (l:List El):(outL p l).length≤l.length:=by unfold outL;rw[List.length_map];exact List.length_filter_le _ _
theorem plElems_of {p:Pl} {k:Pk} {l:List El} (hw:wasOf k=some l):plElems p k=if plMeets p l∧(plAnew p∨k.prof≠48862∨∀m∈p.maps,m.to≤14) then some (plOuts p l) else none:=by unfold plElems;rw[hw]
theorem plElems_no {p:Pl} {k:Pk} {l:List El} (hw:wasOf k=some l) (h:¬(plMeets p l∧(plAnew p∨k.prof≠48862∨∀m∈p.maps,m.to≤14))):plElems p k=none:=by rw[plElems_of hw,if_neg h]
theorem plElems_yes {p:Pl} {k:Pk} {l:List El} (hw:wasOf k=some l) (h:plMeets p l∧(plAnew p∨k.prof≠48862∨∀m∈p.maps,m.to≤14)):plElems p k=some (plOuts p l):=by rw[plElems_of hw,if_pos h]
theorem pc_plan_elements (p:Pl) (k:Pk) (hp:plRight p) (hf:plFew p) (hr:k.right) (ho:k.ok):PC Tryz.prog f_plan_elements [(PlSh,PlC p),(PkSh,PkC k)] [(.sl ElSh,Els ((plElems p k).getD [])),(.bool,.bool (plElems p k).isSome)]:=by
 have hpr:=hp.2.1
 have n1:=((idsRight_iff _).1 hp.2.1).2
 have n2:=((idsRight_iff _).1 hp.2.2.2.1).2
 have n3:(p.over.map (·.id)).Nodup:=((idsRight_iff _).1 (elRight_ids hp.2.2.2.2.1)).2
 have hel:k.ext.length≤1000000:=by
  obtain ⟨⟨⟨_,_,r3⟩,f2,f3,f4,f5⟩,f6⟩:=hr
  omega
 obtain ⟨w1,w2,w3,w4⟩:=hf
 apply pcv_plan_elements rfl
 simp only[vc_plan_elements,sVC,sEV,sENV,sVAL,sBO,forall_const,List.length_map]
 refine ⟨fun hx=>⟨_,_,pc_elem_Read k.prof ho.2 k.ext hel,fun he=>?_,fun he=>⟨_,pc_plan_drops p ⟨w1,w2,w3,w4⟩,_,pc_plan_maps p ⟨w1,w2,w3,w4⟩,_,pc_plan_overs p ⟨w1,w2,w3,w4⟩,?_⟩⟩,fun hx=>⟨_,pc_plan_drops p ⟨w1,w2,w3,w4⟩,_,pc_plan_maps p ⟨w1,w2,w3,w4⟩,_,pc_plan_overs p ⟨w1,w2,w3,w4⟩,?_⟩⟩
 ·have he:(spots k.prof k.ext).2≠0:=he
  have:plElems p k=none:=by unfold plElems wasOf;rw[if_pos hx,if_neg he]
  rw[this]
  rfl
 ·have he:(spots k.prof k.ext).2=0:=he
  have hw:wasOf k=some (elRead k.prof k.ext):=by unfold wasOf;rw[if_pos hx,if_pos he]
  have hcn:=elRead_count k.prof k.ext
  have hgood:=(spots_good k.prof k.ext).2.2
  generalize elRead k.prof k.ext=l at hw hcn hgood
  refine VC.go_loop (fun i:Nat=> [.ls [],.bool false,Els (outL p (l.take i)),.int (cnt p (l.take i):Nat),.int (i:Int)]) (fun i=>i≤l.length∧plLens p (l.take i)) (fun i=>l.length-i) 0 rfl ⟨Nat.zero_le _,fun e he=>absurd he (by simp)⟩ fun i hi=>?_
  obtain ⟨i1,i2⟩:=hi
  simp only[sVC,sEV,sENV,sVAL,sBO,forall_const,List.length_map]
  refine ⟨fun hc=>?_,fun hc=>?_⟩
  ·have hk:i<l.length:=by omega
   have ht:=el_take l i hk
   have hmem:=el_mem hk
   rw[el_getD l i hk]
   generalize l.getD i El.zero=e at ht hmem
   have hcl:=cnt_le p (l.take i)
   have hol:=outL_le p (l.take i)
   rw[List.length_take] at hcl hol
   have hs:=outL_snoc p (l.take i) e
   have hct:=cnt_snoc p (l.take i) e
   have hls:=lens_snoc p (l.take i) e
   have hdr:=dr_find p.drops n2 e.id
   rw[←ht] at hs hct hls
   unfold cntE at hct
   simp only[v_hd,v_tl,v_int,v_ls,if_true,ofBytes_length]
   by_cases hd:e.id∈p.drops
   ·rw[if_pos hd] at hs hct hdr
    simp only[hdr,v_hd,v_tl,v_bool]
    refine ⟨by omega,by omega,fun _=>⟨by omega,by omega,i+1,?_,⟨by omega,hls.2 ⟨i2,fun h=>absurd hd h⟩⟩,by omega⟩,fun h=>absurd h (by decide)⟩
    rw[hs,hct]
    simp
   ·rw[if_neg hd] at hs hct hdr
    simp only[hdr,v_hd,v_tl,v_bool]
    refine ⟨by omega,by omega,fun h=>absurd h (by decide),fun _=>?_⟩
    have hnew:newEl p e=⟨newId p e.id,newData p e.id e.data⟩:=rfl
    by_cases ho:e.id∈elIds p.over
    ·rw[if_pos ho] at hct
     simp only[ov_some n3 e.data ho,v_hd,v_tl,v_ls,ofBytes_length,Option.isSome_some,v_bool,true_implies,reduceCtorEq,false_implies,and_true]
     refine ⟨fun hne=>?_,fun heq=>?_⟩
     ·have hno:¬(plMeets p l∧(plAnew p∨k.prof≠48862∨∀m∈p.maps,m.to≤14)):=fun hh=>by
       have:=hh.1.2.1 e hmem hd
       omega
      rw[plElems_no hw hno]
      rfl
     ·have hl2:plLens p (l.take (i+1)):=hls.2 ⟨i2,fun _=>by omega⟩
      by_cases hm:e.id∈p.maps.map (·.fr)
      ·rw[if_pos hm] at hct
       simp only[mp_some n1 hm,v_hd,v_tl,Option.isSome_some,v_bool,true_implies,if_true,List.length_cons,List.length_nil]
       refine ⟨by omega,by omega,by omega,by omega,i+1,?_,⟨by omega,hl2⟩,by omega⟩
       rw[hs,hct,hnew]
       simp[Int.add_assoc]
      ·rw[if_neg hm] at hct
       have hid:=find_none hm
       simp only[mp_none n1 hm,Option.isSome_none,v_bool,reduceCtorEq,false_implies,true_and,if_false,List.length_cons,List.length_nil]
       refine ⟨by omega,by omega,by omega,i+1,?_,⟨by omega,hl2⟩,by omega⟩
       rw[hs,hct,hnew,hid]
       simp[Int.add_assoc]
    ·rw[if_neg ho] at hct
     have hdt:=data_none e.data ho
     have hl2:plLens p (l.take (i+1)):=hls.2 ⟨i2,fun _=>by rw[hdt]⟩
     simp only[ov_none n3 ho,Option.isSome_none,v_bool,reduceCtorEq,false_implies,true_and,true_implies]
     by_cases hm:e.id∈p.maps.map (·.fr)
     ·rw[if_pos hm] at hct
      simp only[mp_some n1 hm,v_hd,v_tl,Option.isSome_some,v_bool,true_implies,if_true,List.length_cons,List.length_nil]
      refine ⟨by omega,by omega,by omega,i+1,?_,⟨by omega,hl2⟩,by omega⟩
      rw[hs,hct,hnew,hdt]
      simp[Int.add_assoc]
     ·rw[if_neg hm] at hct
      have hid:=find_none hm
      simp only[mp_none n1 hm,Option.isSome_none,v_bool,reduceCtorEq,false_implies,true_and,if_false,List.length_cons,List.length_nil]
      refine ⟨by omega,by omega,i+1,?_,⟨by omega,hl2⟩,by omega⟩
      rw[hs,hct,hnew,hid,hdt]
      simp[Int.add_assoc]
  ·have hi3:i=l.length:=by omega
   subst hi3
   rw[List.take_length] at i2 ⊢
   have htot:=cnt_total hp hgood
   have hac:=right_count hp.2.2.2.2.2.1
   have hids:elIds (plOuts p l)=elIds (outL p l++p.adds):=rfl
   have hlo:=outL_le p l
   have hmm:(outL p l).map ElC++p.adds.map ElC=(outL p l++p.adds).map ElC:=by rw[List.map_append]
   have hdi:=pc_distinct_el (outL p l++p.adds) (by rw[List.length_append];omega)
   refine ⟨by omega,by omega,fun hne=>?_,fun heq=>⟨by omega,_,(by rw[hmm];exact hdi),fun hb=>?_,fun hb=>?_⟩⟩
   ·have hno:¬(plMeets p l∧(plAnew p∨k.prof≠48862∨∀m∈p.maps,m.to≤14)):=fun hh=>by
     have:=htot.2 hh.1.1
     omega
    rw[plElems_no hw hno]
    rfl
   ·have hb:¬idsRight (elIds (outL p l++p.adds)):=of_decide_eq_false hb
    have hno:¬(plMeets p l∧(plAnew p∨k.prof≠48862∨∀m∈p.maps,m.to≤14)):=fun hh=>hb hh.1.2.2
    rw[plElems_no hw hno]
    rfl
   ·have hb:idsRight (elIds (outL p l++p.adds)):=of_decide_eq_true hb
    have hme:plMeets p l:=⟨htot.1 (by omega),i2,hb⟩
    refine VC.go_loop (fun j:Nat=> [.ls [],.bool false,.int (j:Int)]) (fun j=>j≤p.maps.length∧(plAnew p∨k.prof≠48862∨∀m∈p.maps.take j,m.to≤14)) (fun j=>p.maps.length-j) 0 rfl ⟨Nat.zero_le _,.inr (.inr (by simp))⟩ fun j hj=>?_
    obtain ⟨j1,j2⟩:=hj
    simp only[sVC,sEV,sENV,sVAL,sBO,forall_const,List.length_map]
    refine ⟨fun hc=>?_,fun hc=>?_⟩
    ·have hk:j<p.maps.length:=by omega
     have ht:=List.take_succ_eq_append_getElem hk
     have hg:(p.maps.map MpC).getD (j:Int).toNat default=MpC p.maps[j]:=by simp[List.getD,hk]
     have hm:=List.getElem_mem hk
     rw[hg]
     generalize p.maps[j]=m at ht hm
     refine ⟨by omega,by omega,_,pc_plan_anew p,?_⟩
     simp only[sEV,sENV,sVAL,sBO,forall_const]
     have han:(p.drops≠[]∨p.adds≠[])↔plAnew p:=Iff.rfl
     rw[han]
     refine ⟨fun h=>?_,fun h=>⟨by omega,j+1,rfl,⟨by omega,?_⟩,by omega⟩⟩
     ·have hno:¬(plMeets p l∧(plAnew p∨k.prof≠48862∨∀m∈p.maps,m.to≤14)):=fun hh=>by
       rcases hh.2 with h2|h2|h2
       ·exact h.1.1 h2
       ·omega
       ·have:=h2 m hm
        omega
      rw[plElems_no hw hno]
      rfl
     ·by_cases h1:plAnew p
      ·exact .inl h1
      ·by_cases h2:k.prof=48862
       ·refine .inr (.inr fun x hx=>?_)
        rw[ht] at hx
        rcases List.mem_append.1 hx with hx|hx
        ·rcases j2 with j2|j2|j2
         ·exact absurd j2 h1
         ·exact absurd h2 j2
         ·exact j2 x hx
        ·rw[List.mem_singleton] at hx
         subst hx
         rcases h with h|h
         ·exact absurd ⟨h1,by omega⟩ h
         ·exact h
       ·exact .inr (.inl h2)
    ·have hj2:j=p.maps.length:=by omega
     subst hj2
     rw[List.take_length] at j2
     rw[plElems_yes hw ⟨hme,j2⟩,hmm]
     rfl
 ·have hw:wasOf k=some []:=by unfold wasOf;rw[if_neg (by rw[hx];decide)]
  refine VC.go_loop (fun i:Nat=> [.ls [],.bool false,.ls [],.int 0,.int (i:Int)]) (fun i=>i=0) (fun i=>0) 0 rfl rfl fun i hi=>?_
  subst hi
  simp only[sVC,sEV,sENV,sVAL,sBO,forall_const,List.length_map]
  refine ⟨fun hc=>by omega,fun _=>?_⟩
  have i2:plLens p []:=fun e he=>absurd he (by simp)
  have hgood:elRight []:=fun j hj=>absurd hj (by simp)
  have htot:=cnt_total hp hgood
  have hac:=right_count hp.2.2.2.2.2.1
  have hids:elIds (plOuts p [])=elIds (outL p []++p.adds):=rfl
  have c0:cnt p []=0:=rfl
  have l0:(outL p []).length=0:=rfl
  have n0:([]:List C).length=0:=rfl
  have hmm:(outL p []).map ElC++p.adds.map ElC=(outL p []++p.adds).map ElC:=by rw[List.map_append]
  have hdi:=pc_distinct_el (outL p []++p.adds) (by rw[List.length_append];omega)
  refine ⟨by omega,by omega,fun hne=>?_,fun heq=>⟨by omega,_,(by exact hdi),fun hb=>?_,fun hb=>?_⟩⟩
  ·have hno:¬(plMeets p []∧(plAnew p∨k.prof≠48862∨∀m∈p.maps,m.to≤14)):=fun hh=>by
    have:=htot.2 hh.1.1
    omega
   rw[plElems_no hw hno]
   rfl
  ·have hb:¬idsRight (elIds (outL p []++p.adds)):=of_decide_eq_false hb
   have hno:¬(plMeets p []∧(plAnew p∨k.prof≠48862∨∀m∈p.maps,m.to≤14)):=fun hh=>hb hh.1.2.2
   rw[plElems_no hw hno]
   rfl
  ·have hb:idsRight (elIds (outL p []++p.adds)):=of_decide_eq_true hb
   have hme:plMeets p []:=⟨htot.1 (by omega),i2,hb⟩
   refine VC.go_loop (fun j:Nat=> [.ls [],.bool false,.int (j:Int)]) (fun j=>j≤p.maps.length∧(plAnew p∨k.prof≠48862∨∀m∈p.maps.take j,m.to≤14)) (fun j=>p.maps.length-j) 0 rfl ⟨Nat.zero_le _,.inr (.inr (by simp))⟩ fun j hj=>?_
   obtain ⟨j1,j2⟩:=hj
   simp only[sVC,sEV,sENV,sVAL,sBO,forall_const,List.length_map]
   refine ⟨fun hc=>?_,fun hc=>?_⟩
   ·have hk:j<p.maps.length:=by omega
    have ht:=List.take_succ_eq_append_getElem hk
    have hg:(p.maps.map MpC).getD (j:Int).toNat default=MpC p.maps[j]:=by simp[List.getD,hk]
    have hm:=List.getElem_mem hk
    rw[hg]
    generalize p.maps[j]=m at ht hm
    refine ⟨by omega,by omega,_,pc_plan_anew p,?_⟩
    simp only[sEV,sENV,sVAL,sBO,forall_const]
    have han:(p.drops≠[]∨p.adds≠[])↔plAnew p:=Iff.rfl
    rw[han]
    refine ⟨fun h=>?_,fun h=>⟨by omega,j+1,rfl,⟨by omega,?_⟩,by omega⟩⟩
    ·have hno:¬(plMeets p []∧(plAnew p∨k.prof≠48862∨∀m∈p.maps,m.to≤14)):=fun hh=>by
      rcases hh.2 with h2|h2|h2
      ·exact h.1.1 h2
      ·omega
      ·have:=h2 m hm
       omega
     rw[plElems_no hw hno]
     rfl
    ·by_cases h1:plAnew p
     ·exact .inl h1
     ·by_cases h2:k.prof=48862
      ·refine .inr (.inr fun x hx=>?_)
       rw[ht] at hx
       rcases List.mem_append.1 hx with hx|hx
       ·rcases j2 with j2|j2|j2
        ·exact absurd j2 h1
        ·exact absurd h2 j2
        ·exact j2 x hx
       ·rw[List.mem_singleton] at hx
        subst hx
        rcases h with h|h
        ·exact absurd ⟨h1,by omega⟩ h
        ·exact h
      ·exact .inr (.inl h2)
   ·have hj2:j=p.maps.length:=by omega
    subst hj2
    rw[List.take_length] at j2
    rw[plElems_yes hw ⟨hme,j2⟩]
    rfl
theorem layAt_ge (nar:Bool):∀(l:List (Nat×El)) (p:Nat),∀s∈layAt nar p l,p+Plain.ahead nar≤s.pos
 | [],_,s,h=>absurd h (by simp[layAt])
 |(n,e)::l,p,s,h=>by
  rw[layAt] at h
  rcases List.mem_cons.1 h with rfl|h
  ·simp only;omega
  ·have:=layAt_ge nar l _ s h
   omega
theorem spots_ge {q:Nat} {b:List UInt8} (h:(spots q b).2=0):∀s∈(spots q b).1,Plain.ahead (decide (q=48862))≤s.pos:=by
 obtain ⟨nar,l,r,h1,_,h3,_⟩:=spots_decomp h
 rw[h3]
 have e:decide (q=48862)=nar:=by
  unfold isProf at h1
  cases nar with
  |true=>simpa using h1
  |false=>simp at h1;simp;omega
 rw[e]
 intro s hs
 have:=layAt_ge nar l 0 s hs
 omega
theorem ipStep_len {p:Pl} {nar:Bool} {x:List UInt8} {s:Sp} (h1:Plain.ahead nar≤s.pos) (h2:s.pos+s.size≤x.length) (hl:(s.id:Int)∈elIds p.over→(newData p s.id []).length=s.size):(ipStep p nar x s).length=x.length:=by
 have ha:1≤Plain.ahead nar:=by unfold Plain.ahead;split<;>omega
 show (if (s.id:Int)∈elIds p.over then putAt (if (s.id:Int)∈p.maps.map (·.fr) then putAt x (s.pos-Plain.ahead nar) [idByte nar (newId p s.id) (at_ x (s.pos-Plain.ahead nar))] else x) s.pos (newData p s.id []) else (if (s.id:Int)∈p.maps.map (·.fr) then putAt x (s.pos-Plain.ahead nar) [idByte nar (newId p s.id) (at_ x (s.pos-Plain.ahead nar))] else x)).length=_
 have hy:(if (s.id:Int)∈p.maps.map (·.fr) then putAt x (s.pos-Plain.ahead nar) [idByte nar (newId p s.id) (at_ x (s.pos-Plain.ahead nar))] else x).length=x.length:=by
  split
  ·exact putAt_length _ _ _ (by simp;omega)
  ·rfl
 split
 ·rename_i ho
  rw[putAt_length _ _ _ (by rw[hy,hl ho];exact h2),hy]
 ·exact hy
theorem idb_nar (id:Int) (h:1≤id∧id≤255) (o:Nat) (ho:o<256):arith .or .u8 (arith .shl .u8 (IntKind.u8.wrap id) 4) (arith .and .u8 (o:Int) 15)=((idByte true id o).toNat:Int):=by
 obtain ⟨n,rfl⟩:∃n:Nat,id=n:=⟨id.toNat,by omega⟩
 have e1:IntKind.u8.wrap (n:Int)=(n:Int):=by rw[wrapu8];omega
 have e2:arith .shl .u8 (n:Int) 4=((n%16*2^4:Nat):Int):=by
  rw[arith_shl,wrapu8]
  simp[IntKind.bits]
  omega
 rw[e1,e2,nib_lo o ho,arith_orU rfl (by show _<2^8;omega) (by show _<2^8;omega),or_add _ _ _ (by omega)]
 unfold idByte
 rw[if_pos rfl,Int.toNat_natCast,UInt8.toNat_ofNat']
 congr 1
 omega
theorem idb_wide (id:Int) (h:1≤id∧id≤255) (o:Nat):IntKind.u8.wrap id=((idByte false id o).toNat:Int):=by
 obtain ⟨n,rfl⟩:∃n:Nat,id=n:=⟨id.toNat,by omega⟩
 rw[byte_nat]
 unfold idByte
 rw[if_neg (by decide),Int.toNat_natCast]
theorem spl_put (y d:List UInt8) (k n m:Nat) (h:k+d.length≤y.length) (hn:d.length≤n) (hm:m=0):splice (ofBytes y) k (List.drop m (List.take n (ofBytes d)))=ofBytes (putAt y k d):=by
 subst hm
 rw[List.drop_zero,List.take_of_length_le (by simpa using hn),ofBytes_splice]
 unfold splice putAt
 rw[List.take_of_length_le (l:=d) (by omega)]
theorem pc_plan_inPlace (p:Pl) (k:Pk) (hp:plRight p) (hf:plFew p) (ho:k.ok) (hel:k.ext.length≤1000000) (he:(spots k.prof k.ext).2=0) (hl:∀s∈(spots k.prof k.ext).1,(s.id:Int)∈elIds p.over→(newData p s.id []).length=s.size):PC Tryz.prog f_plan_inPlace [(PlSh,PlC p),(PkSh,PkC k)] [(Byt,B (plExt p k))]:=by
 have n1:=((idsRight_iff _).1 hp.2.1).2
 have n3:(p.over.map (·.id)).Nodup:=((idsRight_iff _).1 (elRight_ids hp.2.2.2.2.1)).2
 have hge:=spots_ge he
 obtain ⟨hsz,_,_⟩:=spots_good k.prof k.ext
 have hct:=spots_count k.prof k.ext
 apply pcv_plan_inPlace rfl
 simp only[vc_plan_inPlace,sVC,sEV,sENV,sVAL,sBO,forall_const,List.length_map]
 refine ⟨_,pn_bytes_Clone k.ext hel,_,_,pc_elem_Spots k.prof ho.2 k.ext hel,_,pc_plan_maps p hf,_,pc_plan_overs p hf,?_⟩
 unfold plExt narB
 generalize (spots k.prof k.ext).1=l at hge hsz hct hl
 have hmono:∀i,i≤l.length→((l.take i).foldl (ipStep p (decide (k.prof=48862))) k.ext).length=k.ext.length:=by
  intro i
  induction i with
  |zero=>intro _;rfl
  |succ i ih=>
   intro hi
   have hk:i<l.length:=by omega
   have hm:=List.getElem_mem hk
   rw[List.take_succ_eq_append_getElem hk,List.foldl_append,List.foldl_cons,List.foldl_nil,ipStep_len (hge _ hm) (by rw[ih (by omega)];exact hsz _ hm) (hl _ hm),ih (by omega)]
 refine VC.go_loop (fun i:Nat=> [.int (i:Int),B ((l.take i).foldl (ipStep p (decide (k.prof=48862))) k.ext)]) (fun i=>i≤l.length) (fun i=>l.length-i) 0 rfl (Nat.zero_le _) fun i hi=>?_
 have hlen:=hmono i hi
 simp only[sVC,sEV,sENV,sVAL,sBO,forall_const,List.length_map,ofBytes_length]
 refine ⟨fun hc=>?_,fun hc=>?_⟩
 ·have hk:i<l.length:=by omega
  have hm:=List.getElem_mem hk
  have ht:=List.take_succ_eq_append_getElem hk
  have hg:(l.map SpC).getD (i:Int).toNat default=SpC l[i]:=by simp[List.getD,hk]
  rw[hg]
  generalize l[i]=s at ht hm
  have hge:=hge s hm
  have hsz:=hsz s hm
  have hl:=hl s hm
  have hnext:(l.take (i+1)).foldl (ipStep p (decide (k.prof=48862))) k.ext=ipStep p (decide (k.prof=48862)) ((l.take i).foldl (ipStep p (decide (k.prof=48862))) k.ext) s:=by rw[ht,List.foldl_append];rfl
  generalize (l.take i).foldl (ipStep p (decide (k.prof=48862))) k.ext=x at hlen hnext
  have hst:ipStep p (decide (k.prof=48862)) x s=(if (s.id:Int)∈elIds p.over then putAt (if (s.id:Int)∈p.maps.map (·.fr) then putAt x (s.pos-Plain.ahead (decide (k.prof=48862))) [idByte (decide (k.prof=48862)) (newId p s.id) (at_ x (s.pos-Plain.ahead (decide (k.prof=48862))))] else x) s.pos (newData p s.id []) else (if (s.id:Int)∈p.maps.map (·.fr) then putAt x (s.pos-Plain.ahead (decide (k.prof=48862))) [idByte (decide (k.prof=48862)) (newId p s.id) (at_ x (s.pos-Plain.ahead (decide (k.prof=48862))))] else x)):=rfl
  rw[hst] at hnext
  simp only[v_hd,v_tl,v_int,v_ls,if_true]
  have hnid:(s.id:Int)∈p.maps.map (·.fr)→1≤newId p s.id∧newId p s.id≤255:=fun h=>by
   obtain ⟨m,hm,_,e⟩:=id_mem h
   have:=ids_lt hp.2.2.1 m.to (List.mem_map.2 ⟨m,hm,rfl⟩)
   rw[e];exact this
  by_cases hmp:(s.id:Int)∈p.maps.map (·.fr)
  ·rw[if_pos hmp] at hnext
   have hnid:=hnid hmp
   simp only[mp_some n1 hmp,v_hd,v_tl,Option.isSome_some,v_bool,true_implies,v_int,reduceCtorEq,false_implies,and_true]
   by_cases hov:(s.id:Int)∈elIds p.over
   ·rw[if_pos hov] at hnext
    have hl:=hl hov
    simp only[ov_some n3 [] hov,v_hd,v_tl,v_ls,ofBytes_length,Option.isSome_some,v_bool,true_implies,reduceCtorEq,false_implies,and_true]
    refine ⟨by omega,by omega,fun hq=>?_,fun hq=>?_⟩
    ·have hq2:decide (k.prof=48862)=true:=decide_eq_true (by omega)
     rw[hq2] at hnext hge
     have ha:Plain.ahead true=1:=rfl
     rw[ha] at hnext hge
     refine ⟨by omega,by omega,by omega,by omega,by omega,by omega,by omega,by omega,by omega,by omega,i+1,?_,by omega,by omega⟩
     have e1:((s.pos:Int)-1).toNat=s.pos-1:=by omega
     have e2:((k.ext.length:Int)-(s.pos:Int)).toNat=k.ext.length-s.pos:=by omega
     rw[hq2,hnext,e1,e2,ofBytes_getD,v_int,atD,idb_nar _ hnid _ (at_lt x (s.pos-1)),ofBytes_set',set_putAt _ _ _ (by omega),Int.toNat_natCast,spl_put _ _ _ _ (Int.toNat 0) (by rw[putAt_length _ _ _ (by simp;omega)];omega) (by omega) rfl]
     rfl
    ·have hq2:decide (k.prof=48862)=false:=decide_eq_false (by omega)
     rw[hq2] at hnext hge
     have ha:Plain.ahead false=2:=rfl
     rw[ha] at hnext hge
     refine ⟨by omega,by omega,by omega,by omega,by omega,by omega,by omega,i+1,?_,by omega,by omega⟩
     have e1:((s.pos:Int)-2).toNat=s.pos-2:=by omega
     have e2:((k.ext.length:Int)-(s.pos:Int)).toNat=k.ext.length-s.pos:=by omega
     rw[hq2,hnext,e1,e2,idb_wide _ hnid (at_ x (s.pos-2)),ofBytes_set',set_putAt _ _ _ (by omega),Int.toNat_natCast,spl_put _ _ _ _ (Int.toNat 0) (by rw[putAt_length _ _ _ (by simp;omega)];omega) (by omega) rfl]
     rfl
   ·rw[if_neg hov] at hnext
    simp only[ov_none n3 hov,Option.isSome_none,v_bool,true_implies,reduceCtorEq,false_implies,true_and]
    refine ⟨by omega,by omega,fun hq=>?_,fun hq=>?_⟩
    ·have hq2:decide (k.prof=48862)=true:=decide_eq_true (by omega)
     rw[hq2] at hnext hge
     have ha:Plain.ahead true=1:=rfl
     rw[ha] at hnext hge
     refine ⟨by omega,by omega,by omega,by omega,by omega,by omega,by omega,i+1,?_,by omega,by omega⟩
     have e1:((s.pos:Int)-1).toNat=s.pos-1:=by omega
     rw[hq2,hnext,e1,ofBytes_getD,v_int,atD,idb_nar _ hnid _ (at_lt x (s.pos-1)),ofBytes_set',set_putAt _ _ _ (by omega)]
     rfl
    ·have hq2:decide (k.prof=48862)=false:=decide_eq_false (by omega)
     rw[hq2] at hnext hge
     have ha:Plain.ahead false=2:=rfl
     rw[ha] at hnext hge
     refine ⟨by omega,by omega,by omega,by omega,i+1,?_,by omega,by omega⟩
     have e1:((s.pos:Int)-2).toNat=s.pos-2:=by omega
     rw[hq2,hnext,e1,idb_wide _ hnid (at_ x (s.pos-2)),ofBytes_set',set_putAt _ _ _ (by omega)]
     rfl
  ·rw[if_neg hmp] at hnext
   simp only[mp_none n1 hmp,Option.isSome_none,v_bool,true_implies,reduceCtorEq,false_implies,true_and]
   by_cases hov:(s.id:Int)∈elIds p.over
   ·rw[if_pos hov] at hnext
    have hl:=hl hov
    simp only[ov_some n3 [] hov,v_hd,v_tl,v_ls,ofBytes_length,Option.isSome_some,v_bool,true_implies,reduceCtorEq,false_implies,and_true]
    refine ⟨by omega,by omega,by omega,by omega,by omega,by omega,i+1,?_,by omega,by omega⟩
    have e2:((k.ext.length:Int)-(s.pos:Int)).toNat=k.ext.length-s.pos:=by omega
    rw[hnext,e2,Int.toNat_natCast,spl_put _ _ _ _ (Int.toNat 0) (by omega) (by omega) rfl]
    rfl
   ·rw[if_neg hov] at hnext
    simp only[ov_none n3 hov,Option.isSome_none,v_bool,true_implies,reduceCtorEq,false_implies,true_and]
    refine ⟨by omega,by omega,by omega,i+1,?_,by omega,by omega⟩
    rw[hnext]
    rfl
 ·have:i=l.length:=by omega
  subst this
  rw[List.take_length]
end Go.Vc
