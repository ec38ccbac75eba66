/-
  The contracts of plan: what a plan makes of a packet, each out of its condition.
-/
import Derived.Test.YtaehhpempnelhaaGreatDoorQVcs1
import Derived.Test.YtaehhpempnelhaaGreatDoorQTx2
import Derived.Test.YtaehhpempnelhaaGreatDoorQTx7
import Derived.Test.YtaehhpempnelhaaGreatDoorQBase4
set_option maxRecDepth 100000
namespace Go.Vc
open Go Go.Proofs Go.Plain
theorem KS(b:List UInt8)(hb:b.length<=1000000):PC Tryz.prog Vr [(aQ,B b)] [(aQ,B b)]:=by
 apply agT rfl;simp only[TA,aH,aB,aA,ay,aC,forall_const,bE];refine ⟨fun h=>?_,by omega⟩;rw[show B b=C.ls [] from congrArg C.ls h]
theorem TF(b:List UInt8)(hb:b.length<=1000000):PC Tryz.prog Vb [(aQ,B b)] [(aQ,B b)]:=by
 apply agX rfl;simp only[KO,aH,aB,aA,ay,aC,forall_const,bE];refine ⟨fun h=>?_,by omega⟩;rw[show B b=C.ls [] from congrArg C.ls h]
theorem ag0(l:List Nat)(hl:l.length<=1000000):PC Tryz.prog Qu [(.sl U32,Ns l)] [(.sl U32,Ns l)]:=by
 apply ae2 rfl;simp only[Qt,aH,aB,aA,ay,aC,forall_const];have hn:(xJ l).length=l.length:=by simp[xJ]
 refine ⟨fun h=>?_,by omega⟩;rw[show Ns l=C.ls [] from congrArg C.ls h]
theorem ai7(p:Pl):PC Tryz.prog Wq [(eu,eD p)] [(.bool,.bool (decide (jg p)))]:=by
 apply ahI rfl;simp only[Uz,aH,aB,aA,ay,aC,forall_const];refine ⟨_,Du p,?_⟩;congr 3
 have e:(jg p↔¬(p.drops≠[]\/p.adds≠[])/\p.np=false):=Iff.rfl;rw[Bool.eq_iff_iff,bR,e];by_cases h:p.drops≠[]\/p.adds≠[]
 .simp[h]
 .simp[h]
theorem ah9(p:Pl)(k:Pk)(hn:gH p)(hr:k.right):PC Tryz.prog Vg [(eu,eD p),(lS,jY k)] [(lS,jY (kV p k))]:=by
 obtain ⟨⟨⟨_,_,r3⟩,f2,f3,f4,f5⟩,f6⟩:=hr;unfold Pk.sum at f6;apply agI rfl;simp only[Tj,aH,aB,aA,ay,aC,forall_const];refine ⟨_,ag0 k.hd.bD (by omega),_,KS k.ext (by omega),_,KS k.pay (by omega),?_⟩;obtain ⟨n1,n2,n3,n4,n5,n6⟩:=hn;have c:∀(s:Bool) (x:Int) (y:Nat),0<=x->(if s=true then x else (y:Int))=((if s=true then x.toNat else y:Nat):Int):=fun s x y h=>by cases s<;>simp<;>omega
 have d:(if p.np=true then (0:Int) else (k.pad:Int))=((if p.np=true then 0 else k.pad:Nat):Int):=by cases p.np<;>rfl
 rw[c _ _ _ n1,c _ _ _ n3,c _ _ _ n5,d];rfl
def Ai(l:List Mp):List C:=l.foldl (fun m x=>lu m x.fr (.int x.to)) []
def Ag(l:List El):List C:=l.foldl (fun m x=>lu m x.id (B x.data)) []
theorem H8{α:Type}(key:α->Int)(val:α->C)(x:Int):∀(l:List α),(l.map key).Nodup->∀m:List C,(∀a∈l,gy m (key a)=none)->gy (l.foldl (fun m a=>lu m (key a) (val a)) m) x=((l.find? (fun a=>key a==x)).map (fun a=>C.ls [.int x,val a])).or (gy m x)
 | [],_,m,_=>by simp
 |a::l,hn,m,hm=>by
  simp only[eZ,List.nodup_cons] at hn;rw[AP,H8 key val x l hn.2 _ (fun c hc=>by
   rw[Hf,if_neg (fun e=>hn.1 (gK.2 ⟨c,hc,e.symm⟩)),hm c (List.mem_cons_of_mem _ hc)]),Hf,List.find?_cons]
  by_cases h:key a=x
  .have hnone:l.find? (fun a=>key a==x)=none:=by
    rw[List.find?_eq_none];intro c hc he;exact hn.1 (gK.2 ⟨c,hc,by rw[h];simpa using he⟩)
   have hb:(key a==x)=true:=by simpa using h
   rw[hnone,hb,if_pos h,h];rfl
  .have hb:(key a==x)=false:=by simpa using h
   rw[hb,if_neg h]
theorem abb(l:List Mp)(hn:(l.map (·.fr)).Nodup)(x:Int):gy (Ai l) x=(l.find? (fun a=>a.fr==x)).map (fun a=>C.ls [.int x,.int a.to]):=by
 have:=H8 (·.fr) (fun a:Mp=>C.int a.to) x l hn [] (fun _ _=>rfl);unfold Ai;rw[this];show Option.or _ none=_;rw[Option.or_none]
theorem aa5(l:List El)(hn:(l.map (·.id)).Nodup)(x:Int):gy (Ag l) x=(l.find? (fun a=>a.id==x)).map (fun a=>C.ls [.int x,B a.data]):=by
 have:=H8 (·.id) (fun a:El=>B a.data) x l hn [] (fun _ _=>rfl);unfold Ag;rw[this];show Option.or _ none=_;rw[Option.or_none]
theorem Lj(p:Pl)(h:iE p):PC Tryz.prog Xz [(eu,eD p)] [(.mp .i64 I64,.ls (Ai p.maps))]:=by
 apply aiK rfl;simp only[VB,aH,aB,aA,ay,aC,forall_const,aT];have hl:=h.1;refine VC.go_loop (fun i:Nat=> [.int (i:Int),.ls (Ai (p.maps.take i))]) (fun i=>i<=p.maps.length) (fun i=>p.maps.length-i) 0 rfl (bK _) fun i hi=>?_;simp only[aH,aB,aA,ay,aC,forall_const,aT];refine ⟨fun hc=>⟨by omega,by omega,by omega,i+1,?_,by omega,by omega⟩,fun hc=>?_⟩
 .have hk:i<p.maps.length:=by omega
  have hg:(p.maps.map qF).getD (i:Int).toNat default=qF p.maps[i]:=by simp[List.getD,hk]
  rw[hg,jm hk];unfold Ai;rw[List.foldl_append];rfl
 .have:i=p.maps.length:=by omega
  subst this;rw[eX]
theorem K5(p:Pl)(h:iE p):PC Tryz.prog Wn [(eu,eD p)] [(.mp .i64 aQ,.ls (Ag p.over))]:=by
 apply ahF rfl;simp only[Uw,aH,aB,aA,ay,aC,forall_const,aT];have hl:=h.2.1;refine VC.go_loop (fun i:Nat=> [.int (i:Int),.ls (Ag (p.over.take i))]) (fun i=>i<=p.over.length) (fun i=>p.over.length-i) 0 rfl (bK _) fun i hi=>?_;simp only[aH,aB,aA,ay,aC,forall_const,aT];refine ⟨fun hc=>⟨by omega,by omega,by omega,i+1,?_,by omega,by omega⟩,fun hc=>?_⟩
 .have hk:i<p.over.length:=by omega
  have hg:(p.over.map kT).getD (i:Int).toNat default=kT p.over[i]:=by simp[List.getD,hk]
  rw[hg,jm hk];unfold Ag;rw[List.foldl_append];rfl
 .have:i=p.over.length:=by omega
  subst this;rw[eX]
theorem ajK(e:El):PC Tryz.prog KE [(lU,kT e)] [(I64,.int e.id)]:=by
 apply afp rfl;simp only[Rn,aH,aB,aA,ay,aC,forall_const]
theorem TK(l:List El)(hl:l.length<=1000000):PC Tryz.prog QD [(.sl lU,jL l),(.eU KE,.ls [])] [(.bool,.bool (decide (iL (aZ l))))]:=by
 apply ae5 rfl;simp only[Qx,aH,aB,aA,ay,aC,forall_const,aT];have hil:(aZ l).length=l.length:=by simp[aZ]
 refine VC.go_loop (fun s:F9=> [.bool false,.int (s.k:Int),.ls s.m]) (fun s=>s.k<=l.length/\(∀j,j<s.k->nC (aZ l) j)/\∀x:Int,gV s.m x=decide (x∈(aZ l).take s.k)) (fun s=>l.length-s.k) ⟨0,[]⟩ rfl
  ⟨bK _,fun j hj=>absurd hj (Nat.not_lt_zero j),fun x=>by simp[wU]⟩ fun s hs=>?_
 obtain ⟨i1,i2,i3⟩:=hs;simp only[aH,aB,aA,ay,aC,forall_const,aT];refine ⟨fun hc=>?_,fun hc=>?_⟩
 .have hk:s.k<l.length:=by omega
  have hk2:s.k<(aZ l).length:=by omega
  have hat:nC (aZ l) s.k↔1<=((aZ l).getD s.k 0)/\((aZ l).getD s.k 0)<=255/\((aZ l).getD s.k 0)∉(aZ l).take s.k:=Iff.rfl;have htk:(aZ l).take (s.k+1)=(aZ l).take s.k++ [((aZ l).getD s.k 0)]:=by rw[jm hk2];simp[List.getD,hk2]
  have hid:(l.getD s.k El.zero).id=(aZ l).getD s.k 0:=by simp[aZ,List.getD,hk]
  rw[zR l s.k hk];refine ⟨by omega,by omega,_,ajK _,?_⟩;rw[hid];simp only[bU];generalize ((aZ l).getD s.k 0)=e at hat htk;have hm:=i3 e;refine ⟨fun h=>?_,fun h=>?_⟩
  .have h:(e<1\/255<e)\/gV s.m e=true:=by
    rcases h with h|h
    .exact .inl h
    .rw[if_pos trivial] at h;exact .inr h
   rw[hm,bR] at h;have hn:¬iL (aZ l):=fun hr=>by
    have h1:=hat.1 (hr s.k hk2);rcases h with h|h
    .omega
    .exact h1.2.2 h
   rw[decide_eq_false hn]
  .have h:¬(e<1\/255<e)/\gV s.m e=false:=⟨h.1,by have h2:=h.2;rw[if_pos trivial] at h2;exact h2⟩;rw[hm,kP] at h;refine ⟨by omega,⟨s.k+1,_⟩,by simp;rfl,⟨by simp only;omega,fun j hj=>?_,fun x=>?_⟩,by simp only;omega⟩
   .by_cases hjk:j=s.k
    .rw[hjk];exact hat.2 ⟨by omega,by omega,h.2⟩
    .simp only at hj;exact i2 j (by omega)
   .simp only;rw[zm,i3,htk];by_cases hx:e=x
    .rw[if_pos hx];simp[hx]
    .have:¬x=e:=fun h=>hx h.symm;rw[if_neg hx];simp[this]
 .have he:s.k=l.length:=by omega
  rw[decide_eq_true (show iL (aZ l) from fun j hj=>i2 j (by omega))]
def lK(p:Pl)(l:List El):List El:=(l.filter fun e=>decide (e.id∉p.drops)).map (FH p)
theorem ams(p:Pl)(l:List El)(e:El):lK p (l++ [e])=lK p l++(if e.id∈p.drops then [] else [FH p e]):=by
 unfold lK;rw[List.filter_append,eB];by_cases h:e.id∈p.drops<;>simp[h]
theorem an9(p:Pl)(l:List El)(e:El):cnt p (l++ [e])=cnt p l+yG p e:=by simp[cnt]
theorem amI(p:Pl)(l:List El)(e:El):ug p (l++ [e])↔ug p l/\(e.id∉p.drops->(j5 p e.id e.data).length=e.data.length):=by
 unfold ug;simp only[iZ,List.mem_singleton];constructor
 .intro h;exact ⟨fun x hx=>h x (.inl hx),h e (.inr rfl)⟩
 .rintro ⟨h1,h2⟩ x (hx|hx)
  .exact h1 x hx
  .subst hx;exact h2
theorem NG{p:Pl}(hn:(p.over.map (·.id)).Nodup){x:Int}(d:List UInt8)(hx:x∈aZ p.over):gy (Ag p.over) x=some (.ls [.int x,B (j5 p x d)]):=by
 rw[aa5 _ hn];unfold j5;cases hf:p.over.find? (fun a=>a.id==x) with
 |none=>
  rw[List.find?_eq_none] at hf;obtain ⟨e,he,hx⟩:=gK.1 hx;exact absurd (by simpa using hx) (hf e he)
 |some e=>rfl
theorem NH{p:Pl}(hn:(p.over.map (·.id)).Nodup){x:Int}(hx:x∉aZ p.over):gy (Ag p.over) x=none:=by
 rw[aa5 _ hn,Option.map_eq_none_iff,List.find?_eq_none];intro e he h;exact hx (gK.2 ⟨e,he,by simpa using h⟩)
theorem NS{p:Pl}(hn:(p.maps.map (·.fr)).Nodup){x:Int}(hx:x∈p.maps.map (·.fr)):gy (Ai p.maps) x=some (.ls [.int x,.int (newId p x)]):=by
 rw[abb _ hn];unfold newId;cases hf:p.maps.find? (fun a=>a.fr==x) with
 |none=>
  rw[List.find?_eq_none] at hf;obtain ⟨e,he,hx⟩:=gK.1 hx;exact absurd (by simpa using hx) (hf e he)
 |some e=>rfl
theorem NT{p:Pl}(hn:(p.maps.map (·.fr)).Nodup){x:Int}(hx:x∉p.maps.map (·.fr)):gy (Ai p.maps) x=none:=by
 rw[abb _ hn,Option.map_eq_none_iff,List.find?_eq_none];intro e he h;exact hx (gK.2 ⟨e,he,by simpa using h⟩)
theorem apn(l:List Int)(hn:l.Nodup)(x:Int):gy (pX l) x=if x∈l then some (.ls [.int x,.bool true]) else none:=by
 have:=H8 id (fun _=>C.bool true) x l (by simpa using hn) [] (fun _ _=>rfl);unfold pX;simp only[id] at this;rw[this];show Option.or _ none=_;rw[Option.or_none];by_cases h:x∈l
 .rw[if_pos h];have:(l.find? (fun a=>a==x)).isSome:=by rw[List.find?_isSome];exact ⟨x,h,by simp⟩
  obtain ⟨y,hy⟩:=kK.1 this;rw[hy];rfl
 .rw[if_neg h,List.find?_eq_none.2]
  .rfl
  .intro y hy he;exact h (by rw[show x=y by simpa using (by simpa using he:y=x).symm];exact hy)
theorem GR{l:List El}(h:iM l):l.length<=256:=by
 have h1:=(GL h).2;have h2:=DW h;have:=M9 256 _ h1 (by
  intro x hx;obtain ⟨e,he,rfl⟩:=gK.1 hx;have:=h2 e he;omega)
 simpa using this
theorem ade(p:Pl):∀l:List El,cnt p l<=2*l.length
 | []=>aI _
 |e::l=>by
  have ih:=ade p l;have e1:cnt p (e::l)=yG p e+cnt p l:=by simp[cnt]
  have e2:yG p e<=2:=by unfold yG;split<;>(try split)<;>(try split)<;>omega
  rw[e1,bn];omega
theorem aa6(p:Pl)(l:List El):(lK p l).length<=l.length:=by unfold lK;rw[aT];exact List.length_filter_le _ _
theorem Mf{p:Pl}{k:Pk}{l:List El}(hw:jP k=some l):jh p k=if mG p l/\(gG p\/k.aD≠48862\/∀m∈p.maps,m.to<=14) then some (qJ p l) else none:=by unfold jh;rw[hw]
theorem zi{p:Pl}{k:Pk}{l:List El}(hw:jP k=some l)(h:¬(mG p l/\(gG p\/k.aD≠48862\/∀m∈p.maps,m.to<=14))):jh p k=none:=by rw[Mf hw,if_neg h]
theorem Xl{p:Pl}{k:Pk}{l:List El}(hw:jP k=some l)(h:mG p l/\(gG p\/k.aD≠48862\/∀m∈p.maps,m.to<=14)):jh p k=some (qJ p l):=by rw[Mf hw,if_pos h]
theorem agr(p:Pl)(k:Pk)(hp:fT p)(hf:iE p)(hr:k.right)(ho:k.ok):PC Tryz.prog SL [(eu,eD p),(lS,jY k)] [(.sl lU,jL ((jh p k).getD [])),(.bool,.bool (jh p k).isSome)]:=by
 have hpr:=hp.2.1;have n1:=((tL _).1 hp.2.1).2;have n2:=((tL _).1 hp.2.2.2.1).2;have n3:(p.over.map (·.id)).Nodup:=((tL _).1 (Bo hp.2.2.2.2.1)).2;have hel:k.ext.length<=1000000:=by
  obtain ⟨⟨⟨_,_,r3⟩,f2,f3,f4,f5⟩,f6⟩:=hr;omega
 obtain ⟨w1,w2,w3,w4⟩:=hf;apply afK rfl;simp only[RQ,aH,aB,aA,ay,aC,forall_const,aT];refine ⟨fun hx=>⟨_,_,VT k.aD ho.2 k.ext hel,fun he=>?_,fun he=>⟨_,K6 p ⟨w1,w2,w3,w4⟩,_,Lj p ⟨w1,w2,w3,w4⟩,_,K5 p ⟨w1,w2,w3,w4⟩,?_⟩⟩,fun hx=>⟨_,K6 p ⟨w1,w2,w3,w4⟩,_,Lj p ⟨w1,w2,w3,w4⟩,_,K5 p ⟨w1,w2,w3,w4⟩,?_⟩⟩
 .have he:(spots k.aD k.ext).2≠0:=he;have:jh p k=none:=by unfold jh jP;rw[if_pos hx,if_neg he]
  rw[this];rfl
 .have he:(spots k.aD k.ext).2=0:=he;have hw:jP k=some (oL k.aD k.ext):=by unfold jP;rw[if_pos hx,if_pos he]
  have hcn:=aj2 k.aD k.ext;have hgood:=(u6 k.aD k.ext).2.2;generalize oL k.aD k.ext=l at hw hcn hgood;refine VC.go_loop (fun i:Nat=> [.ls [],.bool false,jL (lK p (l.take i)),.int (cnt p (l.take i):Nat),.int (i:Int)]) (fun i=>i<=l.length/\ug p (l.take i)) (fun i=>l.length-i) 0 rfl ⟨bK _,fun e he=>absurd he (by simp)⟩ fun i hi=>?_;obtain ⟨i1,i2⟩:=hi;simp only[aH,aB,aA,ay,aC,forall_const,aT];refine ⟨fun hc=>?_,fun hc=>?_⟩
  .have hk:i<l.length:=by omega
   have ht:=IZ l i hk;have hmem:=E8 hk;rw[zR l i hk];generalize l.getD i El.zero=e at ht hmem;have hcl:=ade p (l.take i);have hol:=aa6 p (l.take i);rw[gD] at hcl hol;have hs:=ams p (l.take i) e;have hct:=an9 p (l.take i) e;have hls:=amI p (l.take i) e;have hdr:=apn p.drops n2 e.id;rw[<-ht] at hs hct hls;unfold yG at hct;simp only[gJ,gX,bU,gM,if_true,bE];by_cases hd:e.id∈p.drops
   .rw[if_pos hd] at hs hct hdr;simp only[hdr,gJ,gX,iR];refine ⟨by omega,by omega,fun _=>⟨by omega,by omega,i+1,?_,⟨by omega,hls.2 ⟨i2,fun h=>absurd hd h⟩⟩,by omega⟩,fun h=>absurd h (by decide)⟩;rw[hs,hct];simp
   .rw[if_neg hd] at hs hct hdr;simp only[hdr,gJ,gX,iR];refine ⟨by omega,by omega,fun h=>absurd h (by decide),fun _=>?_⟩;have hnew:FH p e=⟨newId p e.id,j5 p e.id e.data⟩:=rfl;by_cases ho:e.id∈aZ p.over
    .rw[if_pos ho] at hct;simp only[NG n3 e.data ho,gJ,gX,gM,bE,Option.isSome_some,iR,true_implies,reduceCtorEq,false_implies,and_true];refine ⟨fun hne=>?_,fun heq=>?_⟩
     .have hno:¬(mG p l/\(gG p\/k.aD≠48862\/∀m∈p.maps,m.to<=14)):=fun hh=>by
       have:=hh.1.2.1 e hmem hd;omega
      rw[zi hw hno];rfl
     .have hl2:ug p (l.take (i+1)):=hls.2 ⟨i2,fun _=>by omega⟩;by_cases hm:e.id∈p.maps.map (·.fr)
      .rw[if_pos hm] at hct;simp only[NS n1 hm,gJ,gX,Option.isSome_some,iR,true_implies,if_true,bn,zy];refine ⟨by omega,by omega,by omega,by omega,i+1,?_,⟨by omega,hl2⟩,by omega⟩;rw[hs,hct,hnew];simp[Int.add_assoc]
      .rw[if_neg hm] at hct;have hid:=Zv hm;simp only[NT n1 hm,Option.isSome_none,iR,reduceCtorEq,false_implies,true_and,if_false,bn,zy];refine ⟨by omega,by omega,by omega,i+1,?_,⟨by omega,hl2⟩,by omega⟩;rw[hs,hct,hnew,hid];simp[Int.add_assoc]
    .rw[if_neg ho] at hct;have hdt:=ZF e.data ho;have hl2:ug p (l.take (i+1)):=hls.2 ⟨i2,fun _=>by rw[hdt]⟩;simp only[NH n3 ho,Option.isSome_none,iR,reduceCtorEq,false_implies,true_and,true_implies];by_cases hm:e.id∈p.maps.map (·.fr)
     .rw[if_pos hm] at hct;simp only[NS n1 hm,gJ,gX,Option.isSome_some,iR,true_implies,if_true,bn,zy];refine ⟨by omega,by omega,by omega,i+1,?_,⟨by omega,hl2⟩,by omega⟩;rw[hs,hct,hnew,hdt];simp[Int.add_assoc]
     .rw[if_neg hm] at hct;have hid:=Zv hm;simp only[NT n1 hm,Option.isSome_none,iR,reduceCtorEq,false_implies,true_and,if_false,bn,zy];refine ⟨by omega,by omega,i+1,?_,⟨by omega,hl2⟩,by omega⟩;rw[hs,hct,hnew,hid,hdt];simp[Int.add_assoc]
  .have hi3:i=l.length:=by omega
   subst hi3;rw[eX] at i2 |-;have htot:=ZH hp hgood;have hac:=GR hp.2.2.2.2.2.1;have PN:aZ (qJ p l)=aZ (lK p l++p.adds):=rfl;have hlo:=aa6 p l;have hmm:(lK p l).map kT++p.adds.map kT=(lK p l++p.adds).map kT:=by rw[eB]
   have hdi:=TK (lK p l++p.adds) (by rw[bg];omega);refine ⟨by omega,by omega,fun hne=>?_,fun heq=>⟨by omega,_,(by rw[hmm];exact hdi),fun hb=>?_,fun hb=>?_⟩⟩
   .have hno:¬(mG p l/\(gG p\/k.aD≠48862\/∀m∈p.maps,m.to<=14)):=fun hh=>by
     have:=htot.2 hh.1.1;omega
    rw[zi hw hno];rfl
   .have hb:¬iL (aZ (lK p l++p.adds)):=of_decide_eq_false hb;have hno:¬(mG p l/\(gG p\/k.aD≠48862\/∀m∈p.maps,m.to<=14)):=fun hh=>hb hh.1.2.2;rw[zi hw hno];rfl
   .have hb:iL (aZ (lK p l++p.adds)):=of_decide_eq_true hb;have hme:mG p l:=⟨htot.1 (by omega),i2,hb⟩;refine VC.go_loop (fun j:Nat=> [.ls [],.bool false,.int (j:Int)]) (fun j=>j<=p.maps.length/\(gG p\/k.aD≠48862\/∀m∈p.maps.take j,m.to<=14)) (fun j=>p.maps.length-j) 0 rfl ⟨bK _,.inr (.inr (by simp))⟩ fun j hj=>?_;obtain ⟨j1,j2⟩:=hj;simp only[aH,aB,aA,ay,aC,forall_const,aT];refine ⟨fun hc=>?_,fun hc=>?_⟩
    .have hk:j<p.maps.length:=by omega
     have ht:=jm hk;have hg:(p.maps.map qF).getD (j:Int).toNat default=qF p.maps[j]:=by simp[List.getD,hk]
     have hm:=List.getElem_mem hk;rw[hg];generalize p.maps[j]=m at ht hm;refine ⟨by omega,by omega,_,Du p,?_⟩;simp only[aB,aA,ay,aC,forall_const];have han:(p.drops≠[]\/p.adds≠[])↔gG p:=Iff.rfl;rw[han];refine ⟨fun h=>?_,fun h=>⟨by omega,j+1,rfl,⟨by omega,?_⟩,by omega⟩⟩
     .have hno:¬(mG p l/\(gG p\/k.aD≠48862\/∀m∈p.maps,m.to<=14)):=fun hh=>by
       rcases hh.2 with h2|h2|h2
       .exact h.1.1 h2
       .omega
       .have:=h2 m hm;omega
      rw[zi hw hno];rfl
     .by_cases h1:gG p
      .exact .inl h1
      .by_cases h2:k.aD=48862
       .refine .inr (.inr fun x hx=>?_);rw[ht] at hx;rcases iZ.1 hx with hx|hx
        .rcases j2 with j2|j2|j2
         .exact absurd j2 h1
         .exact absurd h2 j2
         .exact j2 x hx
        .rw[List.mem_singleton] at hx;subst hx;rcases h with h|h
         .exact absurd ⟨h1,by omega⟩ h
         .exact h
       .exact .inr (.inl h2)
    .have hj2:j=p.maps.length:=by omega
     subst hj2;rw[eX] at j2;rw[Xl hw ⟨hme,j2⟩,hmm];rfl
 .have hw:jP k=some []:=by unfold jP;rw[if_neg (by rw[hx];decide)]
  refine VC.go_loop (fun i:Nat=> [.ls [],.bool false,.ls [],.int 0,.int (i:Int)]) (fun i=>i=0) (fun i=>0) 0 rfl rfl fun i hi=>?_;subst hi;simp only[aH,aB,aA,ay,aC,forall_const,aT];refine ⟨fun hc=>by omega,fun _=>?_⟩;have i2:ug p []:=fun e he=>absurd he (by simp);have hgood:iM []:=fun j hj=>absurd hj (by simp);have htot:=ZH hp hgood;have hac:=GR hp.2.2.2.2.2.1;have PN:aZ (qJ p [])=aZ (lK p []++p.adds):=rfl;have c0:cnt p []=0:=rfl;have l0:(lK p []).length=0:=rfl;have n0:([]:List C).length=0:=rfl;have hmm:(lK p []).map kT++p.adds.map kT=(lK p []++p.adds).map kT:=by rw[eB]
  have hdi:=TK (lK p []++p.adds) (by rw[bg];omega);refine ⟨by omega,by omega,fun hne=>?_,fun heq=>⟨by omega,_,(by exact hdi),fun hb=>?_,fun hb=>?_⟩⟩
  .have hno:¬(mG p []/\(gG p\/k.aD≠48862\/∀m∈p.maps,m.to<=14)):=fun hh=>by
    have:=htot.2 hh.1.1;omega
   rw[zi hw hno];rfl
  .have hb:¬iL (aZ (lK p []++p.adds)):=of_decide_eq_false hb;have hno:¬(mG p []/\(gG p\/k.aD≠48862\/∀m∈p.maps,m.to<=14)):=fun hh=>hb hh.1.2.2;rw[zi hw hno];rfl
  .have hb:iL (aZ (lK p []++p.adds)):=of_decide_eq_true hb;have hme:mG p []:=⟨htot.1 (by omega),i2,hb⟩;refine VC.go_loop (fun j:Nat=> [.ls [],.bool false,.int (j:Int)]) (fun j=>j<=p.maps.length/\(gG p\/k.aD≠48862\/∀m∈p.maps.take j,m.to<=14)) (fun j=>p.maps.length-j) 0 rfl ⟨bK _,.inr (.inr (by simp))⟩ fun j hj=>?_;obtain ⟨j1,j2⟩:=hj;simp only[aH,aB,aA,ay,aC,forall_const,aT];refine ⟨fun hc=>?_,fun hc=>?_⟩
   .have hk:j<p.maps.length:=by omega
    have ht:=jm hk;have hg:(p.maps.map qF).getD (j:Int).toNat default=qF p.maps[j]:=by simp[List.getD,hk]
    have hm:=List.getElem_mem hk;rw[hg];generalize p.maps[j]=m at ht hm;refine ⟨by omega,by omega,_,Du p,?_⟩;simp only[aB,aA,ay,aC,forall_const];have han:(p.drops≠[]\/p.adds≠[])↔gG p:=Iff.rfl;rw[han];refine ⟨fun h=>?_,fun h=>⟨by omega,j+1,rfl,⟨by omega,?_⟩,by omega⟩⟩
    .have hno:¬(mG p []/\(gG p\/k.aD≠48862\/∀m∈p.maps,m.to<=14)):=fun hh=>by
      rcases hh.2 with h2|h2|h2
      .exact h.1.1 h2
      .omega
      .have:=h2 m hm;omega
     rw[zi hw hno];rfl
    .by_cases h1:gG p
     .exact .inl h1
     .by_cases h2:k.aD=48862
      .refine .inr (.inr fun x hx=>?_);rw[ht] at hx;rcases iZ.1 hx with hx|hx
       .rcases j2 with j2|j2|j2
        .exact absurd j2 h1
        .exact absurd h2 j2
        .exact j2 x hx
       .rw[List.mem_singleton] at hx;subst hx;rcases h with h|h
        .exact absurd ⟨h1,by omega⟩ h
        .exact h
      .exact .inr (.inl h2)
   .have hj2:j=p.maps.length:=by omega
    subst hj2;rw[eX] at j2;rw[Xl hw ⟨hme,j2⟩];rfl
theorem aal(ak:Bool):∀(l:List (Nat×El)) (p:Nat),∀s∈mK ak p l,p+Plain.ahead ak<=s.pos
 | [],_,s,h=>absurd h (by simp[mK])
 |(n,e)::l,p,s,h=>by
  rw[mK] at h;rcases iH.1 h with rfl|h
  .simp only;omega
  .have:=aal ak l _ s h;omega
theorem M7{q:Nat}{b:List UInt8}(h:(spots q b).2=0):∀s∈(spots q b).1,Plain.ahead (decide (q=48862))<=s.pos:=by
 obtain ⟨ak,l,r,h1,_,h3,_⟩:=VO h;rw[h3];have e:decide (q=48862)=ak:=by
  unfold zZ at h1;cases ak with
  |true=>simpa using h1
  |false=>simp at h1;simp;omega
 rw[e];intro s hs;have:=aal ak l 0 s hs;omega
theorem Yu{p:Pl}{ak:Bool}{x:List UInt8}{s:Sp}(h1:Plain.ahead ak<=s.pos)(h2:s.pos+s.size<=x.length)(hl:(s.id:Int)∈aZ p.over->(j5 p s.id []).length=s.size):(uh p ak x s).length=x.length:=by
 have ha:1<=Plain.ahead ak:=by unfold Plain.ahead;split<;>omega
 show (if (s.id:Int)∈aZ p.over then putAt (if (s.id:Int)∈p.maps.map (·.fr) then putAt x (s.pos-Plain.ahead ak) [nV ak (newId p s.id) (at_ x (s.pos-Plain.ahead ak))] else x) s.pos (j5 p s.id []) else (if (s.id:Int)∈p.maps.map (·.fr) then putAt x (s.pos-Plain.ahead ak) [nV ak (newId p s.id) (at_ x (s.pos-Plain.ahead ak))] else x)).length=_;have hy:(if (s.id:Int)∈p.maps.map (·.fr) then putAt x (s.pos-Plain.ahead ak) [nV ak (newId p s.id) (at_ x (s.pos-Plain.ahead ak))] else x).length=x.length:=by
  split
  .exact Dt _ _ _ (by simp;omega)
  .rfl
 split
 .rename_i ho;rw[Dt _ _ _ (by rw[hy,hl ho];exact h2),hy]
 .exact hy
theorem NV(id:Int)(h:1<=id/\id<=255)(o:Nat)(ho:o<256):arith .or .u8 (arith .shl .u8 (IntKind.u8.wrap id) 4) (arith .and .u8 (o:Int) 15)=((nV true id o).toNat:Int):=by
 obtain ⟨n,rfl⟩:∃n:Nat,id=n:=⟨id.toNat,by omega⟩;have e1:IntKind.u8.wrap (n:Int)=(n:Int):=by rw[lY];omega
 have e2:arith .shl .u8 (n:Int) 4=((n%16*2^4:Nat):Int):=by
  rw[pU,lY];simp[IntKind.bits];omega
 rw[e1,e2,Oy o ho,wY rfl (by show _<2^8;omega) (by show _<2^8;omega),vG _ _ _ (by omega)];unfold nV;rw[if_pos rfl,bO,mh];congr 1
 omega
theorem Ng(id:Int)(h:1<=id/\id<=255)(o:Nat):IntKind.u8.wrap id=((nV false id o).toNat:Int):=by
 obtain ⟨n,rfl⟩:∃n:Nat,id=n:=⟨id.toNat,by omega⟩;rw[qH];unfold nV;rw[if_neg (by decide),bO]
theorem Nu(y d:List UInt8)(k n m:Nat)(h:k+d.length<=y.length)(hn:d.length<=n)(hm:m=0):splice (ofBytes y) k (List.drop m (List.take n (ofBytes d)))=ofBytes (putAt y k d):=by
 subst hm;rw[pz,jB (by simpa using hn),TN];unfold splice putAt;rw[jB (l:=d) (by omega)]
theorem ag2(p:Pl)(k:Pk)(hp:fT p)(hf:iE p)(ho:k.ok)(hel:k.ext.length<=1000000)(he:(spots k.aD k.ext).2=0)(hl:∀s∈(spots k.aD k.ext).1,(s.id:Int)∈aZ p.over->(j5 p s.id []).length=s.size):PC Tryz.prog TW [(eu,eD p),(lS,jY k)] [(aQ,B (sw p k))]:=by
 have n1:=((tL _).1 hp.2.1).2;have n3:(p.over.map (·.id)).Nodup:=((tL _).1 (Bo hp.2.2.2.2.1)).2;have hge:=M7 he;obtain ⟨hsz,_,_⟩:=u6 k.aD k.ext;have hct:=Bl k.aD k.ext;apply af5 rfl;simp only[Sm,aH,aB,aA,ay,aC,forall_const,aT];refine ⟨_,TF k.ext hel,_,_,K8 k.aD ho.2 k.ext hel,_,Lj p hf,_,K5 p hf,?_⟩;unfold sw iC;generalize (spots k.aD k.ext).1=l at hge hsz hct hl;have hmono:∀i,i<=l.length->((l.take i).foldl (uh p (decide (k.aD=48862))) k.ext).length=k.ext.length:=by
  intro i;induction i with
  |zero=>intro _;rfl
  |succ i ih=>
   intro hi;have hk:i<l.length:=by omega
   have hm:=List.getElem_mem hk;rw[jm hk,List.foldl_append,AP,List.foldl_nil,Yu (hge _ hm) (by rw[ih (by omega)];exact hsz _ hm) (hl _ hm),ih (by omega)]
 refine VC.go_loop (fun i:Nat=> [.int (i:Int),B ((l.take i).foldl (uh p (decide (k.aD=48862))) k.ext)]) (fun i=>i<=l.length) (fun i=>l.length-i) 0 rfl (bK _) fun i hi=>?_;have hlen:=hmono i hi;simp only[aH,aB,aA,ay,aC,forall_const,aT,bE];refine ⟨fun hc=>?_,fun hc=>?_⟩
 .have hk:i<l.length:=by omega
  have hm:=List.getElem_mem hk;have ht:=jm hk;have hg:(l.map wO).getD (i:Int).toNat default=wO l[i]:=by simp[List.getD,hk]
  rw[hg];generalize l[i]=s at ht hm;have hge:=hge s hm;have hsz:=hsz s hm;have hl:=hl s hm;have hnext:(l.take (i+1)).foldl (uh p (decide (k.aD=48862))) k.ext=uh p (decide (k.aD=48862)) ((l.take i).foldl (uh p (decide (k.aD=48862))) k.ext) s:=by rw[ht,List.foldl_append];rfl
  generalize (l.take i).foldl (uh p (decide (k.aD=48862))) k.ext=x at hlen hnext;have hst:uh p (decide (k.aD=48862)) x s=(if (s.id:Int)∈aZ p.over then putAt (if (s.id:Int)∈p.maps.map (·.fr) then putAt x (s.pos-Plain.ahead (decide (k.aD=48862))) [nV (decide (k.aD=48862)) (newId p s.id) (at_ x (s.pos-Plain.ahead (decide (k.aD=48862))))] else x) s.pos (j5 p s.id []) else (if (s.id:Int)∈p.maps.map (·.fr) then putAt x (s.pos-Plain.ahead (decide (k.aD=48862))) [nV (decide (k.aD=48862)) (newId p s.id) (at_ x (s.pos-Plain.ahead (decide (k.aD=48862))))] else x)):=rfl;rw[hst] at hnext;simp only[gJ,gX,bU,gM,if_true];have CP:(s.id:Int)∈p.maps.map (·.fr)->1<=newId p s.id/\newId p s.id<=255:=fun h=>by
   obtain ⟨m,hm,_,e⟩:=aqb h;have:=vH hp.2.2.1 m.to (gK.2 ⟨m,hm,rfl⟩);rw[e];exact this
  by_cases hmp:(s.id:Int)∈p.maps.map (·.fr)
  .rw[if_pos hmp] at hnext;have CP:=CP hmp;simp only[NS n1 hmp,gJ,gX,Option.isSome_some,iR,true_implies,bU,reduceCtorEq,false_implies,and_true];by_cases hov:(s.id:Int)∈aZ p.over
   .rw[if_pos hov] at hnext;have hl:=hl hov;simp only[NG n3 [] hov,gJ,gX,gM,bE,Option.isSome_some,iR,true_implies,reduceCtorEq,false_implies,and_true];refine ⟨by omega,by omega,fun hq=>?_,fun hq=>?_⟩
    .have hq2:decide (k.aD=48862)=true:=decide_eq_true (by omega);rw[hq2] at hnext hge;have ha:Plain.ahead true=1:=rfl;rw[ha] at hnext hge;refine ⟨by omega,by omega,by omega,by omega,by omega,by omega,by omega,by omega,by omega,by omega,i+1,?_,by omega,by omega⟩;have e1:((s.pos:Int)-1).toNat=s.pos-1:=by omega
     have e2:((k.ext.length:Int)-(s.pos:Int)).toNat=k.ext.length-s.pos:=by omega
     rw[hq2,hnext,e1,e2,lH,bU,qE,NV _ CP _ (gq x (s.pos-1)),Dv,HY _ _ _ (by omega),bO,Nu _ _ _ _ (Int.toNat 0) (by rw[Dt _ _ _ (by simp;omega)];omega) (by omega) rfl];rfl
    .have hq2:decide (k.aD=48862)=false:=decide_eq_false (by omega);rw[hq2] at hnext hge;have ha:Plain.ahead false=2:=rfl;rw[ha] at hnext hge;refine ⟨by omega,by omega,by omega,by omega,by omega,by omega,by omega,i+1,?_,by omega,by omega⟩;have e1:((s.pos:Int)-2).toNat=s.pos-2:=by omega
     have e2:((k.ext.length:Int)-(s.pos:Int)).toNat=k.ext.length-s.pos:=by omega
     rw[hq2,hnext,e1,e2,Ng _ CP (at_ x (s.pos-2)),Dv,HY _ _ _ (by omega),bO,Nu _ _ _ _ (Int.toNat 0) (by rw[Dt _ _ _ (by simp;omega)];omega) (by omega) rfl];rfl
   .rw[if_neg hov] at hnext;simp only[NH n3 hov,Option.isSome_none,iR,true_implies,reduceCtorEq,false_implies,true_and];refine ⟨by omega,by omega,fun hq=>?_,fun hq=>?_⟩
    .have hq2:decide (k.aD=48862)=true:=decide_eq_true (by omega);rw[hq2] at hnext hge;have ha:Plain.ahead true=1:=rfl;rw[ha] at hnext hge;refine ⟨by omega,by omega,by omega,by omega,by omega,by omega,by omega,i+1,?_,by omega,by omega⟩;have e1:((s.pos:Int)-1).toNat=s.pos-1:=by omega
     rw[hq2,hnext,e1,lH,bU,qE,NV _ CP _ (gq x (s.pos-1)),Dv,HY _ _ _ (by omega)];rfl
    .have hq2:decide (k.aD=48862)=false:=decide_eq_false (by omega);rw[hq2] at hnext hge;have ha:Plain.ahead false=2:=rfl;rw[ha] at hnext hge;refine ⟨by omega,by omega,by omega,by omega,i+1,?_,by omega,by omega⟩;have e1:((s.pos:Int)-2).toNat=s.pos-2:=by omega
     rw[hq2,hnext,e1,Ng _ CP (at_ x (s.pos-2)),Dv,HY _ _ _ (by omega)];rfl
  .rw[if_neg hmp] at hnext;simp only[NT n1 hmp,Option.isSome_none,iR,true_implies,reduceCtorEq,false_implies,true_and];by_cases hov:(s.id:Int)∈aZ p.over
   .rw[if_pos hov] at hnext;have hl:=hl hov;simp only[NG n3 [] hov,gJ,gX,gM,bE,Option.isSome_some,iR,true_implies,reduceCtorEq,false_implies,and_true];refine ⟨by omega,by omega,by omega,by omega,by omega,by omega,i+1,?_,by omega,by omega⟩;have e2:((k.ext.length:Int)-(s.pos:Int)).toNat=k.ext.length-s.pos:=by omega
    rw[hnext,e2,bO,Nu _ _ _ _ (Int.toNat 0) (by omega) (by omega) rfl];rfl
   .rw[if_neg hov] at hnext;simp only[NH n3 hov,Option.isSome_none,iR,true_implies,reduceCtorEq,false_implies,true_and];refine ⟨by omega,by omega,by omega,i+1,?_,by omega,by omega⟩;rw[hnext];rfl
 .have:i=l.length:=by omega
  subst this;rw[eX]
end Go.Vc
