/-
  Contracts of functions of the program, each out of its condition or by a walk, and plain lemmas.
-/
import Derived.Test.YtaehhpempnelhaaGreatDoorQVcs1
import Derived.Test.YtaehhpempnelhaaGreatDoorQTx1
import Derived.Test.YtaehhpempnelhaaGreatDoorQBase3
import Derived.Test.YtaehhpempnelhaaGreatDoorQBase1
import Derived.Lib.ItoaNum
set_option maxRecDepth 100000
namespace Go.Vc
open Go Go.Proofs Go.Plain
abbrev lU:Sh:= .pair I64 (.pair (.sl U8) .unit)
abbrev kT(e:El):C:= .ls [.int e.id,.ls (ofBytes e.data)]
abbrev jL(l:List El):C:= .ls (l.map kT)
theorem Hf(x:Int)(k:Int)(v:C):∀l:List C,gy (lu l k v) x=if k=x then some (.ls [.int k,v]) else gy l x
 | []=>by
  by_cases h:k=x
  .simp[lu,gy,h]
  .simp[lu,gy,h]
 |d::l=>by
  have ih:=Hf x k v l;by_cases h:d.hd.toInt=k
  .rw[lu,if_pos h];by_cases hx:k=x
   .simp[gy,hx]
   .have:¬d.hd.toInt=x:=fun e=>hx (h.symm.trans e);simp[gy,hx,this]
  .rw[lu,if_neg h];by_cases hd:d.hd.toInt=x
   .have:¬k=x:=fun e=>h (hd.trans e.symm);simp[gy,hd,this]
   .have e1:gy (d::lu l k v) x=gy (lu l k v) x:=by simp[gy,hd]
    have e2:gy (d::l) x=gy l x:=by simp[gy,hd]
    rw[e1,ih,e2]
def gV(m:List C)(x:Int):Bool:=(match gy m x with|some d=>d.tl.hd|none=>C.bool false).toBool
theorem wU(x:Int):gV [] x=false:=rfl
theorem zm(m:List C)(k x:Int):gV (lu m k (.bool true)) x=if k=x then true else gV m x:=by
 unfold gV;rw[Hf];by_cases h:k=x<;>simp[h]
theorem zR(l:List El)(i:Nat)(h:i<l.length):(l.map kT).getD ((i:Int)).toNat default=kT (l.getD i El.zero):=by simp[List.getD,h]
theorem IZ(l:List El)(i:Nat)(h:i<l.length):l.take (i+1)=l.take i++ [l.getD i El.zero]:=by rw[jm h];simp[List.getD,h]
theorem E8{l:List El}{i:Nat}(h:i<l.length):l.getD i El.zero∈l:=by simp[List.getD,h]
structure F9 where
 k:Nat
 m:List C
theorem K9(l:List El)(hl:l.length<=1000000):PC Tryz.prog WL [(.sl lU,jL l)] [(.bool,.bool (decide (iM l)))]:=by
 apply ahY rfl;simp only[UU,aH,aB,aA,ay,aC,forall_const,aT];refine VC.go_loop (fun s:F9=> [.bool false,.int (s.k:Int),.ls s.m]) (fun s=>s.k<=l.length/\(∀j,j<s.k->vU l j)/\∀x:Int,gV s.m x=decide (x∈aZ (l.take s.k))) (fun s=>l.length-s.k) ⟨0,[]⟩ rfl
  ⟨bK _,fun j hj=>absurd hj (Nat.not_lt_zero j),fun x=>by simp[wU,aZ]⟩ fun s hs=>?_
 obtain ⟨i1,i2,i3⟩:=hs;simp only[aH,aB,aA,ay,aC,forall_const,aT];refine ⟨fun hc=>?_,fun hc=>?_⟩
 .have hk:s.k<l.length:=by omega
  have hg:(l.map kT).getD ((s.k:Int)).toNat default=kT (l.getD s.k El.zero):=by simp[List.getD,hk]
  rw[hg];have hat:vU l s.k↔1<=(l.getD s.k El.zero).id/\(l.getD s.k El.zero).id<=255/\(l.getD s.k El.zero).data.length<=255/\(l.getD s.k El.zero).id∉aZ (l.take s.k):=Iff.rfl;have htk:l.take (s.k+1)=l.take s.k++ [l.getD s.k El.zero]:=by rw[jm hk];simp[List.getD,hk]
  generalize l.getD s.k El.zero=e at hat htk;have hm:=i3 e.id;simp only[gJ,gX,bU,gM,bE,if_true];refine ⟨by omega,by omega,fun h=>?_,fun h=>?_⟩
  .have h:((e.id<1\/255<e.id)\/gV s.m e.id=true)\/(255:Int)<e.data.length:=h;rw[hm,bR] at h;have hn:¬iM l:=fun hr=>by
    have h1:=hat.1 (hr s.k hk);rcases h with (h|h)|h
    .omega
    .exact h1.2.2.2 h
    .omega
   rw[decide_eq_false hn]
  .have h:¬((e.id<1\/255<e.id)\/gV s.m e.id=true)/\(e.data.length:Int)<=255:=h;rw[hm,bR] at h
   .have hin:¬e.id∈aZ (l.take s.k):=fun hh=>h.1 (.inr hh);have h2:¬(e.id<1\/255<e.id):=fun hh=>h.1 (.inl hh);have hok:1<=e.id/\e.id<=255/\e.data.length<=255:=by omega
    refine ⟨by omega,⟨s.k+1,_⟩,by simp;rfl,⟨by simp only;omega,fun j hj=>?_,fun x=>?_⟩,by simp only;omega⟩
    .by_cases hjk:j=s.k
     .rw[hjk];exact hat.2 ⟨hok.1,hok.2.1,hok.2.2,hin⟩
     .simp only at hj;exact i2 j (by omega)
    .simp only;rw[zm,i3,htk];by_cases hx:e.id=x
     .rw[if_pos hx];simp[aZ,hx]
     .have:¬x=e.id:=fun h=>hx h.symm;rw[if_neg hx];simp[aZ,this]
 .have he:s.k=l.length:=by omega
  rw[decide_eq_true (show iM l from fun j hj=>i2 j (by omega))]
def abJ(l:List El):Bool:=decide ((∀e∈l,e.data.length<=400)/\l.length<=300)
abbrev wm:Sh:= .pair I64 (.pair I64 .unit)
abbrev qF(m:Mp):C:= .ls [.int m.fr,.int m.to]
abbrev yZ(l:List Mp):C:= .ls (l.map qF)
abbrev Ints(l:List Int):C:= .ls (l.map .int)
theorem IL(l:List Mp)(i:Nat)(h:i<l.length):(l.map qF).getD i default=qF (l.getD i Mp.zero):=by simp[List.getD,h]
theorem Iu(l:List Int)(i:Nat)(h:i<l.length):(l.map C.int).getD i default= .int (l.getD i 0):=by simp[List.getD,h]
theorem ajJ(m:Mp):PC Tryz.prog LK [(wm,qF m)] [(I64,.int m.fr)]:=by
 apply aiL rfl;simp only[VD,aH,aB,aA,ay,aC,forall_const]
theorem alr(m:Mp):PC Tryz.prog MI [(wm,qF m)] [(I64,.int m.to)]:=by
 apply akj rfl;simp only[X3,aH,aB,aA,ay,aC,forall_const]
theorem ah8(n:Int):PC Tryz.prog La [(I64,.int n)] [(I64,.int n)]:=by
 apply agH rfl;simp only[Ti,aH,aB,aA,ay,aC,forall_const]
theorem agu(l:List Mp)(hl:l.length<=1000000):PC Tryz.prog Qz [(.sl wm,yZ l),(.eU LK,.ls [])] [(.bool,.bool (decide (iL (l.map (·.fr)))))]:=by
 apply ae4 rfl;simp only[Qw,aH,aB,aA,ay,aC,forall_const,aT];refine VC.go_loop (fun s:F9=> [.bool false,.int (s.k:Int),.ls s.m]) (fun s=>s.k<=l.length/\(∀j,j<s.k->nC (l.map (·.fr)) j)/\∀x:Int,gV s.m x=decide (x∈(l.map (·.fr)).take s.k)) (fun s=>l.length-s.k) ⟨0,[]⟩ rfl
  ⟨bK _,fun j hj=>absurd hj (Nat.not_lt_zero j),fun x=>by simp[wU]⟩ fun s hs=>?_
 obtain ⟨i1,i2,i3⟩:=hs;simp only[aH,aB,aA,ay,aC,forall_const,aT];refine ⟨fun hc=>?_,fun hc=>?_⟩
 .have hk:s.k<l.length:=by omega
  have hv:(l.map (·.fr)).getD s.k 0=((l.getD s.k Mp.zero).fr):=by simp[List.getD,hk]
  have hat:nC (l.map (·.fr)) s.k↔1<=((l.getD s.k Mp.zero).fr)/\((l.getD s.k Mp.zero).fr)<=255/\((l.getD s.k Mp.zero).fr)∉(l.map (·.fr)).take s.k:=by unfold nC;rw[hv]
  have htk:(l.map (·.fr)).take (s.k+1)=(l.map (·.fr)).take s.k++ [((l.getD s.k Mp.zero).fr)]:=by rw[jm (by simpa using hk),<-hv];simp[List.getD,hk]
  rw[bO,IL l s.k hk];try simp only[gJ,gX,bU,gM]
  refine ⟨by omega,by omega,_,ajJ _,?_⟩;simp only[bU];generalize ((l.getD s.k Mp.zero).fr)=e at hat htk;have hm:=i3 e;refine ⟨fun h=>?_,fun h=>?_⟩
  .have h:(e<1\/255<e)\/gV s.m e=true:=by
    rcases h with h|h
    .exact .inl h
    .rw[if_pos trivial] at h;exact .inr h
   rw[hm,bR] at h;have hn:¬iL (l.map (·.fr)):=fun hr=>by
    have h1:=hat.1 (hr s.k (by simpa using hk));rcases h with h|h
    .omega
    .exact h1.2.2 h
   rw[decide_eq_false hn]
  .have h:¬(e<1\/255<e)/\gV s.m e=false:=⟨h.1,by have h2:=h.2;rw[if_pos trivial] at h2;exact h2⟩;rw[hm,kP] at h;refine ⟨by omega,⟨s.k+1,_⟩,by simp;rfl,⟨by simp only;omega,fun j hj=>?_,fun x=>?_⟩,by simp only;omega⟩
   .by_cases hjk:j=s.k
    .rw[hjk];exact hat.2 ⟨by omega,by omega,h.2⟩
    .simp only at hj;exact i2 j (by omega)
   .simp only;rw[zm,i3,htk];by_cases hx:e=x
    .rw[if_pos hx];simp[hx]
    .have:¬x=e:=fun h=>hx h.symm;rw[if_neg hx];simp[this]
 .have he:s.k=l.length:=by omega
  rw[decide_eq_true (show iL (l.map (·.fr)) from fun j hj=>i2 j (by first|(simp at hj;omega)|omega))]
theorem aij(l:List Mp)(hl:l.length<=1000000):PC Tryz.prog QF [(.sl wm,yZ l),(.eU MI,.ls [])] [(.bool,.bool (decide (iL (l.map (·.to)))))]:=by
 apply ae7 rfl;simp only[QB,aH,aB,aA,ay,aC,forall_const,aT];refine VC.go_loop (fun s:F9=> [.bool false,.int (s.k:Int),.ls s.m]) (fun s=>s.k<=l.length/\(∀j,j<s.k->nC (l.map (·.to)) j)/\∀x:Int,gV s.m x=decide (x∈(l.map (·.to)).take s.k)) (fun s=>l.length-s.k) ⟨0,[]⟩ rfl
  ⟨bK _,fun j hj=>absurd hj (Nat.not_lt_zero j),fun x=>by simp[wU]⟩ fun s hs=>?_
 obtain ⟨i1,i2,i3⟩:=hs;simp only[aH,aB,aA,ay,aC,forall_const,aT];refine ⟨fun hc=>?_,fun hc=>?_⟩
 .have hk:s.k<l.length:=by omega
  have hv:(l.map (·.to)).getD s.k 0=((l.getD s.k Mp.zero).to):=by simp[List.getD,hk]
  have hat:nC (l.map (·.to)) s.k↔1<=((l.getD s.k Mp.zero).to)/\((l.getD s.k Mp.zero).to)<=255/\((l.getD s.k Mp.zero).to)∉(l.map (·.to)).take s.k:=by unfold nC;rw[hv]
  have htk:(l.map (·.to)).take (s.k+1)=(l.map (·.to)).take s.k++ [((l.getD s.k Mp.zero).to)]:=by rw[jm (by simpa using hk),<-hv];simp[List.getD,hk]
  rw[bO,IL l s.k hk];try simp only[gJ,gX,bU,gM]
  refine ⟨by omega,by omega,_,alr _,?_⟩;simp only[bU];generalize ((l.getD s.k Mp.zero).to)=e at hat htk;have hm:=i3 e;refine ⟨fun h=>?_,fun h=>?_⟩
  .have h:(e<1\/255<e)\/gV s.m e=true:=by
    rcases h with h|h
    .exact .inl h
    .rw[if_pos trivial] at h;exact .inr h
   rw[hm,bR] at h;have hn:¬iL (l.map (·.to)):=fun hr=>by
    have h1:=hat.1 (hr s.k (by simpa using hk));rcases h with h|h
    .omega
    .exact h1.2.2 h
   rw[decide_eq_false hn]
  .have h:¬(e<1\/255<e)/\gV s.m e=false:=⟨h.1,by have h2:=h.2;rw[if_pos trivial] at h2;exact h2⟩;rw[hm,kP] at h;refine ⟨by omega,⟨s.k+1,_⟩,by simp;rfl,⟨by simp only;omega,fun j hj=>?_,fun x=>?_⟩,by simp only;omega⟩
   .by_cases hjk:j=s.k
    .rw[hjk];exact hat.2 ⟨by omega,by omega,h.2⟩
    .simp only at hj;exact i2 j (by omega)
   .simp only;rw[zm,i3,htk];by_cases hx:e=x
    .rw[if_pos hx];simp[hx]
    .have:¬x=e:=fun h=>hx h.symm;rw[if_neg hx];simp[this]
 .have he:s.k=l.length:=by omega
  rw[decide_eq_true (show iL (l.map (·.to)) from fun j hj=>i2 j (by first|(simp at hj;omega)|omega))]
theorem aik(l:List Int)(hl:l.length<=1000000):PC Tryz.prog QO [(.sl I64,Ints l),(.eU La,.ls [])] [(.bool,.bool (decide (iL l)))]:=by
 apply afa rfl;simp only[QJ,aH,aB,aA,ay,aC,forall_const,aT];refine VC.go_loop (fun s:F9=> [.bool false,.int (s.k:Int),.ls s.m]) (fun s=>s.k<=l.length/\(∀j,j<s.k->nC l j)/\∀x:Int,gV s.m x=decide (x∈l.take s.k)) (fun s=>l.length-s.k) ⟨0,[]⟩ rfl
  ⟨bK _,fun j hj=>absurd hj (Nat.not_lt_zero j),fun x=>by simp[wU]⟩ fun s hs=>?_
 obtain ⟨i1,i2,i3⟩:=hs;simp only[aH,aB,aA,ay,aC,forall_const,aT];refine ⟨fun hc=>?_,fun hc=>?_⟩
 .have hk:s.k<l.length:=by omega
  have hv:l.getD s.k 0=(l.getD s.k 0):=rfl;have hat:nC l s.k↔1<=(l.getD s.k 0)/\(l.getD s.k 0)<=255/\(l.getD s.k 0)∉l.take s.k:=by unfold nC;rw[hv]
  have htk:l.take (s.k+1)=l.take s.k++ [(l.getD s.k 0)]:=by rw[jm (by simpa using hk),<-hv];simp[List.getD,hk]
  rw[bO,Iu l s.k hk];try simp only[gJ,gX,bU,gM]
  refine ⟨by omega,by omega,_,ah8 _,?_⟩;simp only[bU];generalize (l.getD s.k 0)=e at hat htk;have hm:=i3 e;refine ⟨fun h=>?_,fun h=>?_⟩
  .have h:(e<1\/255<e)\/gV s.m e=true:=by
    rcases h with h|h
    .exact .inl h
    .rw[if_pos trivial] at h;exact .inr h
   rw[hm,bR] at h;have hn:¬iL l:=fun hr=>by
    have h1:=hat.1 (hr s.k (by simpa using hk));rcases h with h|h
    .omega
    .exact h1.2.2 h
   rw[decide_eq_false hn]
  .have h:¬(e<1\/255<e)/\gV s.m e=false:=⟨h.1,by have h2:=h.2;rw[if_pos trivial] at h2;exact h2⟩;rw[hm,kP] at h;refine ⟨by omega,⟨s.k+1,_⟩,by simp;rfl,⟨by simp only;omega,fun j hj=>?_,fun x=>?_⟩,by simp only;omega⟩
   .by_cases hjk:j=s.k
    .rw[hjk];exact hat.2 ⟨by omega,by omega,h.2⟩
    .simp only at hj;exact i2 j (by omega)
   .simp only;rw[zm,i3,htk];by_cases hx:e=x
    .rw[if_pos hx];simp[hx]
    .have:¬x=e:=fun h=>hx h.symm;rw[if_neg hx];simp[this]
 .have he:s.k=l.length:=by omega
  rw[decide_eq_true (show iL l from fun j hj=>i2 j (by first|(simp at hj;omega)|omega))]
abbrev eu:Sh:= .pair .bool (.pair .bool (.pair .bool (.pair I64 (.pair .bool (.pair (.int .u16) (.pair .bool (.pair (.int .u32) (.pair .bool (.pair (.int .u32) (.pair (.sl wm) (.pair (.sl lU) (.pair (.sl I64) (.pair (.sl lU) (.pair .bool .unit))))))))))))))
abbrev eD(p:Pl):C:= .ls [.bool p.sm,.bool p.m,.bool p.st,.int p.ty,.bool p.sq,.int p.seq,.bool p.bL,.int p.time,.bool p.ss,.int p.aN,yZ p.maps,jL p.over,Ints p.drops,jL p.adds,.bool p.np]
def pX(l:List Int):List C:=l.foldl (fun m d=>lu m d (.bool true)) []
theorem aj5(l:List Int)(x:Int):pX (l++ [x])=lu (pX l) x (.bool true):=by unfold pX;rw[List.foldl_append];rfl
theorem WT(x:Int):∀(l:List Int) (m:List C),gV (l.foldl (fun m d=>lu m d (.bool true)) m) x=(gV m x||decide (x∈l))
 | [],m=>by simp
 |y::l,m=>by
  rw[AP,WT x l,zm];by_cases h:y=x
  .simp[h]
  .have:¬x=y:=fun e=>h e.symm;simp[h,this]
theorem G6(l:List Int)(x:Int):gV (pX l) x=decide (x∈l):=by
 unfold pX;rw[WT,wU,Bool.false_or]
theorem K6(p:Pl)(h:iE p):PC Tryz.prog Wo [(eu,eD p)] [(.mp .i64 .bool,.ls (pX p.drops))]:=by
 obtain ⟨_,_,hl,_⟩:=h;apply ahG rfl;simp only[Ux,aH,aB,aA,ay,aC,forall_const,aT];refine VC.go_loop (fun i:Nat=> [.int (i:Int),.ls (pX (p.drops.take i))]) (fun i=>i<=p.drops.length) (fun i=>p.drops.length-i) 0 rfl (bK _) fun i hi=>?_;simp only[aH,aB,aA,ay,aC,forall_const,aT];refine ⟨fun hc=>?_,fun hc=>?_⟩
 .have hk:i<p.drops.length:=by omega
  rw[bO,Iu _ i hk];refine ⟨by omega,by omega,by omega,i+1,?_,by omega,by omega⟩;rw[jm hk,aj5];simp[List.getD,hk]
 .have:i=p.drops.length:=by omega
  subst this;rw[eX]
theorem U6(p:Pl)(h:iE p):PC Tryz.prog Wp [(eu,eD p)] [(.bool,.bool (decide (fT p)))]:=by
 have hh:=h;obtain ⟨h1,h2,h3,h4⟩:=h;apply ahH rfl;simp only[Uy,aH,aB,aA,ay,aC,forall_const,aT];refine ⟨fun h=>?_,fun g1=>⟨fun h=>?_,fun g2=>⟨_,agu p.maps h1,_,fun _=>aij p.maps h1,_,fun _=>aik p.drops h3,fun h=>?_,fun g3=>⟨_,K9 p.over h2,_,fun _=>K9 p.adds h4,fun h=>?_,fun g4=>⟨_,K6 p hh,?_⟩⟩⟩⟩⟩
 .have:¬fT p:=by
   rintro ⟨⟨f1,f2,f3,f4,f5,f6,f7⟩,_⟩;rcases h with (⟨a,b⟩|⟨a,b⟩)|⟨a,b⟩<;>simp_all
  rw[decide_eq_false this]
 .have:¬fT p:=by
   rintro ⟨⟨f1,f2,f3,f4,f5,f6,f7⟩,_⟩;rcases h with ((⟨a,b⟩|⟨a,b⟩)|h)|h
   .simp_all
   .simp_all
   .omega
   .omega
  rw[decide_eq_false this]
 .have:¬fT p:=by
   rintro ⟨_,r1,r2,r3,_⟩;simp only[iR,kP] at h;rcases h with (h|h)|h
   .exact h r1
   .exact h r2
   .exact h r3
  rw[decide_eq_false this]
 .have:¬fT p:=by
   rintro ⟨_,_,_,_,r1,r2,_⟩;simp only[iR,kP] at h;rcases h with h|h
   .exact h r1
   .exact h r2
  rw[decide_eq_false this]
 simp only[iR,kP,bR,not_or,Decidable.not_not] at g3 g4;have gf:IW p:=by
  refine ⟨?_,?_,?_,?_,?_,by omega,by omega⟩
  .cases hb:p.sm<;>cases hc:p.m<;>simp_all
  .cases hb:p.st<;>simp_all
  .cases hb:p.sq<;>simp_all
  .cases hb:p.bL<;>simp_all
  .cases hb:p.ss<;>simp_all
 refine VC.go_loop (fun i:Nat=> [.bool false,.int (i:Int)]) (fun i=>i<=p.maps.length/\∀m∈p.maps.take i,m.fr∉p.drops) (fun i=>p.maps.length-i) 0 rfl ⟨bK _,by simp⟩ fun i hi=>?_;obtain ⟨i1,i2⟩:=hi;simp only[aH,aB,aA,ay,aC,forall_const,aT];refine ⟨fun hc=>?_,fun hc=>?_⟩
 .have hk:i<p.maps.length:=by omega
  rw[bO,IL p.maps i hk];have hm:p.maps.getD i Mp.zero∈p.maps:=by simp[List.getD,hk]
  have ht:p.maps.take (i+1)=p.maps.take i++ [p.maps.getD i Mp.zero]:=by rw[jm hk];simp[List.getD,hk]
  generalize p.maps.getD i Mp.zero=e at hm ht;simp only[gJ,gM,bU,if_true];refine ⟨by omega,by omega,fun h=>?_,fun h=>⟨by omega,i+1,by simp,⟨by omega,?_⟩,by omega⟩⟩
  .have:¬fT p:=by
    rintro ⟨_,_,_,_,_,_,r,_⟩;have h:gV (pX p.drops) e.fr=true:=h;rw[G6,bR] at h;exact r _ h (gK.2 ⟨e,hm,rfl⟩)
   rw[decide_eq_false this]
  .rw[ht];intro m hm2;rcases iZ.1 hm2 with hm2|hm2
   .exact i2 m hm2
   .rw[List.mem_singleton] at hm2;rw[hm2];have h:gV (pX p.drops) e.fr=false:=h;rw[G6,kP] at h;exact h
 .have:i=p.maps.length:=by omega
  subst this;rw[eX] at i2;refine VC.go_loop (fun k:Nat=> [.bool false,.int (k:Int)]) (fun k=>k<=p.over.length/\∀m∈p.over.take k,m.id∉p.drops) (fun k=>p.over.length-k) 0 rfl ⟨bK _,by simp⟩ fun k hk=>?_;obtain ⟨k1,k2⟩:=hk;simp only[aH,aB,aA,ay,aC,forall_const,aT];refine ⟨fun hc=>?_,fun hc=>?_⟩
  .have hk:k<p.over.length:=by omega
   rw[zR p.over k hk];have hm:=E8 hk;have ht:=IZ p.over k hk;generalize p.over.getD k El.zero=e at hm ht;simp only[gJ,gM,bU,if_true];refine ⟨by omega,by omega,fun h=>?_,fun h=>⟨by omega,k+1,by simp,⟨by omega,?_⟩,by omega⟩⟩
   .have:¬fT p:=by
     rintro ⟨_,_,_,_,_,_,_,r⟩;have h:gV (pX p.drops) e.id=true:=h;rw[G6,bR] at h;exact r _ h (gK.2 ⟨e,hm,rfl⟩)
    rw[decide_eq_false this]
   .rw[ht];intro m hm2;rcases iZ.1 hm2 with hm2|hm2
    .exact k2 m hm2
    .rw[List.mem_singleton] at hm2;rw[hm2];have h:gV (pX p.drops) e.id=false:=h;rw[G6,kP] at h;exact h
  .have:k=p.over.length:=by omega
   subst this;rw[eX] at k2;have:fT p:=by
    refine ⟨gf,g3.1.1,g3.1.2,g3.2,g4.1,g4.2,fun d hd hm=>?_,fun d hd hm=>?_⟩
    .obtain ⟨m,hm1,rfl⟩:=gK.1 hm;exact i2 m hm1 hd
    .obtain ⟨m,hm1,rfl⟩:=gK.1 hm;exact k2 m hm1 hd
   rw[decide_eq_true this]
def aa3(p:Pl):Prop:=p.maps.length<=300/\p.drops.length<=300/\abJ p.over=true/\abJ p.adds=true
instance(p:Pl):Decidable (aa3 p):=by unfold aa3;infer_instance
theorem Du(p:Pl):PC Tryz.prog XA [(eu,eD p)] [(.bool,.bool (decide (p.drops≠[]\/p.adds≠[])))]:=by
 apply aiM rfl;simp only[VE,aH,aB,aA,ay,aC,forall_const,aT];generalize p.drops=d;generalize p.adds=a;cases d<;>cases a<;>simp<;>omega
theorem KG(p:Pl):PC Tryz.prog SN [(eu,eD p)] [(.bool,.bool (decide (p.maps≠[]\/p.over≠[]\/p.drops≠[]\/p.adds≠[])))]:=by
 apply afL rfl;simp only[RS,aH,aB,aA,ay,aC,forall_const,aT];refine ⟨_,fun _=>Du p,?_⟩;congr 2
 generalize p.maps=a1;generalize p.over=a2;generalize p.drops=a3;generalize p.adds=a4;cases a1<;>cases a2<;>cases a3<;>cases a4<;>simp<;>omega
theorem ai8(p:Pl):PC Tryz.prog Ws [(eu,eD p)] [(.bool,.bool (decide (p=Pl.zero)))]:=by
 apply ahJ rfl;simp only[UA,aH,aB,aA,ay,aC,forall_const,aT];refine ⟨_,fun _=>KG p,?_⟩;obtain ⟨a1,a2,a3,a4,a5,a6,a7,a8,a9,a10,a11,a12,a13,a14,a15⟩:=p;congr 2
 by_cases h:(⟨a1,a2,a3,a4,a5,a6,a7,a8,a9,a10,a11,a12,a13,a14,a15⟩:Pl)=Pl.zero
 .rw[decide_eq_true h];simp only[Pl.zero,Pl.mk.injEq] at h;obtain ⟨rfl,rfl,rfl,rfl,rfl,rfl,rfl,rfl,rfl,rfl,rfl,rfl,rfl,rfl,rfl⟩:=h;simp
 .rw[decide_eq_false h];simp only[Pl.zero,Pl.mk.injEq] at h;simp;intros
  simp_all
open Go.Lib (decDigits nDigits)
def xC:List UInt8:=[109,97,114,107,101,114]
def uR:List UInt8:=[111,110]
def uz:List UInt8:=[111,102,102]
def xQ:List UInt8:=[116,121,112,101]
def yu:List UInt8:=[115,101,113]
def xR:List UInt8:=[116,105,109,101]
def xS:List UInt8:=[115,115,114,99]
def sH:List UInt8:=[109,97,112]
def pY:List UInt8:=[111,118,101,114]
def rZ:List UInt8:=[100,114,111,112]
def qg:List UInt8:=[97,100,100]
def xI:List UInt8:=[110,111,112,97,100]
abbrev fG(n:Int):List UInt8:=decDigits n.toNat
def tk1(p:Pl):List (List UInt8):=if p.sm then [xC,if p.m then uR else uz] else []
def tk2(p:Pl):List (List UInt8):=if p.st then [xQ,fG p.ty] else []
def tk3(p:Pl):List (List UInt8):=if p.sq then [yu,fG p.seq] else []
def tk4(p:Pl):List (List UInt8):=if p.bL then [xR,fG p.time] else []
def wD(p:Pl):List (List UInt8):=if p.ss then [xS,fG p.aN] else []
def qz(l:List Mp):List (List UInt8):=l.flatMap fun m=> [sH,fG m.fr,fG m.to]
def mU(w:List UInt8)(l:List El):List (List UInt8):=l.flatMap fun e=> [w,fG e.id,qs e.data]
def qA(l:List Int):List (List UInt8):=l.flatMap fun d=> [rZ,fG d]
def wC(p:Pl):List (List UInt8):=if p.np then [xI] else []
def toks(p:Pl):List (List UInt8):=tk1 p++(tk2 p++(tk3 p++(tk4 p++(wD p++(qz p.maps++(mU pY p.over++(qA p.drops++(mU qg p.adds++wC p))))))))
def qI(p:Pl):List UInt8:=iN (toks p)
def iy(ts:List (List UInt8)):List UInt8:=ts.flatMap (32::·)
theorem amM(a b:List (List UInt8)):iy (a++b)=iy a++iy b:=by simp[iy]
theorem Yv:∀ts:List (List UInt8),ts≠[]->iy ts=32::iN ts
 | [],h=>absurd rfl h
 | [w],_=>by simp[iy,iN]
 |w::v::r,_=>by
  have ih:=Yv (v::r) (by simp);have e:iy (w::v::r)=(32::w)++iy (v::r):=by simp[iy]
  have e2:iN (w::v::r)=w++32::iN (v::r):=rfl;rw[e,ih,e2];simp
theorem alL(ts:List (List UInt8)):(iy ts).drop 1=iN ts:=by
 by_cases h:ts=[]
 .subst h;rfl
 .rw[Yv ts h];rfl
theorem adN:∀(k n:Nat),n<10^(k+1)->nDigits n<=k+1
 |0,n,h=>by rw[Go.Lib.nDigits_small (by simpa using h)];exact aI _
 |k+1,n,h=>by
  by_cases h10:n<10
  .rw[Go.Lib.nDigits_small h10];omega
  .rw[Go.Lib.nDigits_big h10];have:=adN k (n/10) (by rw[Nat.pow_succ] at h;omega);omega
theorem apq{n:Nat}(h:n<4294967296):1<=(decDigits n).length/\(decDigits n).length<=10:=by
 rw[Go.Lib.decDigits_length];exact ⟨Go.Lib.nDigits_pos n,adN 9 n (by omega)⟩
theorem Jl{l:List El}(h:iM l):∀e∈l,1<=e.id/\e.id<=255/\e.data.length<=255:=by
 intro x hx;obtain ⟨j,hj⟩:=List.getElem?_of_mem hx;have hlt:=(dF.1 hj).1;have:=h j hlt;unfold vU at this;have e:l.getD j El.zero=x:=by simp[List.getD,hj]
 rw[e] at this;exact ⟨this.1,this.2.1,this.2.2.1⟩
end Go.Vc
