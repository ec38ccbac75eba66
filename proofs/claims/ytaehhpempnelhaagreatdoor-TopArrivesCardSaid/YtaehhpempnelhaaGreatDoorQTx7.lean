/-
  Contracts of functions of the program, each out of its condition or by a walk, and plain lemmas.
-/
import Derived.Test.YtaehhpempnelhaaGreatDoorQVcs1
import Derived.Test.YtaehhpempnelhaaGreatDoorQTx2
import Derived.Test.YtaehhpempnelhaaGreatDoorQTx6
import Derived.Test.YtaehhpempnelhaaGreatDoorQBase3
import Derived.Test.YtaehhpempnelhaaGreatDoorQTx5
set_option maxRecDepth 100000
namespace Go.Vc
open Go Go.Proofs Go.Plain
theorem PG(n:Nat)(h:n<9223372036854775807):arith .rem .i64 (n:Int) 4=((n%4:Nat):Int):=by
 rw[MR _ _ _ (by omega)];omega
theorem acu(x:Nat)(h:x<256):arith .shr .u8 (x:Int) 4=((x/16:Nat):Int):=qU .u8 x 4 (by decide)
theorem Oy(x:Nat)(h:x<256):arith .and .u8 (x:Int) 15=((x%16:Nat):Int):=by
 have:=zq (k:= .u8) rfl (a:=x) (b:=15) h (by decide);rw[show ((15:Nat):Int)=15 from rfl] at this;rw[this,Nat.and_two_pow_sub_one_eq_mod x 4]
theorem ah5(x:Nat)(h:x<256):PC Tryz.prog Rc [(.unit,.ls []),(U8,.int (x:Int))] [(.bool,.bool (decide (x/16=15\/x/16=0)))]:=by
 apply afi rfl;simp only[QY,aH,aB,aA,ay,aC,acu x h];have e:(if (decide (((x/16:Nat):Int)=15))=true then true else decide (((x/16:Nat):Int)=0))=decide (x/16=15\/x/16=0):=by
  rw[Bool.eq_iff_iff];by_cases h1:x/16=15
  .simp[h1]
  .have e1:¬((x/16:Nat):Int)=15:=by omega
   rw[if_neg (by simpa using e1)];simp only[bR,h1,false_or];omega
 first
  |(rw[<-e];simp)
  |(simp only[bR] at e |-;rw[e])
theorem aii(x:Nat):PC Tryz.prog Rf [(.unit,.ls []),(U8,.int (x:Int))] [(.bool,.bool false)]:=by
 apply afj rfl;simp only[QZ,aH,aB,aA]
theorem ag1(b:List UInt8)(h:0<b.length):PC Tryz.prog Q0 [(.unit,.ls []),(aQ,B b)] [(yH,.ls [.int ((at_ b 0/16:Nat):Int),.int 1,.int ((at_ b 0%16+1:Nat):Int)]),(.bool,.bool true)]:=by
 have hx:=gq b 0;apply afd rfl;simp only[QN,aH,aB,aA,ay,aC,forall_const,bE,lH,Int.toNat_zero,qE,acu _ hx,Oy _ hx];rw[je (by omega),je (by omega)];refine ⟨by omega,by omega,by omega,?_⟩;simp
theorem ag9(b:List UInt8)(h:2<=b.length):PC Tryz.prog KD [(.unit,.ls []),(aQ,B b)] [(yH,.ls [.int ((at_ b 0:Nat):Int),.int 2,.int ((at_ b 1:Nat):Int)]),(.bool,.bool true)]:=by
 have hx:=gq b 0;have hy:=gq b 1;apply QM rfl;simp only[KC,aH,aB,aA,ay,aC,forall_const,bE,lH,Int.toNat_zero,Int.toNat_one,qE];rw[je (by omega),je (by omega)];refine ⟨fun hc=>by omega,fun _=>⟨by omega,by omega,rfl⟩⟩
theorem ag8(b:List UInt8)(h:b.length<2):PC Tryz.prog KD [(.unit,.ls []),(aQ,B b)] [(yH,.ls [.int 0,.int 0,.int 0]),(.bool,.bool false)]:=by
 apply QM rfl;simp only[KC,aH,aB,aA,ay,aC,forall_const,bE];refine ⟨fun hc=>trivial,fun hc=>by omega⟩
theorem F6(b:List UInt8)(k:Nat):B (b.drop k)=C.ls (List.drop k (List.take b.length (ofBytes b))):=by
 rw[jB (by simp),y9]
theorem ZY(l:List Sp)(s:Sp):l.map wO++ [wO s]=(l++ [s]).map wO:=by simp
structure lM where
 p:Nat
 out:List Sp
 m:List C
def lM.enc(s:lM):List C:=[.ls [],.int 0,yX s.out,.int (s.p:Int),.ls s.m]
def lM.inv(ak:Bool)(b:List UInt8)(s:lM):Prop:=s.p<=b.length/\wk ak b 0 []=wk ak b s.p s.out/\(∀x:Nat,gV s.m x=decide (x∈ku s.out))/\s.out.length<=s.p
theorem lM.next{ak:Bool}{b:List UInt8}{s:lM}(h:s.inv ak b)(h0:s.p<b.length)(h1:¬at_ b s.p=0)(h2:¬(ak=true/\(at_ b s.p/16=15\/at_ b s.p/16=0)))(h3:¬(ak=false/\b.length<=s.p+1))
  (h4:¬b.length<(bI ak b s.p).pos+(bI ak b s.p).size) (h5:¬(bI ak b s.p).id∈ku s.out):
  (lM.mk ((bI ak b s.p).pos+(bI ak b s.p).size) (s.out++ [bI ak b s.p]) (lu s.m (bI ak b s.p).id (.bool true))).inv ak b/\b.length-((bI ak b s.p).pos+(bI ak b s.p).size)<b.length-s.p:=by
 obtain ⟨i1,i2,i3,i4⟩:=h;have FY:=D9 ak b s.p;refine ⟨⟨by simp only;omega,?_,fun x=>?_,?_⟩,by omega⟩
 .rw[i2,wk_step h0 h1 h2 h3 h4 h5]
 .simp only;rw[zm,i3];by_cases hx:((bI ak b s.p).id:Int)=x
  .have:(bI ak b s.p).id=x:=by omega
   rw[if_pos hx];simp[ku,this]
  .have:¬x=(bI ak b s.p).id:=by omega
   rw[if_neg hx];simp[ku,this]
 .simp only[bg,sU];omega
theorem aje(b:List UInt8)(hb:b.length<=1000000)(c0:C)(hc0:c0= .ls []):PC Tryz.prog WI [(If1,c0),(aQ,B b)] [(.sl yH,yX (wk true b 0 []).1),(I64,.int (wk true b 0 []).2)]:=by
 subst hc0;apply ahV rfl;simp only[UO,aA];refine VC.go_loop lM.enc (lM.inv true b) (fun s=>b.length-s.p) ⟨0,[],[]⟩ (by simp[lM.enc,E.eval]) ⟨bK _,rfl,fun x=>by simp[wU,ku],aI _⟩ fun s hs=>?_;obtain ⟨i1,i2,i3,i4⟩:=id hs;have hx:=gq b s.p;simp only[lM.enc,aH,aB,aA,ay,aC,forall_const,bE,lH,bO,qE];refine ⟨fun hc=>⟨by omega,by omega,fun hz=>?_,fun hz=>?_⟩,fun hc=>?_⟩
 .refine ⟨by omega,⟨s.p+1,s.out,s.m⟩,by simp,⟨by simp only;omega,?_,i3,by simp only;omega⟩,by simp only;omega⟩;rw[i2,BK (by omega) (by omega)]
 .refine ⟨by omega,by omega,_,ah5 _ hx,?_⟩;simp only[ay,aC];refine ⟨fun he=>?_,fun he=>?_⟩
  .rw[i2,En (by omega) (by omega) ⟨rfl,he⟩]
  .have hbd:=ag1 (b.drop s.p) (by rw[jV];omega);rw[Oj,Nat.add_zero,F6] at hbd;refine ⟨by omega,by omega,by omega,_,_,hbd,?_⟩;simp only[ay,forall_const];refine ⟨fun hf=>by simp at hf,by omega,by omega,fun hl=>?_,fun hl=>⟨fun ht=>?_,fun ht=>?_⟩⟩
   .rw[i2,Eo (by omega) (by omega) (by simp;omega) (by simp) (by simp[bI];omega)];rfl
   .have ht:gV s.m ((at_ b s.p/16:Nat):Int)=true:=ht;rw[i3] at ht;rw[i2,D6 (by omega) (by omega) (by simp;omega) (by simp) (by simp[bI];omega) (by simpa [bI] using ht)];rfl
   .have ht:gV s.m ((at_ b s.p/16:Nat):Int)=false:=ht;rw[i3] at ht;obtain ⟨n1,n2⟩:=lM.next (ak:=true) hs (by omega) (by omega) (by simp;omega) (by simp) (by simp[bI];omega) (by simpa [bI] using ht);refine ⟨?_,by omega,_,?_,n1,n2⟩
    .simp only[aT,bn,zy];omega
    .simp only[bI,if_true];rw[show (1+(s.p:Int))=((s.p+1:Nat):Int) by omega,<-Int.natCast_add];simp only[yX,eB,eZ,jI]
 .rw[i2,vE (by omega)]
theorem ajd(b:List UInt8)(hb:b.length<=1000000)(c0:C)(hc0:c0= .ls []):PC Tryz.prog WH [(If2,c0),(aQ,B b)] [(.sl yH,yX (wk false b 0 []).1),(I64,.int (wk false b 0 []).2)]:=by
 subst hc0;apply ahU rfl;simp only[UN,aA];refine VC.go_loop lM.enc (lM.inv false b) (fun s=>b.length-s.p) ⟨0,[],[]⟩ (by simp[lM.enc,E.eval]) ⟨bK _,rfl,fun x=>by simp[wU,ku],aI _⟩ fun s hs=>?_;obtain ⟨i1,i2,i3,i4⟩:=id hs;have hx:=gq b s.p;have hy:=gq b (s.p+1);simp only[lM.enc,aH,aB,aA,ay,aC,forall_const,bE,lH,bO,qE];refine ⟨fun hc=>⟨by omega,by omega,fun hz=>?_,fun hz=>?_⟩,fun hc=>?_⟩
 .refine ⟨by omega,⟨s.p+1,s.out,s.m⟩,by simp,⟨by simp only;omega,?_,i3,by simp only;omega⟩,by simp only;omega⟩;rw[i2,BK (by omega) (by omega)]
 .refine ⟨by omega,by omega,_,aii _,?_⟩;simp only[ay,forall_const];by_cases h1:b.length<=s.p+1
  .have hbd:=ag8 (b.drop s.p) (by rw[jV];omega);rw[F6] at hbd;refine ⟨fun he=>by simp at he,by omega,by omega,by omega,_,_,hbd,?_⟩;simp only[ay,forall_const];refine ⟨?_,fun hf=>by simp at hf⟩;rw[i2,Ii (by omega) (by omega) (by simp) ⟨rfl,h1⟩];rfl
  .have hbd:=ag9 (b.drop s.p) (by rw[jV];omega);rw[Oj,Oj,Nat.add_zero,F6] at hbd;refine ⟨fun he=>by simp at he,by omega,by omega,by omega,_,_,hbd,?_⟩;simp only[ay,forall_const];refine ⟨fun hf=>by simp at hf,by omega,by omega,fun hl=>?_,fun hl=>⟨fun ht=>?_,fun ht=>?_⟩⟩
   .rw[i2,Eo (by omega) (by omega) (by simp) (by simp;omega) (by simp[bI];omega)];rfl
   .have ht:gV s.m ((at_ b s.p:Nat):Int)=true:=ht;rw[i3] at ht;rw[i2,D6 (by omega) (by omega) (by simp) (by simp;omega) (by simp[bI];omega) (by simpa [bI] using ht)];rfl
   .have ht:gV s.m ((at_ b s.p:Nat):Int)=false:=ht;rw[i3] at ht;obtain ⟨n1,n2⟩:=lM.next (ak:=false) hs (by omega) (by omega) (by simp) (by simp;omega) (by simp[bI];omega) (by simpa [bI] using ht);refine ⟨?_,by omega,_,?_,n1,n2⟩
    .simp only[aT,bn,zy];omega
    .simp only[bI,rA,if_false];rw[show (2+(s.p:Int))=((s.p+2:Nat):Int) by omega,<-Int.natCast_add];simp only[yX,eB,eZ,jI]
 .rw[i2,vE (by omega)]
theorem aok(q:Nat)(h:q<65536):arith .and .u16 (q:Int) 65520=((q/16*16:Nat):Int):=by
 have:=zq (k:= .u16) rfl (a:=q) (b:=65520) h (by decide);rw[show ((65520:Nat):Int)=65520 from rfl] at this;rw[this];congr 1
 have e:q/16*16=(q>>>4)<<<4:=by rw[Nat.shiftRight_eq_div_pow,Nat.shiftLeft_eq]
 rw[e];apply Nat.eq_of_testBit_eq;intro i;rw[Nat.testBit_and,Nat.testBit_shiftLeft,Nat.testBit_shiftRight];by_cases hi:i<16
 .have h65:∀i:Fin 16,(65520:Nat).testBit i.1=decide (i.1≥4):=by decide
  rw[h65 ⟨i,hi⟩];by_cases h4:i≥4
  .simp[h4,show 4+(i-4)=i by omega]
  .simp[h4]
 .have h1:q.testBit i=false:=Nat.testBit_lt_two_pow (zx h (CX (n:=2) (by decide) (show 16<=i by omega)));have h2:q.testBit (4+(i-4))=false:=by rw[show 4+(i-4)=i by omega];exact h1
  rw[h1,h2];simp
theorem K8(q:Nat)(hq:q<65536)(b:List UInt8)(hb:b.length<=1000000):PC Tryz.prog WK [(U16,.int (q:Int)),(aQ,B b)] [(.sl yH,yX (spots q b).1),(I64,.int (spots q b).2)]:=by
 apply ahX rfl;simp only[UR,aH,aB,aA,ay,aC,forall_const,aok q hq];unfold spots;refine ⟨fun h1=>⟨_,_,aje b hb _ rfl,?_⟩,fun h1=>⟨fun h2=>⟨_,_,ajd b hb _ rfl,?_⟩,fun h2=>?_⟩⟩
 .rw[if_pos (by omega)]
 .rw[if_neg (by omega),if_pos (by omega)]
 .rw[if_neg (by omega),if_neg (by omega)];rfl
theorem aoD(l:List Sp)(i:Nat)(h:i<l.length):(l.map wO).getD ((i:Int)).toNat default=wO (l.getD i Sp.zero):=by simp[List.getD,h]
theorem aoC(l:List Sp)(i:Nat)(h:i<l.length):l.take (i+1)=l.take i++ [l.getD i Sp.zero]:=by rw[jm h];simp[List.getD,h]
theorem apP{l:List Sp}{i:Nat}(h:i<l.length):l.getD i Sp.zero∈l:=by simp[List.getD,h]
theorem aqW(n:Nat)(h:n<=100000000):arith .rem .i64 (4-((n%4:Nat):Int)) 4=(((4-n%4)%4:Nat):Int):=by
 rw[MR _ _ _ (by omega)];omega
theorem LC(b:List UInt8)(hb:b.length<=100000000):PC Tryz.prog Yz [(aQ,B b)] [(aQ,B (Am b))]:=by
 apply ajC rfl;simp only[W9,aH,aB,aA,ay,aC,forall_const,bE,PG _ (show b.length<9223372036854775807 by omega),aqW _ hb];refine ⟨by omega,by omega,by omega,by omega,by omega,?_⟩;rw[<-Int.natCast_add,bO];congr 3
 rw[Xp,jB (by simp),Int.toNat_zero];have e:List.drop 0 (ofBytes b)=ofBytes b:=rfl;rw[e,TN];congr 1
 unfold Am splice;simp only[List.take_zero,fJ,mQ,Nat.sub_zero,iI,List.drop_replicate];rw[jB (by omega),Nat.add_sub_cancel_left]
theorem aif(l:List El)(hl:l.length<=1000000):PC Tryz.prog Vo [(.sl lU,jL l)] [(.bool,.bool (tQ l))]:=by
 apply agQ rfl;simp only[Tw,aA];refine VC.go_loop (fun i:Nat=> [.bool false,.int (i:Int)]) (fun i=>i<=l.length/\∀e∈l.take i,jw true e) (fun i=>l.length-i) 0 rfl ⟨bK _,by simp⟩ fun i hi=>?_;obtain ⟨i1,i2⟩:=hi;simp only[aH,aB,aA,ay,aC,forall_const,aT];refine ⟨fun hc=>?_,fun hc=>?_⟩
 .have hk:i<l.length:=by omega
  have hm:=E8 hk;have ht:=IZ l i hk;rw[zR l i hk];generalize l.getD i El.zero=e at hm ht;simp only[gJ,gX,bU,gM,bE];refine ⟨by omega,by omega,fun h=>?_,fun h=>⟨by omega,i+1,by simp,⟨by omega,?_⟩,by omega⟩⟩
  .have:tQ l=false:=decide_eq_false fun hall=>by
    have:=Mk (hall e hm);omega
   rw[this]
  .rw[ht];intro x hx;rcases iZ.1 hx with hx|hx
   .exact i2 x hx
   .rw[List.mem_singleton] at hx;subst hx;simp only[jw,if_true];omega
 .have he:i=l.length:=by omega
  rw[he,eX] at i2;have:tQ l=true:=decide_eq_true i2;rw[this]
theorem ag7(l:List El)(hl:l.length<=1000000):PC Tryz.prog Uc [(.sl lU,jL l)] [(U16,.int (rT l:Nat))]:=by
 apply aga rfl;simp only[Sy,aH,aB,aA,ay,aC,forall_const];refine ⟨_,K9 l hl,?_⟩;simp only[ay,aC];unfold rT;refine ⟨fun h=>?_,fun h=>⟨_,aif l hl,?_⟩⟩
 .rw[if_neg (by simpa using h)];rfl
 .rw[if_pos (by simpa using h)];simp only[ay];refine ⟨fun h=>?_,fun h=>?_⟩<;>rw[h]<;>rfl
theorem YE(ak:Bool)(l:List El)(e:El):qd ak (l++ [e])=qd ak l++enc ak e:=by simp[qd]
theorem MN(ak:Bool):∀(l:List El),(∀e∈l,e.data.length<=255)->(qd ak l).length<=257*l.length
 | [],_=>by simp[qd]
 |e::l,h=>by
  have ih:=MN ak l (fun x hx=>h x (by simp[hx]));have h1:=h e (by simp);have h2:=Hq ak e;have h3:Plain.ahead ak<=2:=by unfold Plain.ahead;split<;>omega
  have e1:qd ak (e::l)=enc ak e++qd ak l:=by simp[qd]
  rw[e1,bg,bn];omega
theorem ap3(a b:Nat)(ha:a<16)(hb:b<16):arith .or .i64 (arith .shl .i64 (a:Int) 4) (b:Int)=((16*a+b:Nat):Int):=by
 have h1:arith .shl .i64 (a:Int) 4=((16*a:Nat):Int):=by
  rw[pU,show (2:Int)^(min (4:Int).toNat IntKind.i64.bits)=16 from rfl,je (by omega)];omega
 rw[h1,ZM (zx (show 16*a<256 by omega) (by decide)) (zx (show b<256 by omega) (by decide))];congr 1
 have key:∀a b:Fin 16,16*a.1|||b.1=16*a.1+b.1:=by decide
 exact key ⟨a,ha⟩ ⟨b,hb⟩
theorem DW{l:List El}(h:iM l):∀e∈l,1<=e.id/\e.id<=255/\e.data.length<=255:=by
 intro e he;obtain ⟨j,hj,rfl⟩:=List.getElem_of_mem he;have:=h j hj;unfold vU at this;rw[yK,iK hj] at this;exact ⟨this.1,this.2.1,this.2.2.1⟩
theorem apm{e:El}(h:jw true e): [C.int (IntKind.u8.wrap (arith .or .i64 (arith .shl .i64 e.id 4) ((e.data.length:Int)-1)))]++ofBytes e.data=ofBytes (enc true e):=by
 obtain ⟨h1,h2,h3,h4⟩:=Mk h;obtain ⟨n,hn⟩:∃n:Nat,e.id=n:=⟨e.id.toNat,by omega⟩;have e1:(e.data.length:Int)-1=((e.data.length-1:Nat):Int):=by omega
 rw[hn,e1,ap3 n _ (by omega) (by omega),qH];unfold enc;rw[if_pos rfl,hn,bO,show 16*n+(e.data.length-1)=16*n+e.data.length-1 by omega];simp only[ofBytes,eZ,jc,fJ]
theorem an5{e:El}(h:1<=e.id/\e.id<=255/\e.data.length<=255): [C.int (IntKind.u8.wrap e.id),C.int (IntKind.u8.wrap (e.data.length:Int))]++ofBytes e.data=ofBytes (enc false e):=by
 obtain ⟨n,hn⟩:∃n:Nat,e.id=n:=⟨e.id.toNat,by omega⟩;rw[hn,qH,qH];unfold enc;rw[if_neg (by simp),hn,bO];simp only[ofBytes,eZ,jc,fJ]
def Ke(l:List El):List UInt8:=if iM l then vD l else []
def Kc(l:List El):Int:=if iM l then 0 else 1
theorem ajz{ak:Bool}{l:List El}(h:iM l)(i:Nat)(hi:i<=l.length):(qd ak (l.take i)).length<=257*i:=by
 have:=MN ak (l.take i) (fun e he=>(DW h e (yN he)).2.2);rw[gD] at this;omega
theorem ajf(l:List El)(hl:l.length<=10000):PC Tryz.prog WJ [(.sl lU,jL l)] [(U16,.int (rT l:Nat)),(aQ,B (Ke l)),(I64,.int (Kc l))]:=by
 apply ahW rfl;simp only[UQ,aH,aB,aA,ay,aC,forall_const];refine ⟨_,ag7 l (by omega),?_⟩;simp only[ay];by_cases hr:iM l
 .have hp:=aj4 hr;have hw:Ke l=vD l:=if_pos hr;have he:Kc l=0:=if_pos hr;rw[hp,hw,he];have hfit:=(GL hr).1;unfold vD;generalize hn:tQ l=ak at hfit;refine ⟨fun h=>?_,fun h=>?_⟩
  .exfalso;unfold EM at h;cases ak<;>simp at h
  .refine VC.go_loop (fun i:Nat=> [B (qd ak (l.take i)),.int (i:Int)]) (fun i=>i<=l.length) (fun i=>l.length-i) 0 (by simp[E.eval,qd,ofBytes]) (bK _) fun i hi=>?_;have hlen:=ajz (ak:=ak) hr i hi;simp only[aH,aB,aA,ay,aC,forall_const,aT,bE,bn,zy];refine ⟨fun hc=>?_,fun hc=>?_⟩
   .have hk:i<l.length:=by omega
    have hm:=hfit _ (E8 hk);have hm2:=DW hr _ (E8 hk);have ht:=IZ l i hk;rw[zR l i hk];generalize l.getD i El.zero=e at hm ht hm2;simp only[gJ,gX,bU,gM,bE];refine ⟨by omega,by omega,fun h1=>?_,fun h1=>?_⟩
    .have hnar:ak=true:=by
      unfold EM at h1;cases ak
      .simp at h1
      .rfl
     subst hnar;refine ⟨by omega,by omega,by omega,by omega,i+1,?_,by omega,by omega⟩;rw[dI,apm hm,wS,ht,YE];simp
    .have hnar:ak=false:=by
      unfold EM at h1;cases ak
      .rfl
      .simp at h1
     subst hnar;refine ⟨by omega,by omega,by omega,i+1,?_,by omega,by omega⟩;rw[dI,an5 hm2,wS,ht,YE];simp
   .have hi2:i=l.length:=by omega
    rw[hi2,eX] at hlen |-;refine ⟨_,LC (qd ak l) (by omega),rfl⟩
 .have hp:rT l=0:=if_neg hr;have hw:Ke l=[]:=if_neg hr;have he:Kc l=1:=if_neg hr;rw[hp,hw,he];refine ⟨fun _=>rfl,fun h=>by simp at h⟩
theorem akN(b:List UInt8)(l:List Sp)(i:Nat)(h:i<l.length):(l.take (i+1)).map (gN b)=(l.take i).map (gN b)++ [gN b (l.getD i Sp.zero)]:=by rw[aoC l i h,eB];rfl
theorem aqj(b:List UInt8)(s:Sp)(h:s.pos+s.size<=b.length):C.ls ((List.take ((s.pos:Int)+(s.size:Int)).toNat (ofBytes b)).drop ((s.pos:Int)).toNat)=B (gN b s).data:=by
 rw[<-Int.natCast_add,bO,bO,wT,y9];unfold gN;congr 2
 rw[List.drop_take,Nat.add_sub_cancel_left]
theorem Bl(q:Nat)(b:List UInt8):(spots q b).1.length<=b.length:=by
 have key:∀(ak:Bool) (n p:Nat) (out:List Sp),b.length-p<=n->out.length<=p->p<=b.length->(wk ak b p out).1.length<=b.length:=by
  intro ak n;induction n with
  |zero=>intro p out h1 h2 h3;rw[vE (by omega)];simp only;omega
  |succ n ih=>
   intro p out h1 h2 h3;by_cases hp:p<b.length
   .by_cases h0:at_ b p=0
    .rw[BK hp h0];exact ih _ _ (by omega) (by omega) (by omega)
    .by_cases hs:ak=true/\(at_ b p/16=15\/at_ b p/16=0)
     .rw[En hp h0 hs];simp only;omega
     .by_cases hw:ak=false/\b.length<=p+1
      .rw[Ii hp h0 hs hw];simp
      .by_cases hl:b.length<(bI ak b p).pos+(bI ak b p).size
       .rw[Eo hp h0 hs hw hl];simp
       .by_cases ht:(bI ak b p).id∈ku out
        .rw[D6 hp h0 hs hw hl ht];simp
        .rw[wk_step hp h0 hs hw hl ht];have:=D9 ak b p;exact ih _ _ (by omega) (by simp;omega) (by omega)
   .rw[vE hp];simp only;omega
 unfold spots;split
 .exact key true _ 0 [] (aI _) (bK _) (bK _)
 .split
  .exact key false _ 0 [] (aI _) (bK _) (bK _)
  .simp
theorem VT(q:Nat)(hq:q<65536)(b:List UInt8)(hb:b.length<=1000000):PC Tryz.prog XJ [(U16,.int (q:Int)),(aQ,B b)] [(.sl lU,jL (oL q b)),(I64,.int (spots q b).2)]:=by
 obtain ⟨g1,g2,_⟩:=u6 q b;have g3:=Bl q b;apply aiU rfl;simp only[VN,aH,aB,aA,ay,aC,forall_const];refine ⟨_,_,K8 q hq b hb,?_⟩;simp only[ay];unfold oL;generalize (spots q b).1=l at g1 g2 g3;refine ⟨fun h=>?_,fun h=>?_⟩
 .rcases g2 with g2|⟨g2,_⟩
  .exact absurd g2 h
  .rw[g2];rfl
 .rw[h];refine VC.go_loop (fun i:Nat=> [jL ((l.take i).map (gN b)),.int (i:Int)]) (fun i=>i<=l.length) (fun i=>l.length-i) 0 rfl (bK _) fun i hi=>?_;simp only[aH,aB,aA,ay,aC,forall_const,aT,bE,bn,zy,gD];refine ⟨fun hc=>?_,fun hc=>?_⟩
  .have hk:i<l.length:=by omega
   have hm:=g1 _ (apP hk);have ht:=akN b l i hk;rw[aoD l i hk];generalize l.getD i Sp.zero=s at hm ht;have hcut:=aqj b s hm;simp only[gJ,gX,bU,hcut];have hcl:=congrArg (fun c:C=>c.toList.length) hcut;simp only[gM,bE] at hcl;have hdl:(gN b s).data.length=s.size:=by unfold gN;simp;omega
   refine ⟨by omega,by omega,by omega,by omega,by omega,by omega,?_,by omega,by omega,i+1,?_,by omega,by omega⟩
   .rw[hcl];omega
   .rw[ht];simp only[jL,eB,eZ,jI];rfl
  .rw[show i=l.length by omega,eX]
theorem M9:∀(n:Nat) (l:List Nat),l.Nodup->(∀x∈l,x<n)->l.length<=n
 |0,l,_,h=>by
  cases l with
  |nil=>exact aI _
  |cons x l=>exact absurd (h x (by simp)) (Nat.not_lt_zero x)
 |n+1,l,hd,h=>by
  have ih:=M9 n (l.erase n) (hd.erase n) fun x hx=>by
   have h1:=(hd.mem_erase_iff).1 hx;have:=h x h1.2;omega
  rw[List.length_erase] at ih;split at ih<;>omega
theorem aj2(q:Nat)(b:List UInt8):(oL q b).length<=256:=by
 obtain ⟨_,_,h⟩:=u6 q b;have h1:=(GL h).2;have h2:=DW h;have:=M9 256 _ h1 (by
  intro x hx;obtain ⟨e,he,rfl⟩:=gK.1 hx;have:=h2 e he;omega)
 simpa using this
theorem Oo(v:Nat)(h:v<4294967296):IntKind.u64.wrap (v:Int)=(v:Int):=by rw[jD];omega
def vQ:List UInt8:=[0,1,2,2,3,3,3,3,4,4,4,4,4,4,4,4,5,5,5,5,5,5,5,5,5,5,5,5,5,5,5,5,6,6,6,6,6,6,6,6,6,6,6,6,6,6,6,6,6,6,6,6,6,6,6,6,6,6,6,6,6,6,6,6,7,7,7,7,7,7,7,7,7,7,7,7,7,7,7,7,7,7,7,7,7,7,7,7,7,7,7,7,7,7,7,7,7,7,7,7,7,7,7,7,7,7,7,7,7,7,7,7,7,7,7,7,7,7,7,7,7,7,7,7,7,7,7,7,8,8,8,8,8,8,8,8,8,8,8,8,8,8,8,8,8,8,8,8,8,8,8,8,8,8,8,8,8,8,8,8,8,8,8,8,8,8,8,8,8,8,8,8,8,8,8,8,8,8,8,8,8,8,8,8,8,8,8,8,8,8,8,8,8,8,8,8,8,8,8,8,8,8,8,8,8,8,8,8,8,8,8,8,8,8,8,8,8,8,8,8,8,8,8,8,8,8,8,8,8,8,8,8,8,8,8,8,8,8,8,8,8,8,8,8,8,8,8,8,8,8,8,8,8,8,8,8]
theorem aoy:∀i:Nat,i<256->(vQ.getD i 0).toNat=bl i:=by decide+kernel
theorem D8:vQ.length=256:=by decide+kernel
theorem aqn(n k:Nat):bl (n/2^k)=bl n-k:=by
 have h:∀j,bl (n/2^k)<=j↔bl n-k<=j:=by
  intro j;have hp:0<2^k:=Nat.pow_pos (by decide);rw[mM,Nat.div_lt_iff_lt_mul hp,<-Nat.pow_add,<-mM];omega
 have h1:=(h (bl n-k)).2 (aI _);have h2:=(h (bl (n/2^k))).1 (aI _);omega
theorem Es(v m:Nat)(k:Nat)(h:m=v/2^k)(hm:m<256)(hv:k=0\/2^k<=v):(((k:Nat):Int))+IntKind.i64.wrap (((vQ.getD (IntKind.u8.wrap ((m:Nat):Int)).toNat 0).toNat:Nat):Int)=((bl v:Nat):Int):=by
 have e1:(IntKind.u8.wrap ((m:Nat):Int)).toNat=m:=by rw[lY];omega
 have hb:bl m<=8:=mM.2 hm;rw[e1,aoy m hm,je (by omega)];have h2:bl m=bl v-k:=by rw[h,aqn]
 have h3:k<=bl v:=by
  rcases hv with h|h
  .omega
  .have:=(mM (n:=v) (k:=k));by_cases hc:bl v<=k
   .have:=this.1 hc;omega
   .omega
 omega
set_option maxHeartbeats 4000000 in
theorem Ru(v:Nat)(h:v<4294967296):PC Tryz.prog RN [(U32,.int v)] [(I64,.int (bl v:Nat))]:=by
 apply aft rfl;have htab: [0,1,2,2,3,3,3,3,4,4,4,4,4,4,4,4,5,5,5,5,5,5,5,5,5,5,5,5,5,5,5,5,6,6,6,6,6,6,6,6,6,6,6,6,6,6,6,6,6,6,6,6,6,6,6,6,6,6,6,6,6,6,6,6,7,7,7,7,7,7,7,7,7,7,7,7,7,7,7,7,7,7,7,7,7,7,7,7,7,7,7,7,7,7,7,7,7,7,7,7,7,7,7,7,7,7,7,7,7,7,7,7,7,7,7,7,7,7,7,7,7,7,7,7,7,7,7,7,8,8,8,8,8,8,8,8,8,8,8,8,8,8,8,8,8,8,8,8,8,8,8,8,8,8,8,8,8,8,8,8,8,8,8,8,8,8,8,8,8,8,8,8,8,8,8,8,8,8,8,8,8,8,8,8,8,8,8,8,8,8,8,8,8,8,8,8,8,8,8,8,8,8,8,8,8,8,8,8,8,8,8,8,8,8,8,8,8,8,8,8,8,8,8,8,8,8,8,8,8,8,8,8,8,8,8,8,8,8,8,8,8,8,8,8,8,8,8,8,8,8,8,8,8,8,8,8]=vQ:=rfl;have s16:arith .shr .u32 ((v:Nat):Int) 16=((v/2^16:Nat):Int):=qU .u32 v 16 (by decide);have s8:arith .shr .u32 ((v:Nat):Int) 8=((v/2^8:Nat):Int):=qU .u32 v 8 (by decide);have s24:arith .shr .u32 ((v/2^16:Nat):Int) 8=((v/2^16/2^8:Nat):Int):=qU .u32 (v/2^16) 8 (by decide);have hb:bl v<=32:=mM.2 h;simp only[Rs,aH,aB,aA,ay,aC,forall_const,htab];by_cases h1:(65536:Int)<=((v:Nat):Int)
 .simp only[h1,if_true,s16,s24];by_cases h2:(256:Int)<=((v/2^16:Nat):Int)
  .simp only[h2,if_true];have k0:=Es v (v/2^16/2^8) 24 (by omega) (by omega) (by omega);rw[show (((24:Nat):Int))=16+8 from rfl] at k0;rw[k0,D8,lY];exact ⟨fun _=>by omega,by omega,by omega,by omega,rfl⟩
  .simp only[h2,if_false];have k0:=Es v (v/2^16) 16 rfl (by omega) (by omega);rw[show (((16:Nat):Int))=16 from rfl] at k0;rw[k0,D8,lY];exact ⟨fun _=>by omega,by omega,by omega,by omega,rfl⟩
 .simp only[h1,if_false,s8];by_cases h2:(256:Int)<=((v:Nat):Int)
  .simp only[h2,if_true];have k0:=Es v (v/2^8) 8 rfl (by omega) (by omega);rw[show (((8:Nat):Int))=0+8 from rfl] at k0;rw[k0,D8,lY];exact ⟨fun _=>by omega,by omega,by omega,by omega,rfl⟩
  .simp only[h2,if_false];have k0:=Es v v 0 (by omega) (by omega) (by omega);rw[show (((0:Nat):Int))=0 from rfl] at k0;rw[k0,D8,lY];exact ⟨fun _=>by omega,by omega,by omega,by omega,rfl⟩
set_option maxHeartbeats 4000000 in
theorem afD(v:Nat)(h:v<18446744073709551616):PC Tryz.prog RL [(U64,.int v)] [(I64,.int (bl v:Nat))]:=by
 apply afs rfl;have htab: [0,1,2,2,3,3,3,3,4,4,4,4,4,4,4,4,5,5,5,5,5,5,5,5,5,5,5,5,5,5,5,5,6,6,6,6,6,6,6,6,6,6,6,6,6,6,6,6,6,6,6,6,6,6,6,6,6,6,6,6,6,6,6,6,7,7,7,7,7,7,7,7,7,7,7,7,7,7,7,7,7,7,7,7,7,7,7,7,7,7,7,7,7,7,7,7,7,7,7,7,7,7,7,7,7,7,7,7,7,7,7,7,7,7,7,7,7,7,7,7,7,7,7,7,7,7,7,7,8,8,8,8,8,8,8,8,8,8,8,8,8,8,8,8,8,8,8,8,8,8,8,8,8,8,8,8,8,8,8,8,8,8,8,8,8,8,8,8,8,8,8,8,8,8,8,8,8,8,8,8,8,8,8,8,8,8,8,8,8,8,8,8,8,8,8,8,8,8,8,8,8,8,8,8,8,8,8,8,8,8,8,8,8,8,8,8,8,8,8,8,8,8,8,8,8,8,8,8,8,8,8,8,8,8,8,8,8,8,8,8,8,8,8,8,8,8,8,8,8,8,8,8,8,8,8,8]=vQ:=rfl;have s32:arith .shr .u64 ((v:Nat):Int) 32=((v/2^32:Nat):Int):=qU .u64 v 32 (by decide);have s16:∀v:Nat,arith .shr .u64 ((v:Nat):Int) 16=((v/2^16:Nat):Int):=fun v=>qU .u64 v 16 (by decide);have s8:∀v:Nat,arith .shr .u64 ((v:Nat):Int) 8=((v/2^8:Nat):Int):=fun v=>qU .u64 v 8 (by decide);have hb:bl v<=64:=mM.2 h;simp only[Rq,aH,aB,aA,ay,aC,forall_const,htab];have fin:∀(m k:Nat) (c:Int),m=v/2^k->m<256->(k=0\/2^k<=v)->((k:Nat):Int)=c-> 
   (0<=IntKind.u8.wrap ((m:Nat):Int)/\IntKind.u8.wrap ((m:Nat):Int)<((vQ.length:Nat):Int)/\(-9223372036854775808<=c+IntKind.i64.wrap (((vQ.getD (IntKind.u8.wrap ((m:Nat):Int)).toNat 0).toNat:Nat):Int)/\c+IntKind.i64.wrap (((vQ.getD (IntKind.u8.wrap ((m:Nat):Int)).toNat 0).toNat:Nat):Int)<=9223372036854775807)/\
    [(Sh.int .i64,C.int (c+IntKind.i64.wrap (((vQ.getD (IntKind.u8.wrap ((m:Nat):Int)).toNat 0).toNat:Nat):Int)))]=[(I64,C.int ((bl v:Nat):Int))]):=by
  intro m k c h1 h2 h3 h4;have k0:=Es v m k h1 h2 h3;rw[h4] at k0;rw[k0,D8,lY];exact ⟨by omega,by omega,by omega,rfl⟩
 by_cases h1:(4294967296:Int)<=((v:Nat):Int)
 .simp only[h1,if_true,s32,s16];by_cases h2:(65536:Int)<=((v/2^32:Nat):Int)
  .simp only[h2,if_true];by_cases h3:(256:Int)<=((v/2^32/2^16:Nat):Int)
   .simp only[h3,if_true,s8];exact ⟨fun _=>by omega,fun _=>by omega,fin (v/2^32/2^16/2^8) 56 (32+16+8) (by omega) (by omega) (by omega) rfl⟩
   .simp only[h3,if_false];exact ⟨fun _=>by omega,fun _=>by omega,fin (v/2^32/2^16) 48 (32+16) (by omega) (by omega) (by omega) rfl⟩
  .simp only[h2,if_false];by_cases h3:(256:Int)<=((v/2^32:Nat):Int)
   .simp only[h3,if_true,s8];exact ⟨fun _=>by omega,fun _=>by omega,fin (v/2^32/2^8) 40 (32+8) (by omega) (by omega) (by omega) rfl⟩
   .simp only[h3,if_false];exact ⟨fun _=>by omega,fun _=>by omega,fin (v/2^32) 32 (32) (by omega) (by omega) (by omega) rfl⟩
 .simp only[h1,if_false,s16];by_cases h2:(65536:Int)<=((v:Nat):Int)
  .simp only[h2,if_true];by_cases h3:(256:Int)<=((v/2^16:Nat):Int)
   .simp only[h3,if_true,s8];exact ⟨fun _=>by omega,fun _=>by omega,fin (v/2^16/2^8) 24 (0+16+8) (by omega) (by omega) (by omega) rfl⟩
   .simp only[h3,if_false];exact ⟨fun _=>by omega,fun _=>by omega,fin (v/2^16) 16 (0+16) (by omega) (by omega) (by omega) rfl⟩
  .simp only[h2,if_false];by_cases h3:(256:Int)<=((v:Nat):Int)
   .simp only[h3,if_true,s8];exact ⟨fun _=>by omega,fun _=>by omega,fin (v/2^8) 8 (0+8) (by omega) (by omega) (by omega) rfl⟩
   .simp only[h3,if_false];exact ⟨fun _=>by omega,fun _=>by omega,fin (v) 0 (0) (by omega) (by omega) (by omega) rfl⟩
abbrev wh:Sh:= .pair I64 (.pair U32 (.pair (.sl U32) .unit))
abbrev tJ(r:Rm):C:= .ls [.int r.exp,.int r.gZ,Ns r.srcs]
theorem FL{p:Prop}[Decidable p]{x:Bool}(h:x=true↔p): [(Sh.bool,C.bool x)]=[(Sh.bool,C.bool (decide p))]:=by
 have:x=decide p:=by rw[Bool.eq_iff_iff,bR];exact h
 rw[this]
theorem U5(r:Rm):PC Tryz.prog Wm [(wh,tJ r)] [(.bool,.bool (decide r.right))]:=by
 apply ahE rfl;simp only[Uv,aH,aB,aA,ay,aC,aT];refine ⟨fun h=>?_,fun h=>⟨fun h2=>?_,fun h2=>?_⟩⟩;all_goals
  apply FL;unfold Rm.right
  (try simp only[bR,rA,false_iff])
  omega
theorem aiG(e m:Nat)(he:e<=63)(hm:m<262144):PC Tryz.prog VZ [(I64,.int e),(U32,.int m)] [(wh,tJ (Gg e m []))]:=by
 apply ah1 rfl;simp only[KU,aH,aB,aA,ay,aC,forall_const];refine ⟨fun h=>?_,fun h=>?_⟩
 .have h0:m=0:=by omega
  subst h0;simp[Gg,kE]
 .have h0:m≠0:=by omega
  have hb:bl m<=18:=mM.2 hm;refine ⟨_,Ru m (by omega),?_⟩;simp only[bU];have e1:min ((e:Nat):Int) (18-((bl m:Nat):Int))=((kE e m:Nat):Int):=by unfold kE;rw[if_neg h0];omega
  have hu:kE e m<=e/\kE e m<=18-bl m:=by unfold kE;rw[if_neg h0];omega
  have h3:m*2^kE e m<262144:=(mM (n:=m*2^kE e m) (k:=18)).1 (by rw[adi h0];omega);have e2:arith .shl .u32 ((m:Nat):Int) ((kE e m:Nat):Int)=((m*2^kE e m:Nat):Int):=by
   have e3:min (kE e m) (IntKind.bits .u32)=kE e m:=by simp only[IntKind.bits];omega
   rw[pU,bO,e3,Ej];have e4:((m:Nat):Int)*2^kE e m=((m*2^kE e m:Nat):Int):=by simp
   rw[e4];omega
  rw[e1,e2];have e5:((e:Nat):Int)-((kE e m:Nat):Int)=((e-kE e m:Nat):Int):=by omega
  refine ⟨by omega,by omega,by omega,?_⟩;rw[e5];rfl
theorem aqu(e m:Nat)(he:e<=63)(hm:m<262144):arith .or .u64 (arith .shl .u64 (IntKind.u64.wrap ((e:Nat):Int)) 18) (IntKind.u64.wrap ((m:Nat):Int))=((e*262144+m:Nat):Int):=by
 have e1:IntKind.u64.wrap ((e:Nat):Int)=((e:Nat):Int):=by rw[jD];omega
 have e2:IntKind.u64.wrap ((m:Nat):Int)=((m:Nat):Int):=by rw[jD];omega
 have e3:arith .shl .u64 ((e:Nat):Int) 18=((e*262144:Nat):Int):=by
  rw[pU,jD];simp[IntKind.bits];omega
 rw[e1,e2,e3,wY rfl (by show _<2^64;omega) (by show _<2^64;omega)];have:=vG e 18 m (by omega);rw[show (262144:Nat)=2^18 by rfl,this]
def JW(r:Rm):List UInt8:=if r.right then r.bytes else []
def JV(r:Rm):Int:=if r.right then 0 else 1
theorem apA(l:List Nat)(i:Nat)(h:i<l.length):((l.map fun n:Nat=>C.int (n:Int))).getD i default=C.int ((l.getD i 0:Nat):Int):=by
 simp[List.getD,h]
theorem ai3(r:Rm)(ho:r.ok):PC Tryz.prog Wi [(wh,tJ r)] [(aQ,B (JW r)),(I64,.int (JV r))]:=by
 apply ahC rfl;simp only[Ut,aH,aB,aA,ay,aC,forall_const,aT];refine ⟨_,U5 r,fun h=>?_,fun h=>?_⟩
 .have h:¬r.right:=by simpa using h
  rw[JW,JV,if_neg h,if_neg h];rfl
 .have h:r.right:=by simpa using h
  rw[JW,JV,if_pos h,if_pos h];have hn:=r.oK h;obtain ⟨h1,h2,h3,h4⟩:=h;obtain ⟨exp,gZ,srcs⟩:=r;simp only at h1 h2 h3 h4;obtain ⟨e,rfl⟩:∃e:Nat,exp=e:=⟨exp.toNat,by omega⟩;have e1:=aqu e gZ (by omega) h2;have pe:ow (e*262144+gZ) 3=0:=by rw[zA];refine ⟨by omega,by omega,?_⟩;show _<16777216;omega
  have pb:dP (e*262144+gZ) 3=bT 3 (e*262144+gZ):=by rw[dP,if_pos pe];rfl
  have hstr:ofBytes [82,69,77,66]=ofBytes mI:=rfl;have hone: [C.int (IntKind.u8.wrap ((srcs.length:Nat):Int))]=ofBytes [UInt8.ofNat srcs.length]:=by
   simp only[ofBytes,eZ,jI,mh,lY];rfl
  rw[e1];simp only[hstr,hone,bE];have l4:mI.length=4:=rfl;refine ⟨by omega,by omega,by omega,by omega,by simp;omega,by simp;omega,_,_,tK (e*262144+gZ) 3 (by omega),?_⟩;rw[pb];simp only[gM,bE,oG];refine ⟨by simp;omega,?_⟩;refine VC.go_loop (fun i:Nat=> [B (mI++(UInt8.ofNat srcs.length::(bT 3 (e*262144+gZ)++words (srcs.take i)))),.int i]) (fun i=>i<=srcs.length) (fun i=>srcs.length-i) 0 ?_ (bK _) fun i hi=>?_
  .simp only[aB,aA,ay];simp[words,ofBytes,mI]
  .simp only[aH,aB,aA,ay,aC,forall_const,aT,bE];refine ⟨fun hc=>?_,fun hc=>?_⟩
   .have hmem:=ho.2 _ (aaf (l:=srcs) (i:=i) (by omega));rw[bO,apA _ _ (by omega),bU,Oo _ hmem];have pe:ow (srcs.getD i 0) 4=0:=by rw[zA];refine ⟨by omega,by omega,?_⟩;show _<4294967296;omega
    have pb:dP (srcs.getD i 0) 4=bT 4 (srcs.getD i 0):=by rw[dP,if_pos pe];rfl
    refine ⟨by omega,by omega,_,_,tK (srcs.getD i 0) 4 (by omega),?_⟩;rw[pb];have hwl:=GD (srcs.take i);rw[gD] at hwl;refine ⟨by simp[l4,hwl];omega,by omega,i+1,?_,by omega,by omega⟩;rw[XY _ _ (by omega)];simp[ofBytes]
   .have:i=srcs.length:=by omega
    subst this;rw[eX];simp[Rm.bytes,Rm.num]
theorem EK{b:List UInt8}{e:Int}(h:mV b=e)(he:e≠0):tJ (Gf b)= .ls [.int 0,.int 0,.ls []]:=by
 rw[Gf,if_neg (by rw[h];exact he)];rfl
theorem w8i(b:List UInt8)(i:Nat):IntKind.i64.wrap (at_ b i:Nat)=((at_ b i:Nat):Int):=by have:=gq b i;exact je (by omega)
theorem aqV(n:Nat)(h:8<=n)(h2:n<=65520):arith .quo .i64 ((n:Nat)-8:Int) 4=(((n-8)/4:Nat):Int):=by
 rw[am7 _ _ _ (by omega),je (by omega)];omega
theorem NP(b:List UInt8)(i n:Nat)(h:i+n<=b.length)(hn:1<=n/\n<=8):jT b (i:Int) (n:Int)=num b i n:=by
 have e:kH b.length i n=0:=by rw[vg];omega
 rw[jT,if_pos e];rfl
theorem al9(b:List UInt8)(i:Nat):Ns ((List.range (i+1)).map fun j=>num b (8+4*j) 4)= .ls ((Ns ((List.range i).map fun j=>num b (8+4*j) 4)).toList++ [.int (num b (8+4*i) 4:Nat)]):=by
 rw[List.range_succ];simp[Ns]
theorem n18(n:Nat)(h:n<16777216):IntKind.i64.wrap (arith .shr .u64 ((n:Nat):Int) 18)=((n/262144:Nat):Int)/\IntKind.u32.wrap (arith .and .u64 ((n:Nat):Int) 262143)=((n%262144:Nat):Int):=by
 have e1:arith .shr .u64 ((n:Nat):Int) 18=((n/2^18:Nat):Int):=qU .u64 n 18 (by decide);have e2:arith .and .u64 ((n:Nat):Int) 262143=((n%262144:Nat):Int):=by
  rw[show (262143:Int)=((262143:Nat):Int) by rfl,zq rfl (by show _<2^64;omega) (by decide)];have:=Nat.and_two_pow_sub_one_eq_mod n 18;rw[<-this]
 rw[e1,e2];refine ⟨je (by omega),?_⟩;rw[Ej];omega
theorem ajI(b:List UInt8)(hb:b.length<=140737488355328):PC Tryz.prog Xy [(aQ,B b)] [(wh,tJ (Gf b)),(I64,.int (mV b))]:=by
 apply aiJ rfl;have i4:Int.toNat 4=4:=rfl;have i0:Int.toNat 0=0:=rfl;have l4:=gq b 4;simp only[VA,aH,aB,aA,ay,aC,forall_const,bE,lH,i4,i0,qE,w8i,PG _ (show b.length<9223372036854775807 by omega),pz,wT,Gw];have hs:([82,69,77,66]:List UInt8)=mI:=rfl;rw[hs];refine ⟨fun h1=>?_,fun h1=>⟨fun h2=>?_,fun h2=>⟨by omega,fun h3=>?_,fun h3=>⟨by omega,by omega,?_⟩⟩⟩⟩
 .have e:mV b=4:=by unfold mV;rw[if_pos (by omega)]
  rw[EK e (by decide),e]
 .have e:mV b=2:=by unfold mV;rw[if_neg (by omega),if_pos (by omega)]
  rw[EK e (by decide),e]
 .have e:mV b=6:=by unfold mV;rw[if_neg (by omega),if_neg (by omega),if_pos h3]
  rw[EK e (by decide),e]
 .rw[aqV _ (by omega) (by omega)];have h3:b.take 4=mI:=by simpa using h3
  refine ⟨fun h4=>?_,fun h4=>⟨fun h5=>?_,fun h5=>?_⟩⟩
  .have e:mV b=2:=by unfold mV;rw[if_neg (by omega),if_neg (by omega),if_neg (by simp[h3]),if_pos (by omega)]
   rw[EK e (by decide),e]
  .have e:mV b=4:=by unfold mV;rw[if_neg (by omega),if_neg (by omega),if_neg (by simp[h3]),if_neg (by omega),if_pos (by omega)]
   rw[EK e (by decide),e]
  .have hl:b.length=8+4*at_ b 4:=by omega
   have e:mV b=0:=by rw[Z4];exact ⟨by omega,by omega,h3,hl⟩
   have hn:num b 5 3<16777216:=oK b 5 3;have g:=NP b 5 3 (by omega) (by omega);obtain ⟨q1,q2⟩:=n18 _ hn;refine ⟨_,_,rP b 5 3 (by omega),?_⟩;rw[show jT b 5 3=num b 5 3 from g,bU,q1,q2];refine ⟨_,aiG _ _ (by omega) (by omega),?_⟩;refine VC.go_loop (fun i:Nat=> [.int i,Ns ((List.range i).map fun j=>num b (8+4*j) 4)]) (fun i=>i<=at_ b 4) (fun i=>at_ b 4-i) 0 rfl (bK _) fun i hi=>?_;simp only[aH,aB,aA,ay,aC,forall_const,lH,i4,qE,w8i,aT,C9];refine ⟨fun hc=>?_,fun hc=>?_⟩
   .have ei:(8:Int)+4*(i:Int)=((8+4*i:Nat):Int):=by omega
    have g4:=NP b (8+4*i) 4 (by omega) (by omega);have hl4:num b (8+4*i) 4<4294967296:=oK b _ 4;rw[ei];refine ⟨by omega,by omega,_,_,rP b ((8+4*i:Nat):Int) 4 (by omega),?_⟩;rw[show jT b ((8+4*i:Nat):Int) 4=num b (8+4*i) 4 from g4,bU,Ej];have e6:((num b (8+4*i) 4:Nat):Int)%4294967296=((num b (8+4*i) 4:Nat):Int):=by omega
    rw[e6];refine ⟨by simp;omega,by omega,i+1,?_,by omega,by omega⟩;rw[al9];rfl
   .have hi2:i=at_ b 4:=by omega
    subst hi2;rw[Gf,if_pos e,e];rfl
theorem alq(v:Nat)(h:v<18446744073709551616):PC Tryz.prog Zx [(U64,.int v)] [(wh,tJ (jQ v))]:=by
 apply aki rfl;simp only[X0,aH,aB,aA,ay,aC,forall_const];have hb:bl v<=64:=mM.2 h;refine ⟨_,afD v h,?_⟩;simp only[bU];have e1:max 0 (((bl v:Nat):Int)-18)=((bl v-18:Nat):Int):=by omega
 have hm:=(Mv v).1;rw[e1,qU .u64 v (bl v-18) (by simp only[IntKind.bits];omega),Ej];refine ⟨by omega,by omega,?_⟩;have e2:((v/2^(bl v-18):Nat):Int)%4294967296=((v/2^(bl v-18):Nat):Int):=by
  generalize v/2^(bl v-18)=m at hm;omega
 rw[e2];rfl
theorem ai4(r:Rm):PC Tryz.prog Wj [(wh,tJ r)] [(U64,.int (uS r:Nat))]:=by
 apply ahD rfl;simp only[Uu,aH,aB,aA,ay,aC,forall_const];refine ⟨_,U5 r,fun h=>?_,fun h=>?_⟩
 .have h:¬r.right:=by simpa using h
  rw[uS,if_neg h];rfl
 .have h:r.right:=by simpa using h
  rw[uS,if_pos h];obtain ⟨h1,h2,h3,h4⟩:=h;have hb:bl r.gZ<=18:=mM.2 (show _<2^18 from h2);refine ⟨_,Ru r.gZ (by omega),?_⟩;simp only[bU];refine ⟨by omega,fun hc=>?_,fun hc=>⟨by omega,?_⟩⟩
  .rw[if_pos (by omega)];rfl
  .rw[if_neg (by omega),Oo _ (by omega)];obtain ⟨e,he⟩:∃e:Nat,r.exp=e:=⟨r.exp.toNat,by omega⟩;rw[he,bO];have h0:r.gZ*2^e<18446744073709551616:=by
    by_cases hz:r.gZ=0
    .rw[hz];simp
    .exact (mM (n:=r.gZ*2^e) (k:=64)).1 (by rw[adi hz];omega)
   have e3:min e (IntKind.bits .u64)=e:=by simp only[IntKind.bits];omega
   rw[pU,bO,e3,jD];have e4:((r.gZ:Nat):Int)*2^e=((r.gZ*2^e:Nat):Int):=by simp
   rw[e4];congr 3
   omega
structure Sn where
 w:Int
 d:Int
def Sn.zero:Sn:=⟨0,0⟩
structure Ar where
 base:Nat
 time:Int
 count:Nat
 seen:List Sn
abbrev Kh:Sh:= .pair I64 (.pair I64 .unit)
abbrev ru:Sh:= .pair U16 (.pair I64 (.pair U8 (.pair (.sl Kh) .unit)))
abbrev uV(s:Sn):C:= .ls [.int s.w,.int s.d]
abbrev rM(a:Ar):C:= .ls [.int (a.base:Nat),.int a.time,.int (a.count:Nat),.ls (a.seen.map uV)]
def Sn.right(s:Sn):Prop:=(s.w=0/\s.d=0)\/(s.w=1/\0<=s.d/\s.d<=255)\/(s.w=2/\-32768<=s.d/\s.d<32768)
instance(s:Sn):Decidable s.right:=by unfold Sn.right;exact inferInstance
def Ar.right(a:Ar):Prop:=(-8388608<=a.time/\a.time<8388608)/\a.seen.length<=4000/\∀s∈a.seen,s.right
instance(a:Ar):Decidable a.right:=by unfold Ar.right;exact inferInstance
def Ar.ok(a:Ar):Prop:=a.base<65536/\a.count<256
def Sn.bytes(s:Sn):List UInt8:=if s.w=1 then [UInt8.ofNat s.d.toNat] else if s.w=2 then kQ s.d 2 else []
def Ar.dG(a:Ar):List Nat:=a.seen.map fun s=>s.w.toNat
def two(l:List Nat):List UInt8:=(l.map fun n=>dP n 2).flatten
def deltas(l:List Sn):List UInt8:=(l.map Sn.bytes).flatten
def nX(a:Ar):List UInt8:=dP a.base 2++(dP a.seen.length 2++(kQ a.time 3++ [UInt8.ofNat a.count]))
def Ar.raw(a:Ar):List UInt8:=nX a++(two (dQ a.dG)++deltas a.seen)
def Ar.bytes(a:Ar):List UInt8:=Am a.raw
theorem Ep(l:List Sn)(i:Nat)(h:i<l.length):(l.map uV).getD i default=uV (l.getD i Sn.zero):=by simp[List.getD,h]
theorem EI{l:List Sn}{i:Nat}(h:i<l.length):l.getD i Sn.zero∈l:=by simp[List.getD,h]
theorem afu(s:Sn):PC Tryz.prog Rv [(Kh,uV s)] [(.bool,.bool (decide s.right))]:=by
 apply afm rfl;simp only[Rh,aH,aB,aA,ay,aC];unfold Sn.right;refine ⟨fun h=>?_,fun h=>⟨fun h1=>?_,fun h1=>⟨fun h2=>?_,fun h2=>?_⟩⟩⟩<;>apply FL<;>simp<;>omega
theorem KL(a:Ar):PC Tryz.prog Uj [(ru,rM a)] [(.bool,.bool (decide a.right))]:=by
 apply agj rfl;simp only[SG,aH,aB,aA,ay,aC,aT];refine ⟨fun h=>?_,fun h=>?_⟩
 .apply FL;unfold Ar.right;simp;omega
 .refine VC.go_loop (fun i:Nat=> [.bool false,.int i]) (fun i=>i<=a.seen.length/\∀s∈a.seen.take i,s.right) (fun i=>a.seen.length-i) 0 rfl ⟨bK _,by simp⟩ fun i hi=>?_;simp only[aH,aB,aA,ay,aC,forall_const,aT,bO];refine ⟨fun hc=>?_,fun hc=>?_⟩
  .have hil:i<a.seen.length:=by omega
   rw[Ep _ _ hil];refine ⟨by omega,by omega,_,afu (a.seen.getD i Sn.zero),fun hr=>?_,fun hr=>⟨by omega,i+1,rfl,⟨by omega,fun s hs=>?_⟩,by omega⟩⟩
   .apply FL;simp only[rA,false_iff];intro h2;exact (of_decide_eq_false hr) (h2.2.2 _ (EI hil))
   .rw[jm hil] at hs;rcases iZ.1 hs with hs|hs
    .exact hi.2 s hs
    .have e:s=a.seen.getD i Sn.zero:=by
      rw[List.mem_singleton] at hs;rw[hs];simp[List.getD,hil]
     rw[e];simpa using hr
  .apply FL;simp only[true_iff];have:i=a.seen.length:=by omega
   subst this;refine ⟨by omega,by omega,fun s hs=>hi.2 s (by rw[eX];exact hs)⟩
theorem Nv(l:List Sn)(i:Nat)(h:i<l.length):l.take (i+1)=l.take i++ [l.getD i Sn.zero]:=by rw[jm h];simp[List.getD,h]
theorem ahe(l:List Sn)(hl:l.length<=1000000):PC Tryz.prog Ug [(.sl Kh,.ls (l.map uV))] [(.sl I64,.ls (l.map fun s=> .int s.w))]:=by
 apply agf rfl;simp only[SC,aA];refine VC.go_loop (fun i:Nat=> [.ls ((l.take i).map fun s=> .int s.w),.int i]) (fun i=>i<=l.length) (fun i=>l.length-i) 0 rfl (bK _) fun i hi=>?_;simp only[aH,aB,aA,ay,aC,forall_const,aT,bO];refine ⟨fun hc=>?_,fun hc=>?_⟩
 .have hil:i<l.length:=by omega
  rw[Ep _ _ hil];refine ⟨by omega,by omega,by simp;omega,by omega,i+1,?_,by omega,by omega⟩;rw[Nv _ _ hil];simp
 .have:i=l.length:=by omega
  subst this;rw[eX]
theorem zh{a:Ar}(h:a.right):(C.ls (a.seen.map fun s=>C.int s.w))=Ns a.dG/\mg a.dG:=by
 refine ⟨?_,fun x hx=>?_⟩
 .unfold Ar.dG;show C.ls _=C.ls (List.map _ (List.map _ _));rw[qy];congr 1
  apply yM;intro s hs;have:=h.2.2 s hs;unfold Sn.right at this;simp;omega
 .obtain ⟨s,hs,rfl⟩:=gK.1 hx;have:=h.2.2 s hs;unfold Sn.right at this;omega
theorem ana(l:List Nat)(i:Nat)(h:i<l.length):two (l.take (i+1))=two (l.take i)++dP (l.getD i 0) 2:=by
 unfold two;rw[jm h,eB,Da];simp[List.getD,h]
theorem LV(l:List Sn)(i:Nat)(h:i<l.length):deltas (l.take (i+1))=deltas (l.take i)++(l.getD i Sn.zero).bytes:=by
 unfold deltas;rw[Nv _ _ h];simp
theorem acd(l:List Nat):(two l).length<=8*l.length:=by
 unfold two;induction l with
 |nil=>simp
 |cons x l ih=>
  have:(dP x 2).length<=2:=by
   unfold dP;split
   .rw[oG];decide
   .simp
  simp at ih |-;omega
theorem Ow(d n:Int)(h:n<=8):(kQ d n).length<=8:=by
 unfold kQ;split
 .rw[oG];omega
 .simp
theorem ND(d:Nat)(n:Int)(h:n<=8):(dP d n).length<=8:=by
 unfold dP;split
 .rw[oG];omega
 .simp
theorem aof(s:Sn):s.bytes.length<=8:=by
 unfold Sn.bytes;split
 .simp
 .split
  .exact Ow _ _ (by decide)
  .simp
theorem ZE(l:List Sn):(deltas l).length<=8*l.length:=by
 unfold deltas;induction l with
 |nil=>simp
 |cons x l ih=>
  have:=aof x;simp at ih |-;omega
theorem ab9(n:Nat)(h:n<256): [C.int (n:Int)]=ofBytes [UInt8.ofNat n]:=by
 simp only[ofBytes,eZ,jI,mh,iJ,and_true,C.int.injEq];omega
def hd2(a:Ar):Nat->List UInt8|0=> []|1=>dP a.base 2|_=>dP a.base 2++dP a.seen.length 2
theorem ahg(a:Ar)(h:a.right)(ho:a.ok):PC Tryz.prog Ui [(ru,rM a)] [(aQ,B a.bytes),(I64,.int 0)]:=by
 apply agi rfl;simp only[SF,aH,aB,aA,ay,aC,forall_const];have hr:=KL a;obtain ⟨h1,h2,h3⟩:=id h;obtain ⟨o1,o2⟩:=ho;have pb2:=ND a.base 2 (by decide);have pl2:=ND a.seen.length 2 (by decide);have pt3:=Ow a.time 3 (by decide);refine ⟨_,hr,fun hc=>absurd h (by simpa using hc),fun _=>?_⟩;refine VC.go_loop (fun i:Nat=> [B (hd2 a i),.int i]) (fun i=>i<=2) (fun i=>2-i) 0 rfl (by decide) fun i hi=>?_;simp only[aH,aB,aA,ay,aC,forall_const,aT,bO,bE];refine ⟨fun hc=>?_,fun hc=>?_⟩
 .have h01:i=0\/i=1:=by omega
  rcases h01 with rfl|rfl
  .have e:IntKind.u64.wrap (IntKind.i64.wrap (a.base:Int))=(a.base:Int):=by rw[je (by omega),jD];omega
   simp only[List.getD_cons_zero,gJ,gX,bU,e];refine ⟨by omega,by omega,_,_,tK a.base 2 (by omega),?_⟩;simp only[gM,bE];exact ⟨by simp[hd2];omega,by omega,1,by simp[hd2],by omega,by omega⟩
  .have e:IntKind.u64.wrap (a.seen.length:Int)=(a.seen.length:Int):=by rw[jD];omega
   simp only[List.getD_cons_zero,List.getD_cons_succ,gJ,gX,bU,e];refine ⟨by omega,by omega,_,_,tK a.seen.length 2 (by omega),?_⟩;simp only[gM,bE];exact ⟨by simp[hd2];omega,by omega,2,by simp[hd2,ofBytes],by omega,by omega⟩
 .have:i=2:=by omega
  subst this;refine ⟨_,_,Rt a.time 3 (by omega),?_⟩;simp only[gM,bE];refine ⟨by simp[hd2];omega,by simp[hd2];omega,_,ahe a.seen (by omega),_,_,(by rw[(zh h).1];exact ak2 a.dG (zh h).2 (by unfold Ar.dG;simp;omega)),?_⟩;have hk:=Oc a.dG (zh h).2;have hw:a.dG.length=a.seen.length:=by unfold Ar.dG;simp
  have hlt:=OH _ a.dG rfl (zh h).2;refine VC.go_loop (fun i:Nat=> [B (nX a++two ((dQ a.dG).take i)),.int i]) (fun i=>i<=(dQ a.dG).length) (fun i=>(dQ a.dG).length-i) 0 ?_ (bK _) fun i hi=>?_
  .simp only[aB,aA,ay];simp only[hd2,nX,two,List.take_zero,jI,List.flatten_nil,jl];rw[ab9 _ o2];simp[ofBytes]
  simp only[aH,aB,aA,ay,aC,forall_const,aT,bO,bE];have ha:(nX a).length<=25:=by unfold nX;simp;omega
  refine ⟨fun hc=>?_,fun hc=>?_⟩
  .have hil:i<(dQ a.dG).length:=by omega
   have hx:=hlt _ (IK hil);rw[Ec _ _ hil,bU,Oo _ (by omega)];refine ⟨by omega,by omega,_,_,tK ((dQ a.dG).getD i 0) 2 (by omega),?_⟩;simp only[gM,bE];have ht:=acd ((dQ a.dG).take i);have hp:=ND ((dQ a.dG).getD i 0) 2 (by decide);rw[gD] at ht;refine ⟨by simp only[bg];omega,by omega,i+1,?_,by omega,by omega⟩;rw[ana _ _ hil];simp[ofBytes]
  .have:i=(dQ a.dG).length:=by omega
   subst this;rw[eX];have ht:=acd (dQ a.dG);refine VC.go_loop (fun i:Nat=> [B (nX a++(two (dQ a.dG)++deltas (a.seen.take i))),.int i]) (fun i=>i<=a.seen.length) (fun i=>a.seen.length-i) 0 (by simp only[aB,aA];simp[deltas]) (bK _) fun i hi=>?_;simp only[aH,aB,aA,ay,aC,forall_const,aT,bO,bE];refine ⟨fun hc=>?_,fun hc=>?_⟩
   .have hil:i<a.seen.length:=by omega
    rw[Ep _ _ hil];have hs:=h3 _ (EI hil);have hd:=ZE (a.seen.take i);rw[gD] at hd;have hps:=Ow (a.seen.getD i Sn.zero).d 2 (by decide);have hsn:=LV a.seen i hil;unfold Sn.bytes at hsn;generalize a.seen.getD i Sn.zero=s at hs hps hsn;obtain ⟨w,d⟩:=s;unfold Sn.right at hs;simp only at hs hsn hps;simp only[gJ,gX,bU];refine ⟨by omega,by omega,_,_,Rt d 2 (by omega),fun hw1=>?_,fun hw1=>⟨fun hw2=>?_,fun hw2=>?_⟩⟩
    .have e: [C.int (IntKind.u8.wrap d)]=ofBytes [UInt8.ofNat d.toNat]:=by
      obtain ⟨n,rfl⟩:∃n:Nat,d=n:=⟨d.toNat,by omega⟩;rw[lY];have:=ab9 n (by omega);simp only[bO];rw[<-this,show ((n:Int)%256)=n by omega]
     rw[if_pos hw1] at hsn;rw[e];refine ⟨by simp[ofBytes];omega,by omega,i+1,?_,by omega,by omega⟩;rw[hsn];simp[ofBytes]
    .rw[if_neg hw1,if_pos hw2] at hsn;simp only[gM,bE];refine ⟨by simp only[bg];omega,by omega,i+1,?_,by omega,by omega⟩;rw[hsn];simp[ofBytes]
    .rw[if_neg hw1,if_neg hw2] at hsn;refine ⟨by omega,i+1,?_,by omega,by omega⟩;rw[hsn];simp
   .have:i=a.seen.length:=by omega
    subst this;rw[eX];have hd:=ZE a.seen;exact ⟨_,LC a.raw (by unfold Ar.raw;simp only[bg];omega),rfl⟩
def nums(b:List UInt8):List Nat:=(List.range (b.length/2)).map fun i=>num b (2*i) 2
theorem aad(b:List UInt8)(i:Nat):num b i 2<65536:=oK b i 2
theorem afW(b:List UInt8)(hb:b.length<=1000000):PC Tryz.prog Sd [(aQ,B b)] [(.sl U16,Ns (nums b))]:=by
 apply afz rfl;simp only[Rz,aA];refine VC.go_loop (fun i:Nat=> [Ns ((List.range i).map fun i=>num b (2*i) 2),.int (2*(i:Int))]) (fun i=>2*i<=b.length) (fun i=>b.length-2*i) 0 rfl (bK _) fun i hi=>?_;simp only[aH,aB,aA,ay,aC,forall_const,bE,aT,C9];refine ⟨by omega,fun hc=>?_,fun hc=>?_⟩
 .have g:=NP b (2*i) 2 (by omega) (by omega);have ei:(2:Int)*(i:Int)=((2*i:Nat):Int):=by omega
  have hlt:=aad b (2*i);rw[ei];refine ⟨_,_,rP b ((2*i:Nat):Int) 2 (by omega),?_⟩;rw[show jT b ((2*i:Nat):Int) 2=num b (2*i) 2 from g,bU,zH,show ((num b (2*i) 2:Nat):Int)%65536=((num b (2*i) 2:Nat):Int) by omega];refine ⟨by simp;omega,by omega,i+1,?_,by omega,by omega⟩;rw[List.range_succ,eB];simp;omega
 .have:i=b.length/2:=by omega
  subst this;rfl
theorem aac:∀(l:List Nat) (r:List UInt8),(∀x∈l,x<65536)->nums (two l++r)=l++nums r
 | [],r,_=>rfl
 |x::l,r,h=>by
  have hx:=h x (by simp);have e:dP x 2=bT 2 x:=by unfold dP;rw[if_pos (by rw[zA];refine ⟨by decide,by decide,?_⟩;exact hx)];rfl
  have e2:two (x::l)++r=bT 2 x++(two l++r):=by unfold two;simp[e]
  have ih:=aac l r fun y hy=>h y (by simp[hy]);rw[e2,jc,<-ih];unfold nums;have hl:(bT 2 x++(two l++r)).length/2=(two l++r).length/2+1:=by simp
  rw[hl,List.range_succ_eq_map,eZ,qy];congr 1
  .have:=NQ (a:=[]) (b:=bT 2 x) (c:=two l++r) (n:=2) (oG 2 x);rw[fJ] at this;rw[show 2*0=([]:List UInt8).length from rfl,this,BM,wo (by omega)]
def Cx(w:Int):Nat:=if w=1 then 1 else if w=2 then 2 else 0
theorem TM(w:Int):PC Tryz.prog Vs [(I64,.int w)] [(I64,.int (Cx w:Nat))]:=by
 apply agU rfl;simp only[TB,aH,aB,aA,ay,aC];unfold Cx;refine ⟨fun h=>by rw[if_pos h];rfl,fun h=>⟨fun h2=>by rw[if_neg h,if_pos h2];rfl,fun h2=>by rw[if_neg h,if_neg h2];rfl⟩⟩
theorem adZ{d:Int}(h: -32768<=d/\d<32768):qB d 2=0:=by
 rw[Io];refine ⟨by decide,by decide,?_⟩;show-(32768:Int)<=d/\d<32768;omega
theorem Nw{s:Sn}(h:s.right):s.bytes.length=Cx s.w:=by
 unfold Sn.right at h;unfold Sn.bytes Cx;split
 .rfl
 .split
  .rw[(Je (adZ (by omega))).2];rfl
  .rfl
theorem ahf(s:Sn)(h:s.right)(p r:List UInt8)(hb:(p++(s.bytes++r)).length<=1000000)(n:Nat)(hn:p.length=n):PC Tryz.prog Uh [(I64,.int s.w),(aQ,B (p++(s.bytes++r))),(I64,.int (n:Nat))] [(I64,.int s.d)]:=by
 subst hn;apply agh rfl;obtain ⟨w,d⟩:=s;unfold Sn.right at h;simp only at h;simp only[SE,aH,aB,aA,ay,aC,forall_const,bE,lH,bO];refine ⟨fun hw=>?_,fun hw=>⟨fun hw2=>?_,fun hw2=>?_⟩⟩
 .subst hw;have e:(Sn.mk 1 d).bytes=[UInt8.ofNat d.toNat]:=if_pos rfl;rw[e];refine ⟨by omega,by simp;omega,?_⟩;have:(p++([UInt8.ofNat d.toNat]++r)).getD p.length 0=UInt8.ofNat d.toNat:=by simp[List.getD]
  rw[this,mh,je (by omega)];rw[show (((d.toNat%2^8:Nat)):Int)=d by omega]
 .subst hw2;have e:(Sn.mk 2 d).bytes=kQ d 2:=rfl;rw[e];have g:=aaX (b:=p) (c:=r) (adZ (d:=d) (by omega));have gl:=hb;refine ⟨_,_,SH (p++(kQ d 2++r)) p.length 2 (by rw[e] at hb;omega),?_⟩;rw[g.2]
 .have:d=0:=by omega
  rw[this]
theorem ajM(n:Nat)(h:n<=900000):PC Tryz.prog XD [(I64,.int n)] [(I64,.int ((n+3)/4*4:Nat))]:=by
 apply aiP rfl;simp only[VH,aH,aB,aA,ay,aC,forall_const];have e:arith .quo .i64 ((n:Int)+3) 4=(((n+3)/4:Nat):Int):=by
  rw[show (n:Int)+3=((n+3:Nat):Int) by omega];exact (qh (n+3) (by omega)).2
 rw[e];exact ⟨fun hc=>by omega,fun _=>⟨by omega,by omega,by congr 3⟩⟩
theorem ain(a:Ar)(n:Nat):∃t e:C,PC Tryz.prog Vt [(ru,rM a),(I64,.int n)] [(I64,t),(I64,e)]:=by
 have hr:=KL a;have key:∃rs:List (Sh×C),(∃t e:C,rs=[(I64,t),(I64,e)])/\KP.holds Tryz.prog (fun r=>r=rs) [] [rM a,.int n]:=by
  refine VC.tells (Post:=fun rs=>∃t e:C,rs=[(I64,t),(I64,e)]) rfl ?_;simp only[KP,aH,aB,aA,ay,aC,forall_const,aT];refine ⟨_,hr,fun _=>⟨_,_,rfl⟩,fun hc=>?_⟩;have hr:a.right:=by
   by_cases hr:a.right
   .exact hr
   .simp[hr] at hc
  obtain ⟨h1,h2,h3⟩:=hr;have hc2:n<a.seen.length:=by omega
  refine ⟨by omega,by omega,fun _=>⟨_,_,rfl⟩,fun _=>⟨by omega,by omega,by omega,by omega,?_⟩⟩;refine VC.go_loop (fun s:Nat×Int=> [.int s.2,.int s.1]) (fun s=>s.1<=n+1/\-(2147483648+32768*(s.1:Int))<=s.2/\s.2<=2147483648+32768*(s.1:Int)) (fun s=>n+1-s.1) (0,256*a.time) ?_ ⟨bK _,by simp;omega,by simp;omega⟩ fun s hi=>?_
  .simp only[aB,aA,ay];rfl
  obtain ⟨i,v⟩:=s;simp only at hi;have el:(List.take ((n:Int)+1).toNat (a.seen.map uV)).length=n+1:=by simp;omega
  simp only[aH,aB,aA,ay,aC,forall_const,bO,pz,show Int.toNat 0=0 from rfl,el];refine ⟨fun hc=>?_,fun hc=>⟨_,_,rfl⟩⟩;have hil:i<a.seen.length:=by omega
  have eg:(List.take ((n:Int)+1).toNat (a.seen.map uV)).getD i default=uV (a.seen.getD i Sn.zero):=by
   rw[<-Ep _ _ hil];simp only[yK];rw[mR,if_pos (by omega)]
  have hs:=h3 _ (EI hil);rw[eg];generalize a.seen.getD i Sn.zero=s at hs;obtain ⟨w,d⟩:=s;unfold Sn.right at hs;simp only at hs;simp only[gJ,gX,bU];refine ⟨by omega,by omega,by omega,by omega,(i+1,v+d),rfl,⟨by simp;omega,by simp;omega,by simp;omega⟩,by simp;omega⟩
 obtain ⟨rs,⟨t,e,rfl⟩,h⟩:=key;exact ⟨t,e,agV rfl h⟩
theorem ai5(a:Ar)(h:a.seen.length<=1000000):PC Tryz.prog Q9 [(ru,rM a),(ru,rM a)] [(.bool,.bool true)]:=by
 apply afg rfl;simp only[QW,aH,aB,aA,ay,aC,aT];refine ⟨fun hc=>?_,fun _=>?_⟩
 .exfalso;simp at hc
 .refine VC.go_loop (fun i:Nat=> [.bool false,.int i]) (fun i=>i<=a.seen.length) (fun i=>a.seen.length-i) 0 rfl (bK _) fun i hi=>?_;simp only[aH,aB,aA,ay,aC,forall_const,aT,bO];refine ⟨fun hc=>?_,fun hc=>trivial⟩;rw[Ep _ _ (by omega)];refine ⟨by omega,by omega,by omega,by omega,fun hd=>?_,fun _=>⟨by omega,i+1,rfl,by omega,by omega⟩⟩;exfalso;simp[jO] at hd
end Go.Vc
