/-
  Contracts of functions of the program, each out of its condition or by a walk, and plain lemmas.
-/
import Derived.Test.YtaehhpempnelhaaGreatDoorQTx7
import Derived.Test.YtaehhpempnelhaaGreatDoorQTx5
set_option maxRecDepth 100000
namespace Go.Vc
open Go Go.Proofs Go.Plain
theorem uw{v:Nat}(h:v<65536):ow v 2=0:=by
 rw[zA];exact ⟨by decide,by decide,h⟩
theorem Py{d:Int}(h: -8388608<=d/\d<8388608):qB d 3=0:=by
 rw[Io];refine ⟨by decide,by decide,?_⟩;show-(8388608:Int)<=d/\d<8388608;omega
theorem aaO(l:List Nat)(h:∀x∈l,x<65536):(two l).length=2*l.length:=by
 unfold two;induction l with
 |nil=>rfl
 |cons x l ih=>
  have e:=(vB (uw (h x (by simp)))).2;have:=ih fun y hy=>h y (by simp[hy]);simp at this |-;rw[e,this];omega
theorem Ny(w:Int):Cx w<=2:=by
 unfold Cx;split
 .decide
 .split<;>decide
theorem Hr(l:List Sn)(h:∀s∈l,s.right):(deltas l).length<=2*l.length:=by
 unfold deltas;induction l with
 |nil=>simp
 |cons x l ih=>
  have e:=Nw (h x (by simp));have e2:=Ny x.w;have:=ih fun y hy=>h y (by simp[hy]);simp at this |-;omega
theorem amO(l:List Sn)(i:Nat)(h:i<l.length):deltas l=deltas (l.take i)++((l.getD i Sn.zero).bytes++deltas (l.drop (i+1))):=by
 have e:l=l.take i++(l.getD i Sn.zero::l.drop (i+1)):=by
  conv=>lhs;rw[<-zu i l,uP h]
  simp[List.getD,h]
 conv=>lhs;rw[e]
 unfold deltas;simp
theorem YO{a:Ar}(h:a.right)(ho:a.ok):(nX a).length=8:=by
 unfold nX;simp only[bg,(vB (uw ho.1)).2,(vB (uw (show a.seen.length<65536 by have:=h.2.1;omega))).2,(Je (Py h.1)).2];rfl
theorem Fb{a:Ar}(h:a.right)(ho:a.ok):a.bytes.length%4=0/\8<=a.bytes.length/\a.bytes.length<=16020/\a.bytes.length=(8+2*(dQ a.dG).length+(deltas a.seen).length+3)/4*4:=by
 have hk:=Oc a.dG (zh h).2;have hw:a.dG.length=a.seen.length:=by unfold Ar.dG;simp
 have hlt:=OH _ a.dG rfl (zh h).2;have h1:=aaO _ hlt;have h2:=Hr _ h.2.2;have h3:=YO h ho;have h4:=h.2.1;have e:a.raw.length=8+2*(dQ a.dG).length+(deltas a.seen).length:=by
  unfold Ar.raw;simp only[bg];omega
 have e2:a.bytes.length=a.raw.length+(4-a.raw.length%4)%4:=by unfold Ar.bytes Am;simp
 omega
theorem aio(a : Ar)(h : a.right)(ho : a.ok) : PC Tryz.prog Vu [(aQ, B a.bytes)] [(ru, rM a), (I64, .int 0)] := by
  obtain ⟨l1, l2, l3, l4⟩ := Fb h ho;have hh := YO h ho;have hw := zh h;have hwl : a.dG.length = a.seen.length := by unfold Ar.dG; simp
  have hlt := OH _ a.dG rfl hw.2;have h2l := aaO _ hlt;have hkl := Oc a.dG hw.2;have hd2 := Hr _ h.2.2;have hs4 := h.2.1;have hbi : a.base < 65536 := ho.1;obtain ⟨z, hz⟩ : ∃ z, a.bytes = nX a ++ (two (dQ a.dG) ++ (deltas a.seen ++ z)) := by
    refine ⟨List.replicate ((4 - a.raw.length % 4) % 4) 0, ?_⟩;unfold Ar.bytes Am;conv => lhs; rw [show a.raw ++ List.replicate ((4 - a.raw.length % 4) % 4) 0 = a.raw ++ List.replicate ((4 - a.raw.length % 4) % 4) 0 from rfl]
    generalize List.replicate ((4 - a.raw.length % 4) % 4) (0 : UInt8) = z;unfold Ar.raw;simp only [dI]
  generalize hb : a.bytes = b at l1 l2 l3 l4 hz;have g2 : jT b 2 2 = a.seen.length := by
    have g := abk (b := dP a.base 2) (c := kQ a.time 3 ++ ([UInt8.ofNat a.count] ++ (two (dQ a.dG) ++ (deltas a.seen ++ z)))) (uw (show a.seen.length < 65536 by omega));rw [(vB (uw hbi)).2] at g;rw [<- g.2, hz];unfold nX;simp only [dI];rfl
  have g0 : jT b 0 2 = a.base := by
    have g := abk (b := []) (c := dP a.seen.length 2 ++ (kQ a.time 3 ++ ([UInt8.ofNat a.count] ++ (two (dQ a.dG) ++ (deltas a.seen ++ z))))) (uw hbi);rw [<- g.2, hz];unfold nX;simp only [dI, fJ];rfl
  have g4 : Cy b 4 3 = a.time := by
    have g := (aaX (b := dP a.base 2 ++ dP a.seen.length 2) (c := [UInt8.ofNat a.count] ++ (two (dQ a.dG) ++ (deltas a.seen ++ z))) (Py h.1)).2;rw [show (dP a.base 2 ++ dP a.seen.length 2).length = 4 by simp only [bg, (vB (uw hbi)).2, (vB (uw (show a.seen.length < 65536 by omega))).2]; rfl] at g;rw [<- g, hz];unfold nX;simp only [dI];rfl
  have g7 : b.getD 7 0 = UInt8.ofNat a.count := by
    rw [hz];unfold nX;have e : (dP a.base 2 ++ (dP a.seen.length 2 ++ kQ a.time 3)).length = 7 := by
      simp only [bg, (vB (uw hbi)).2, (vB (uw (show a.seen.length < 65536 by omega))).2, (Je (Py h.1)).2];rfl
    rw [show dP a.base 2 ++ (dP a.seen.length 2 ++ (kQ a.time 3 ++ [UInt8.ofNat a.count])) ++ (two (dQ a.dG) ++ (deltas a.seen ++ z)) = (dP a.base 2 ++ (dP a.seen.length 2 ++ kQ a.time 3)) ++ (UInt8.ofNat a.count :: (two (dQ a.dG) ++ (deltas a.seen ++ z))) by simp];rw [yK, yJ (by omega), e];rfl
  have g8 : b.drop 8 = two (dQ a.dG) ++ (deltas a.seen ++ z) := by
    rw [hz, wu, sV (by omega), hh];rfl
  have hn : nums (b.drop 8) = dQ a.dG ++ nums (deltas a.seen ++ z) := by rw [g8, aac _ _ hlt]
  have hrd : Ba (nums (b.drop 8)) (a.seen.length : Int) = .ok (a.dG, (dQ a.dG).length) := by
    unfold Ba;rw [if_neg (by omega), hn, bO, <- hwl];exact apU _ _ _ rfl hw.2
  have hok : okC (nums (b.drop 8)) := by
    refine ⟨by unfold nums; simp; omega, fun x hx => ?_⟩;obtain ⟨i, _, rfl⟩ := gK.1 hx;exact aad _ _
  have hcr := aji _ (a.seen.length : Int) hok;rw [hrd] at hcr;apply agW rfl;simp only [TD, aH, aB, aA, ay, aC, forall_const, bE, lH, PG _ (show b.length < 9223372036854775807 by omega)];refine ⟨fun hc => by omega, fun _ => ⟨fun hc => by omega, fun _ => ⟨_, _, rP b 2 2 (by omega), ?_⟩⟩⟩;rw [g2];have hnm := afW (b.drop 8) (by simp; omega);rw [F6] at hnm;refine ⟨fun hc => by simp only [bU] at hc; omega, fun _ => ⟨by omega, by omega, _, hnm, ?_⟩⟩;rw [bU, je (by omega)];refine ⟨_, _, _, hcr, ?_⟩;simp only [rE, rL, rN, bU];refine ⟨fun hc => absurd rfl hc, fun _ => ⟨by omega, by omega, ?_⟩⟩;refine VC.go_loop (fun i : Nat => [.int ((deltas (a.seen.take i)).length : Nat), .int i]) (fun i => i <= a.seen.length) (fun i => a.seen.length - i) 0 rfl (bK _) fun i hi => ?_;simp only [aH, aB, aA, ay, aC, forall_const, aT, bO, bE, hwl];refine ⟨fun hc => ?_, fun hc => ?_⟩
  . have hil : i < a.seen.length := by omega
    have hs := h.2.2 _ (EI hil);have hds := LV a.seen i hil;have hsz := Nw hs;have hdl := Hr (a.seen.take i) fun s hs => h.2.2 s (yN hs);rw [gD] at hdl;have hsl := Ny (a.seen.getD i Sn.zero).w;have ew : (xJ a.dG).getD i default = .int (a.seen.getD i Sn.zero).w := by
      rw [LD _ _ (by omega)];unfold Ar.dG;have : (a.seen.map fun s => s.w.toNat).getD i 0 = (a.seen.getD i Sn.zero).w.toNat := by simp [List.getD, hil]
      rw [this];unfold Sn.right at hs;congr 1
      omega
    rw [ew];refine ⟨by omega, by omega, _, TM (a.seen.getD i Sn.zero).w, by simp only [bU]; omega, by omega, i + 1, ?_, by omega, by omega⟩;rw [hds, bg, hsz];simp
  . have : i = a.seen.length := by omega
    subst this;rw [eX];have er := ajM (8 + 2 * (dQ a.dG).length + (deltas a.seen).length) (by omega);rw [<- l4] at er;rw [show (8 : Int) + 2 * ((dQ a.dG).length : Int) + ((deltas a.seen).length : Int) = ((8 + 2 * (dQ a.dG).length + (deltas a.seen).length : Nat) : Int) by omega];refine ⟨by omega, fun hc => by omega, fun _ => ⟨by omega, _, er, fun hc => absurd rfl hc, fun _ => ⟨_, _, rP b 0 2 (by omega), _, _, SH b 4 3 (by omega), by omega, ?_⟩⟩⟩;rw [g0, g4];refine VC.go_loop (fun i : Nat => [.int ((8 + 2 * (dQ a.dG).length + (deltas (a.seen.take i)).length : Nat) : Int), .int i, .ls ((a.seen.take i).map uV)]) (fun i => i <= a.seen.length) (fun i => a.seen.length - i) 0 ?_ (bK _) fun i hi => ?_
    . simp only [aB, aA, ay, aC, forall_const]
      simp [deltas]
    simp only [aH, aB, aA, ay, aC, forall_const, aT, bO, bE, hwl];refine ⟨fun hc => ?_, fun hc => ?_⟩
    . have hil : i < a.seen.length := by omega
      have hs := h.2.2 _ (EI hil);have hds := LV a.seen i hil;have hda := amO a.seen i hil;have hsz := Nw hs;have hdl := Hr (a.seen.take i) fun s hs => h.2.2 s (yN hs);rw [gD] at hdl;have hsl := Ny (a.seen.getD i Sn.zero).w;have ew : (xJ a.dG).getD i default = .int (a.seen.getD i Sn.zero).w := by
        rw [LD _ _ (by omega)];unfold Ar.dG;have : (a.seen.map fun s => s.w.toNat).getD i 0 = (a.seen.getD i Sn.zero).w.toNat := by simp [List.getD, hil]
        rw [this];unfold Sn.right at hs;congr 1
        omega
      have hbs : b = (nX a ++ (two (dQ a.dG) ++ deltas (a.seen.take i))) ++ ((a.seen.getD i Sn.zero).bytes ++ (deltas (a.seen.drop (i + 1)) ++ z)) := by
        rw [hz];conv => lhs; rw [hda]
        simp only [dI]
      have aec := ahf _ hs (nX a ++ (two (dQ a.dG) ++ deltas (a.seen.take i))) (deltas (a.seen.drop (i + 1)) ++ z) (by rw [<- hbs]; omega) (8 + 2 * (dQ a.dG).length + (deltas (a.seen.take i)).length) (by simp only [bg]; omega);rw [<- hbs] at aec;rw [ew];refine ⟨by omega, by omega, _, aec, by simp; omega, _, TM (a.seen.getD i Sn.zero).w, by simp only [bU]; omega, by omega, i + 1, ?_, by omega, by omega⟩;rw [hds, bg, hsz, Nv _ _ hil];simp;omega
    . have : i = a.seen.length := by omega
      subst this;rw [eX, zH];have e7 : (b.getD 7 0).toNat = a.count := by
        rw [g7, mh];have := ho.2;omega
      rw [show Int.toNat 7 = 7 from rfl, lH, e7, show ((a.base : Int)) % 65536 = (a.base : Int) by omega]
abbrev Ki:Sh:= .pair .bool (.pair I64 (.pair I64 (.pair I64 .unit)))
abbrev Gt(p:Bool)(c k s:Nat):C:= .ls [.bool p,.int (c:Nat),.int (k:Nat),.int (s:Nat)]
abbrev CoZ:C:= .ls [.bool false,.int 0,.int 0,.int 0]
theorem aqA:∀c:Nat,c<32->IntKind.u8.wrap (arith .or .i64 128 (c:Int))=((128+c:Nat):Int)/\arith .or .u8 ((128+c:Nat):Int) 32=((160+c:Nat):Int):=by decide+kernel
theorem sh6:∀x:Nat,x<256->arith .shr .u8 x 6=((x/64:Nat):Int):=by decide+kernel
theorem aen:∀x:Nat,x<256->(arith .and .u8 x 32=0↔¬x/32%2=1):=by decide+kernel
theorem ark:∀x:Nat,x<256->arith .and .u8 x 31=((x%32:Nat):Int):=by decide+kernel
theorem sl8:∀x:Nat,x<256->arith .shl .i64 x 8=((256*x:Nat):Int):=by decide+kernel
def Ab(p:Bool)(c k s:Nat):List UInt8:=[UInt8.ofNat (128+32*p.toNat+c),UInt8.ofNat k,UInt8.ofNat ((s/4-1)/256),UInt8.ofNat (s/4-1)]
theorem coB(p:Bool)(c k s:Nat)(hc:c<=31)(hk:k<=255)(h2:s<=65536):B (Ab p c k s)= .ls [.int ((128+32*p.toNat+c:Nat):Int),.int (k:Int),.int (((s/4-1)/256:Nat):Int),.int (((s/4-1):Nat)%256:Int)]:=by
 have hp:p.toNat<=1:=by cases p<;>decide
 unfold Ab;show C.ls _=_;simp only[ofBytes,eZ,jI,mh,C.ls.injEq,iJ,C.int.injEq,and_true];omega
theorem ahc(p:Bool)(c k s:Nat)(hc:c<=31)(hk:k<=255)(h1:4<=s)(h2:s<=65536)(h4:s%4=0):PC Tryz.prog Ue [(Ki,Gt p c k s)] [(.bool,.bool true)]:=by
 apply agc rfl;simp only[SA,aH,aB,aA,ay,aC,forall_const];refine ⟨fun h=>by omega,fun _=>?_⟩;rw[(qh s (by omega)).1];congr 3
 simp;omega
theorem ahb(p:Bool)(c k s:Nat)(hc:c<=31)(hk:k<=255)(h1:4<=s)(h2:s<=65536)(h4:s%4=0):PC Tryz.prog Ud [(Ki,Gt p c k s)] [(aQ,B (Ab p c k s)),(I64,.int 0)]:=by
 apply agb rfl;simp only[Sz,aH,aB,aA,ay,aC,forall_const];refine ⟨_,ahc p c k s hc hk h1 h2 h4,fun h=>(by cases h),fun _=>?_⟩;obtain ⟨o1,o2⟩:=aqA c (by omega);have e4:=(qh s (by omega)).2;rw[e4];refine ⟨by omega,?_⟩;rw[o1,o2];have ew:((s/4:Nat):Int)-1=((s/4-1:Nat):Int):=by omega
 rw[ew];have e8:arith .shr .i64 ((s/4-1:Nat):Int) 8=(((s/4-1)/256:Nat):Int):=qU .i64 _ 8 (by decide);rw[e8];rw[coB p c k s hc hk h2];simp only[lY];cases p<;>simp only[Bool.toNat_false,Bool.toNat_true,rA,if_false,if_true,bU];all_goals
  congr 3
  simp only[iJ,C.int.injEq,and_true,true_and];omega
def yF(b:List UInt8):Nat:=4*(256*at_ b 2+at_ b 3+1)
def o9(b:List UInt8):Int:=if b.length<4 then 2 else if at_ b 0/64≠2 then 3 else if b.length<yF b then 4 else 0
def AL(b:List UInt8):C:=if o9 b=0 then Gt (decide (at_ b 0/32%2=1)) (at_ b 0%32) (at_ b 1) (yF b) else CoZ
theorem TL(b:List UInt8)(hb:b.length<=1000000):PC Tryz.prog Vq [(aQ,B b)] [(Ki,AL b),(I64,.int (o9 b))]:=by
 apply agR rfl;have i0:Int.toNat 0=0:=rfl;have i1:Int.toNat 1=1:=rfl;have i2:Int.toNat 2=2:=rfl;have i3:Int.toNat 3=3:=rfl;have a0:=gq b 0;have a1:=gq b 1;have a2:=gq b 2;have a3:=gq b 3;have w1:∀n:Nat,n<256->IntKind.i64.wrap (n:Int)=(n:Int):=fun n hn=>je (by omega);simp only[Tx,aH,aB,aA,ay,aC,forall_const,bE,lH,i0,i1,i2,i3,qE,sh6 _ a0,ark _ a0,aen _ a0,w1 _ a1,w1 _ a2,w1 _ a3,sl8 _ a2,w1 (at_ b 0%32) (by omega)];have es:(4:Int)*(((256*at_ b 2:Nat):Int)+(at_ b 3:Int)+1)=(yF b:Int):=by unfold yF;omega
 rw[es];have hs:yF b<=262144:=by unfold yF;omega
 refine ⟨fun h=>?_,fun h=>⟨by omega,fun h2=>?_,fun h2=>⟨by omega,by omega,by omega,by omega,by omega,by omega,by omega,by omega,fun h3=>?_,fun h3=>?_⟩⟩⟩
 .have e:o9 b=2:=by unfold o9;rw[if_pos (by omega)]
  unfold AL;rw[e,if_neg (by decide)]
 .have e:o9 b=3:=by unfold o9;rw[if_neg (by omega),if_pos (by omega)]
  unfold AL;rw[e,if_neg (by decide)]
 .have e:o9 b=4:=by unfold o9;rw[if_neg (by omega),if_neg (by omega),if_pos (by omega)]
  unfold AL;rw[e,if_neg (by decide)]
 .have e:o9 b=0:=by unfold o9;rw[if_neg (by omega),if_neg (by omega),if_neg (by omega)]
  unfold AL;rw[e,if_pos rfl];congr 4
  simp[aen _ a0]
structure bS where
 k:Nat
 c:Nat
 body:List UInt8
 pad:Nat
def bS.size(x:bS):Nat:=4+x.body.length+x.pad
def bS.ok(x:bS):Prop:=x.k<=255/\x.c<=31/\x.body.length%4=0/\x.pad%4=0/\x.pad<=252/\x.size<=65535
def bS.head(x:bS):List UInt8:=Ab (decide (0<x.pad)) x.c x.k x.size
def bS.bytes(x:bS):List UInt8:=x.head++(x.body++trail x.pad)
theorem al5{n:Nat}(h:n<=255):(trail n).length=n:=(M6 h).1
theorem bS.len{x:bS}(h:x.ok):x.bytes.length=x.size:=by
 unfold bS.bytes bS.head Ab bS.size;simp only[bg,al5 (show x.pad<=255 by have:=h.2.2.2.2.1;omega),bn,zy];omega
theorem bS.com{x:bS}(h:x.ok)(r:List UInt8):o9 (x.bytes++r)=0/\AL (x.bytes++r)=Gt (decide (0<x.pad)) x.c x.k x.size:=by
 have hl:=bS.len h;obtain ⟨h1,h2,h3,h4,h5,h6⟩:=h;have hs4:x.size%4=0/\4<=x.size:=by unfold bS.size;omega
 have a0:at_ (x.bytes++r) 0=128+32*(decide (0<x.pad)).toNat+x.c:=by
  show (UInt8.ofNat _).toNat=_;rw[mh];have:(decide (0<x.pad)).toNat<=1:=by cases decide (0<x.pad)<;>decide
  omega
 have a1:at_ (x.bytes++r) 1=x.k:=by
  show (UInt8.ofNat _).toNat=_;rw[mh];omega
 have a2:at_ (x.bytes++r) 2=(x.size/4-1)/256:=by
  show (UInt8.ofNat _).toNat=_;rw[mh];omega
 have a3:at_ (x.bytes++r) 3=(x.size/4-1)%256:=by
  show (UInt8.ofNat _).toNat=_;rw[mh]
 have es:yF (x.bytes++r)=x.size:=by
  unfold yF;rw[a2,a3];omega
 have hp:(decide (0<x.pad)).toNat=if 0<x.pad then 1 else 0:=by split<;>simp[*]
 have e:o9 (x.bytes++r)=0:=by
  unfold o9;rw[es,a0,bg,hl,hp];rw[if_neg (by omega),if_neg (by split<;>omega),if_neg (by omega)]
 refine ⟨e,?_⟩;unfold AL;rw[if_pos e,es,a1,a0,hp];congr 3
 .rw[eq_iff_iff];split<;>omega
 .split<;>omega
theorem ah3(x:bS)(h:x.ok):PC Tryz.prog Ve [(I64,.int (x.k:Nat)),(I64,.int (x.c:Nat)),(aQ,B x.body),(I64,.int (x.pad:Nat))] [(aQ,B x.bytes),(I64,.int 0)]:=by
 obtain ⟨h1,h2,h3,h4,h5,h6⟩:=h;apply agG rfl;unfold bS.size at h6;have e4:=(qh x.pad (by omega)).1;have e5:=(qh x.body.length (by omega)).1;simp only[Tg,aH,aB,aA,ay,aC,forall_const,bE,e4,e5];refine ⟨fun hc=>by omega,fun _=>⟨fun hc=>by omega,fun _=>⟨by omega,by omega,?_⟩⟩⟩;rw[show (4:Int)+(x.body.length:Int)+(x.pad:Int)=(x.size:Int) by unfold bS.size;omega];have hs:x.size%4=0/\4<=x.size/\x.size<=65536:=by unfold bS.size;omega
 refine ⟨_,_,(show PC _ _ [(_,.ls [.bool (decide ((0:Int)<x.pad)),_,_,_])] _ from by
  rw[show (decide ((0:Int)<x.pad))=decide (0<x.pad) by simp];exact ahb (decide (0<x.pad)) x.c x.k x.size h2 h1 hs.2.1 hs.2.2 hs.1),fun hc=>absurd rfl hc,fun _=>?_⟩
 have hj:=uX [x.head,x.body] (by simp) (by simp[bS.head,Ab];omega);refine ⟨_,hj,fun hp=>?_,fun hp=>?_⟩
 .have hp:x.pad=0:=by omega
  unfold bS.bytes trail;rw[if_pos hp];simp
 .have hl:(List.flatten [x.head,x.body]).length<=1000000:=by simp[bS.head,Ab];omega
  refine ⟨_,_,Mg (List.flatten [x.head,x.body]) x.pad (by omega) (by omega) hl,?_⟩;unfold bS.bytes;simp
theorem bS.tr{x:bS}(h:x.ok)(hp:0<x.pad):gL (x.bytes.drop 4)=x.pad:=by
 have e:x.bytes.drop 4=x.body++trail x.pad:=rfl;rw[e];exact aov _ _ _ (M6 (by have:=h.2.2.2.2.1;omega)) hp
theorem R6(x:bS)(h:x.ok)(hp:0<x.pad):PC Tryz.prog SI [(aQ,B x.bytes)] [(I64,.int (x.pad:Nat)),(I64,.int 0)]:=by
 have hl:=bS.len h;have ht:=bS.tr h hp;obtain ⟨h1,h2,h3,h4,h5,h6⟩:=h;have hs:4<=x.size:=by unfold bS.size;omega
 apply afI rfl;simp only[RO,aH,aB,aA,ay,aC,forall_const,bE];have hc:=Ll (x.bytes.drop 4) (by simp;omega);rw[ht,if_neg (by omega),F6] at hc;refine ⟨by omega,by omega,_,_,hc,?_⟩;simp only[bU,(qh x.pad (by omega)).1];exact ⟨fun hc=>by omega,fun _=>trivial⟩
theorem aiX(x:bS)(h:x.ok):PC Tryz.prog V4 [(aQ,B x.bytes)] [(Ki,Gt (decide (0<x.pad)) x.c x.k x.size),(aQ,B x.body),(I64,.int (x.pad:Nat)),(I64,.int 0)]:=by
 have hl:=bS.len h;have hcm:=bS.com h [];rw[jl] at hcm;have htr:=R6 x h;obtain ⟨h1,h2,h3,h4,h5,h6⟩:=h;have hs:4+x.body.length+x.pad=x.size:=rfl;have hr:=TL x.bytes (by omega);rw[hcm.1,hcm.2] at hr;apply ahu rfl;simp only[Ul,aH,aB,aA,ay,aC,forall_const,bE];have hj:=uX [x.body] (by simp) (by simp;omega);have hcut:C.ls (List.drop 4 (List.take (4+x.body.length) (ofBytes x.bytes)))=B x.body:=by
  rw[wT,y9];congr 2
  show List.drop 4 (List.take (4+x.body.length) (x.head++(x.body++trail x.pad)))=x.body;have h4:x.head.length=4:=rfl;rw[<-dI,List.take_left' (by simp[h4]),List.drop_left' h4]
 refine ⟨_,_,hr,fun hc=>absurd rfl hc,fun _=>⟨fun hc=>?_,fun _=>⟨fun hp=>?_,fun hp=>?_⟩⟩⟩
 .simp only[gJ,gX,C.zP,C.zI,bU] at hc;omega
 .have hp:0<x.pad:=by simpa [gJ,gX] using hp
  refine ⟨_,_,htr hp,fun hc=>absurd rfl hc,fun _=>⟨by simp only[bU];omega,by simp only[bU];omega,by simp only[bU];omega,?_⟩⟩;rw[show (x.bytes.length:Int)-(C.int (x.pad:Nat)).toInt=((4+x.body.length:Nat):Int) by rw[bU];omega,bO,show Int.toNat 4=4 from rfl,hcut];refine ⟨_,hj,?_⟩;simp
 .have hp:x.pad=0:=by simpa [gJ,gX] using hp
  refine ⟨by omega,by omega,by omega,?_⟩;rw[show (x.bytes.length:Int)-0=((4+x.body.length:Nat):Int) by omega,bO,show Int.toNat 4=4 from rfl,hcut];refine ⟨_,hj,?_⟩;simp[hp]
def bS.zero:bS:=⟨0,0,[],0⟩
def jU(l:List bS):List UInt8:=(l.map bS.bytes).flatten
theorem Ic(l:List bS)(i:Nat)(h:i<l.length):jU (l.drop i)=(l.getD i bS.zero).bytes++jU (l.drop (i+1)):=by
 unfold jU;rw[uP h,eZ,List.flatten_cons];simp only[List.getD,iK h,yL]
theorem ah2(l:List bS)(hne:l≠[])(hok:∀x∈l,x.ok)(qX:∀i,i+1<l.length->(l.getD i bS.zero).pad=0)(hlen:(jU l).length<=1000000):PC Tryz.prog Vd [(aQ,B (jU l))] [(.sl aQ,Bs (l.map bS.bytes)),(I64,.int 0)]:=by
 apply agF rfl;have hcl:∀i,i<l.length->4<=(jU (l.drop i)).length:=by
  intro i hi;have hx:=hok (l.getD i bS.zero) (by simp[List.getD,hi]);have:=bS.len hx;rw[Ic l i hi,bg,this];unfold bS.size;omega
 have hlt:∀i,(jU (l.drop i)).length<=(jU l).length:=by
  intro i;have e:jU l=jU (l.take i)++jU (l.drop i):=by
   unfold jU;rw[<-Da,<-eB,zu]
  rw[e];simp
 have hll:∀i,i<=l.length->4*(l.length-i)<=(jU (l.drop i)).length:=by
  intro i hi;induction hk:l.length-i generalizing i with
  |zero=>omega
  |succ k ih=>
   have hx:=hok (l.getD i bS.zero) (by simp[List.getD,show i<l.length by omega]);have:=bS.len hx;have ih:=ih (i+1) (by omega) (by omega);rw[Ic l i (by omega),bg,this];unfold bS.size;omega
 have hl0:=hll 0 (bK _);simp only[Tf,aH,aB,aA,ay,aC,forall_const,bE];have hpos:0<l.length:=yO.2 hne;have h0:=hcl 0 hpos;rw[pz] at h0 hl0;refine ⟨fun hc=>by omega,fun _=>?_⟩;refine VC.go_loop (fun i:Nat=> [B (jU (l.drop i)),.ls [],.int 0,Bs ((l.take i).map bS.bytes)]) (fun i=>i<=l.length) (fun i=>l.length-i) 0 rfl (bK _) fun i hi=>?_;simp only[aH,aB,aA,ay,aC,forall_const,bE];refine ⟨fun hc=>?_,fun hc=>?_⟩
 .have hil:i<l.length:=by
   rcases Nat.lt_or_ge i l.length with h|h
   .exact h
   .rw[sV h] at hc;exact absurd hc (by decide)
  have hx:=hok (l.getD i bS.zero) (by simp[List.getD,hil]);have hxp:=qX i;have hlx:=bS.len hx;have hcm:=bS.com hx (jU (l.drop (i+1)));have hle:=hlt i;rw[<-Ic l i hil] at hcm;have hr:=TL (jU (l.drop i)) (by omega);rw[hcm.1,hcm.2] at hr;have htk:(l.take (i+1)).map bS.bytes=(l.take i).map bS.bytes++ [(l.getD i bS.zero).bytes]:=by
   rw[jm hil,eB];simp only[List.getD,iK hil,yL,eZ,jI]
  have hsp:=Ic l i hil;have htr:=R6 (l.getD i bS.zero) hx;have hl1:jU (l.drop (i+1))≠[]->i+1<l.length:=by
   intro h;rcases Nat.lt_or_ge (i+1) l.length with h'|h'
   .exact h'
   .rw[sV h'] at h;exact absurd rfl h
  generalize l.getD i bS.zero=x at*;generalize hre:jU (l.drop (i+1))=r at*;rw[hsp] at hr |-;have JG:(x.bytes++r).length=x.size+r.length:=by rw[bg,hlx]
  have hxs:=hx.2.2.2.2.2;have hj:=uX [x.bytes] (by simp) (by simp;omega);have hd:List.drop x.size (List.take (x.bytes++r).length (ofBytes (x.bytes++r)))=ofBytes r:=by
   rw[wT,eX,y9,List.drop_left' hlx]
  have ht:List.drop 0 (List.take x.size (ofBytes (x.bytes++r)))=ofBytes x.bytes:=by
   rw[wT,pz,List.take_left' hlx]
  have hf:List.flatten [x.bytes]=x.bytes:=by simp
  rw[hf] at hj;refine ⟨_,_,hr,fun hc=>absurd rfl hc,fun _=>?_⟩;simp only[gJ,gX,C.zP,C.zI,bU,iR,bR,kP,bO,show Int.toNat 0=0 from rfl,hd,ht,bE];refine ⟨by omega,by omega,by omega,by omega,by omega,fun hp=>⟨fun hc=>?_,fun _=>⟨_,_,htr hp,fun hc=>absurd rfl hc,fun _=>⟨_,hj,by simp;omega,i+1,?_,by omega,by omega⟩⟩⟩,fun hp=>⟨_,hj,by simp;omega,i+1,?_,by omega,by omega⟩⟩
  .exfalso;have hr0:r≠[]:=by
    rintro rfl;exact absurd hc (by simp)
   have:=hxp (hl1 hr0);omega
  all_goals
   rw[htk,hre];simp
 .have:i=l.length:=by
   rcases Nat.lt_or_ge i l.length with h|h
   .have:=hcl i h;omega
   .omega
  subst this;rw[eX]
end Go.Vc
