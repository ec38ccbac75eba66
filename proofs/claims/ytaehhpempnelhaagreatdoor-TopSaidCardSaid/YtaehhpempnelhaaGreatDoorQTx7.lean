/-
  Contracts of functions of the program, each out of its condition or by a walk, and plain lemmas.
-/
import Derived.Test.YtaehhpempnelhaaGreatDoorQTx6
import Derived.Maps.AppendAt
set_option maxRecDepth 100000
namespace Go.Vc
open Go Go.Proofs Go.Plain Tryz
abbrev BZ:Sh:=.jc .bool (.jc I64 (.jc I64 (.jc I64 .je)))
abbrev MB(p:Bool)(c k s:Nat):C:=.ls [.bool p,.int (c:Nat),.int (k:Nat),.int (s:Nat)]
abbrev Mx:C:=.ls [.bool false,.int 0,.int 0,.int 0]
theorem aBn:∀c:Nat,c<32->IntKind.u8.wrap (arith .or .i64 128 (c:Int))=((128+c:Nat):Int)/\arith .or .u8 ((128+c:Nat):Int) 32=((160+c:Nat):Int):=by decide+kernel
theorem sh6:∀x:Nat,x<256->arith .shr .u8 x 6=((x/64:Nat):Int):=by decide+kernel
theorem akY:∀x:Nat,x<256->(arith .and .u8 x 32=0↔¬x/32%2=1):=by decide+kernel
theorem aCA:∀x:Nat,x<256->arith .and .u8 x 31=((x%32:Nat):Int):=by decide+kernel
theorem sl8:∀x:Nat,x<256->arith .shl .i64 x 8=((256*x:Nat):Int):=by decide+kernel
def Fh(p:Bool)(c k s:Nat):List UInt8:=[UInt8.ofNat (128+32*p.toNat+c),UInt8.ofNat k,UInt8.ofNat ((s/4-1)/256),UInt8.ofNat (s/4-1)]
theorem coB(p:Bool)(c k s:Nat)(hc:c<=31)(hk:k<=255)(h2:s<=65536):B (Fh p c k s)=.ls [.int ((128+32*p.toNat+c:Nat):Int),.int (k:Int),.int (((s/4-1)/256:Nat):Int),.int (((s/4-1):Nat)%256:Int)]:=by
 have hp:p.toNat<=1:=by cases p<;>decide
 unfold Fh;show C.ls _=_;simp only[ofBytes,jG,pU,zu,C.ls.injEq,kE,C.int.injEq,lC];omega
theorem aot(p:Bool)(c k s:Nat)(hc:c<=31)(hk:k<=255)(h1:4<=s)(h2:s<=65536)(h4:s%4=0):PC prog aaC [(BZ,MB p c k s)] [(.bool,.bool true)]:=by
 apply anr rfl;simp only[Zo,aJ];refine⟨fun h=>by omega,fun _=>?_⟩;rw[(wV s (by omega)).1];congr 3
 simp;omega
theorem aos(p:Bool)(c k s:Nat)(hc:c<=31)(hk:k<=255)(h1:4<=s)(h2:s<=65536)(h4:s%4=0):PC prog aaB [(BZ,MB p c k s)] [(aV,B (Fh p c k s)),(I64,.int 0)]:=by
 apply anq rfl;simp only[Zn,aJ,aG];refine⟨_,aot p c k s hc hk h1 h2 h4,fun h=>(by cases h),fun _=>?_⟩;obtain⟨o1,o2⟩:=aBn c (by omega);have e4:=(wV s (by omega)).2;rw[e4];refine⟨by omega,?_⟩;rw[o1,o2];have ew:((s/4:Nat):Int)-1=((s/4-1:Nat):Int):=by omega
 rw[ew];have e8:arith .shr .i64 ((s/4-1:Nat):Int) 8=(((s/4-1)/256:Nat):Int):=FL .i64 _ 8 (by decide);rw[e8];rw[coB p c k s hc hk h2];simp only[qK];cases p<;>simp only[Bool.toNat_false,Bool.toNat_true,xk,pY,eO];all_goals
  congr 3
  simp only[kE,C.int.injEq,lC,true_and];omega
def oq(b:List UInt8):Nat:=4*(256*at_ b 2+at_ b 3+1)
def uV(b:List UInt8):Int:=if b.length<4 then 2 else if at_ b 0/64≠2 then 3 else if b.length<oq b then 4 else 0
def IY(b:List UInt8):C:=if uV b=0 then MB (decide (at_ b 0/32%2=1)) (at_ b 0%32) (at_ b 1) (oq b)else Mx
theorem aam(b:List UInt8)(hb:b.length<=1000000):PC prog abR [(aV,B b)] [(BZ,IY b),(I64,.int (uV b))]:=by
 apply aod rfl;have i0:Int.toNat 0=0:=rfl;have i1:Int.toNat 1=1:=rfl;have i2:Int.toNat 2=2:=rfl;have i3:Int.toNat 3=3:=rfl;have a0:=gN b 0;have a1:=gN b 1;have a2:=gN b 2;have a3:=gN b 3;have w1:∀n:Nat,n<256->IntKind.i64.wrap (n:Int)=(n:Int):=fun n hn=>lY (by omega);simp only[aac,aJ,aG,bD,mR,i0,i1,i2,i3,uj,sh6 _ a0,aCA _ a0,w1 _ a1,w1 _ a2,w1 _ a3,sl8 _ a2,w1 (at_ b 0%32) (by omega)];have es:(4:Int)*(((256*at_ b 2:Nat):Int)+(at_ b 3:Int)+1)=(oq b:Int):=by unfold oq;omega
 rw[es];have hs:oq b<=262144:=by unfold oq;omega
 refine⟨fun h=>?_,fun h=>⟨by omega,fun h2=>?_,fun h2=>⟨by omega,by omega,by omega,by omega,by omega,by omega,by omega,by omega,fun h3=>?_,fun h3=>?_⟩⟩⟩
 .have e:uV b=2:=by unfold uV;rw[aC (by omega)]
  unfold IY;rw[e,zq (by decide)]
 .have e:uV b=3:=by unfold uV;rw[zq (by omega),aC (by omega)]
  unfold IY;rw[e,zq (by decide)]
 .have e:uV b=4:=by unfold uV;rw[zq (by omega),zq (by omega),aC (by omega)]
  unfold IY;rw[e,zq (by decide)]
 have e:uV b=0:=by unfold uV;rw[zq (by omega),zq (by omega),zq (by omega)]
 unfold IY;rw[e,aC rfl];congr 4
 simp[akY _ a0]
structure kZ where
 k:Nat
 c:Nat
 body:List UInt8
 pad:Nat
def kZ.size(x:kZ):Nat:=4+x.body.length+x.pad
def kZ.ok(x:kZ):Prop:=x.k<=255/\x.c<=31/\x.body.length%4=0/\x.pad%4=0/\x.pad<=252/\x.size<=65535
def kZ.head(x:kZ):List UInt8:=Fh (decide (0<x.pad)) x.c x.k x.size
def kZ.bytes(x:kZ):List UInt8:=x.head++(x.body++trail x.pad)
theorem avO{n:Nat}(h:n<=255):(trail n).length=n:=(aga h).1
theorem kZ.len{x:kZ}(h:x.ok):x.bytes.length=x.size:=by
 unfold kZ.bytes kZ.head Fh kZ.size;simp only[cO,avO (show x.pad<=255 by have:=h.2.2.2.2.1;omega),bR,eB];omega
theorem apK(x:kZ)(h:x.ok):PC prog abF [(I64,.int (x.k:Nat)),(I64,.int (x.c:Nat)),(aV,B x.body),(I64,.int (x.pad:Nat))] [(aV,B x.bytes),(I64,.int 0)]:=by
 obtain⟨h1,h2,h3,h4,h5,h6⟩:=h;apply anW rfl;unfold kZ.size at h6;have e4:=(wV x.pad (by omega)).1;have e5:=(wV x.body.length (by omega)).1;simp only[ZO,aJ,aG,bD,e4,e5];refine⟨fun hc=>by omega,fun _=>⟨fun hc=>by omega,fun _=>⟨by omega,by omega,?_⟩⟩⟩;rw[show(4:Int)+(x.body.length:Int)+(x.pad:Int)=(x.size:Int) by unfold kZ.size;omega];have hs:x.size%4=0/\4<=x.size/\x.size<=65536:=by unfold kZ.size;omega
 refine⟨_,_,(show PC _ _ [(_,.ls [.bool (decide ((0:Int)<x.pad)),_,_,_])] _ from by
  rw[show(decide ((0:Int)<x.pad))=decide (0<x.pad) by simp];exact aos (decide (0<x.pad)) x.c x.k x.size h2 h1 hs.2.1 hs.2.2 hs.1),fun hc=>absurd rfl hc,fun _=>?_⟩
 have hj:=uo [x.head,x.body] (by simp) (by simp[kZ.head,Fh];omega);refine⟨_,hj,fun hp=>?_,fun hp=>?_⟩
 .have hp:x.pad=0:=by omega
  unfold kZ.bytes trail;rw[aC hp];simp
 have hl:(List.flatten [x.head,x.body]).length<=1000000:=by simp[kZ.head,Fh];omega
 refine⟨_,_,Sb (List.flatten [x.head,x.body]) x.pad (by omega) (by omega) hl,?_⟩;unfold kZ.bytes;simp
def kZ.zero:kZ:=⟨0,0,[],0⟩
def aCw(l:List kZ):List UInt8:=(l.map kZ.bytes).flatten
end Go.Vc
namespace Go.Vc
open Go Go.Proofs Go.Plain Go.RowKit Go.Shelf Tryz
attribute [local go_sem] Oper.semAt_some
theorem YD(b:List UInt8)(hb:b.length<=1000000):PC prog Y4 [(aV,B b)] [(.bool,.bool (decide (65528<b.length\/b.length%4≠0)))]:=by
 apply amA rfl;simp only[Yw,aJ,bD,(wV b.length hb).1];congr 3
 by_cases h1:65528<b.length<;>by_cases h2:b.length%4=0<;>simp[*]<;>omega
abbrev mU:Array Value:= #[.slice none 0 0,.bool false,.string ⟨#[]⟩]
abbrev aqr:FuncId:=114
abbrev BK:Sh:=.jc (.sl U32) (.jc .bool (.jc .str .je))
abbrev Ws:C:=.ls [.ls [],.bool false,.str []]
end Go.Vc
namespace Go.Vc
open Go Go.Proofs Go.Plain Tryz
def Ar.zero:Ar:=⟨0,0,0,[]⟩
abbrev yE:Sh:=.jc U32 (.jc .bool (.jc (.jc U64 (.jc U32 (.jc U32 (.jc U32 .je)))) (.jc (.sl (.jc U32 (.jc U8 (.jc I32 (.jc U32 (.jc U32 (.jc U32 (.jc U32 .je)))))))) (.jc aV .je))))
abbrev ReZ:C:=.ls [.int 0,.bool false,.ls [.int 0,.int 0,.int 0,.int 0],.ls [],.ls []]
abbrev yH:Sh:=.jc I64 (.jc U32 (.jc .str (.jc aV .je)))
abbrev ApZ:C:=.ls [.int 0,.int 0,.str [],.ls []]
abbrev lu:Sh:=.jc I64 (.jc U32 (.jc U32 (.jc (.sl (.jc U16 (.jc U16 .je))) (.jc uY (.jc (.sl (.jc U32 (.jc U8 .je))) (.jc wZ .je))))))
abbrev FeC(k:Int)(a:Ar)(r:Rm):C:=.ls [.int k,.int 0,.int 0,.ls [],AP a,.ls [],vk r]
abbrev mJ:Sh:=.jc I64 (.jc I64 (.jc yE (.jc (.sl (.jc U32 (.jc (.sl (.jc I64 (.jc .str .je))) .je))) (.jc BK (.jc yH (.jc lu (.jc I64 (.jc I64 (.jc aV .je)))))))))
abbrev RtC(k:Int)(p:Nat)(f:C):C:=.ls [.int k,.int (p:Nat),ReZ,.ls [],Ws,ApZ,f,.int 0,.int 0,.ls []]
abbrev IfT:Sh:=.dB 275 (.jc uY .je)
abbrev IfR:Sh:=.dB 278 (.jc wZ .je)
def ajR:List UInt8:=[0,0,0,0,0,0,0,0]
theorem zh(out:List UInt8)(v:Nat)(n:Int)(hv:v<18446744073709551616)(hn:n<=8)(ho:out.length<=10000000):PC prog Zu [(aV,B out),(U64,.int (v:Nat)),(I64,.int n)] [(aV,B (out++gH v n))]:=by
 apply amY rfl;simp only[QE,aJ,aG];have hl:=xV v n hn;refine⟨_,_,vC v n hv,by simp only[gU,bD];omega,?_⟩;simp[ofBytes]
theorem aed(s:Bool)(n:Int)(h:0<=n/\n<=1000000):PC prog ZA [(.bool,.bool s),(I64,.int n)] [(I64,.int (4+24*n+(if s then 20 else 0)))]:=by
 apply amN rfl;simp only[YM,aJ,aG];cases s<;>simp<;>omega
abbrev I6:Sh:=.jc U32 (.jc U8 (.jc I32 (.jc U32 (.jc U32 (.jc U32 (.jc U32 .je))))))
abbrev akZ:Sh:=.jc U64 (.jc U32 (.jc U32 (.jc U32 .je)))
structure Bl where
 a:Nat
 f:Nat
 l:Int
 b:Nat
 c:Nat
 d:Nat
 e:Nat
abbrev BlC(x:Bl):C:=.ls [.int (x.a:Nat),.int (x.f:Nat),.int x.l,.int (x.b:Nat),.int (x.c:Nat),.int (x.d:Nat),.int (x.e:Nat)]
def Bl.ok(x:Bl):Prop:=x.a<4294967296/\x.f<256/\(-2147483648<=x.l/\x.l<=2147483647)/\x.b<4294967296/\x.c<4294967296/\x.d<4294967296/\x.e<4294967296
theorem aBa{c:C}(h:Tm I6 c):∃x:Bl,c=BlC x/\x.ok:=by
 obtain⟨_,_,rfl,h1,t⟩:=h;obtain⟨_,_,rfl,h2,t⟩:=fQ t;obtain⟨_,_,rfl,h3,t⟩:=fQ t;obtain⟨_,_,rfl,h4,t⟩:=fQ t;obtain⟨_,_,rfl,h5,t⟩:=fQ t;obtain⟨_,_,rfl,h6,t⟩:=fQ t;obtain⟨_,_,rfl,h7,t⟩:=fQ t;obtain rfl:=sZ t;obtain⟨l,rfl,h3⟩:=h3;obtain⟨a,rfl,g1⟩:=om rfl h1;obtain⟨f,rfl,g2⟩:=om rfl h2;obtain⟨b,rfl,g4⟩:=om rfl h4;obtain⟨c,rfl,g5⟩:=om rfl h5;obtain⟨d,rfl,g6⟩:=om rfl h6;obtain⟨e,rfl,g7⟩:=om rfl h7;exact⟨⟨a,f,l,b,c,d,e⟩,rfl,g1,g2,h3,g4,g5,g6,g7⟩
structure Re where
 s:Nat
 w:Bool
 n:Nat
 t:Nat
 p:Nat
 o:Nat
 l:List C
 m:List UInt8
abbrev Em(x:Re):C:=.ls [.int (x.s:Nat),.bool x.w,.ls [.int (x.n:Nat),.int (x.t:Nat),.int (x.p:Nat),.int (x.o:Nat)],.ls x.l,B x.m]
def Re.ok(x:Re):Prop:=x.s<4294967296/\x.n<18446744073709551616/\x.t<4294967296/\x.p<4294967296/\x.o<4294967296/\Tm (.sl I6) (.ls x.l)/\x.m.length<=70000
theorem ajU{c:C}(h:Tm yE c):∃x:Re,c=Em x/\x.ok:=by
 obtain⟨_,_,rfl,h1,t⟩:=h;obtain⟨_,_,rfl,hw,t⟩:=fQ t;obtain⟨_,_,rfl,hs,t⟩:=fQ t;obtain⟨_,_,rfl,h6,t⟩:=fQ t;obtain⟨_,_,rfl,h7,t⟩:=fQ t;obtain rfl:=sZ t;obtain⟨w,rfl⟩:=hw;obtain⟨_,_,rfl,h2,u⟩:=hs;obtain⟨_,_,rfl,h3,u⟩:=fQ u;obtain⟨_,_,rfl,h4,u⟩:=fQ u;obtain⟨_,_,rfl,h5,u⟩:=fQ u;obtain rfl:=sZ u;obtain⟨s,rfl,g1⟩:=om rfl h1;obtain⟨n,rfl,g2⟩:=om rfl h2;obtain⟨i,rfl,g3⟩:=om rfl h3;obtain⟨p,rfl,g4⟩:=om rfl h4;obtain⟨o,rfl,g5⟩:=om rfl h5;obtain⟨m,rfl,g7⟩:=Vn h7;obtain⟨l,rfl,_⟩:=id h6;exact⟨⟨s,w,n,i,p,o,l,m⟩,rfl,g1,g2,g3,g4,g5,h6,g7⟩
theorem am5(x:Re)(h:x.ok):∃r:Bool,PC prog aat [(yE,Em x)] [(.bool,.bool r)]:=by
 obtain⟨h1,h2,h3,h4,h5,h6,h7⟩:=h;have hl:=Bt h6;obtain⟨rs,⟨r,rfl⟩,hp⟩:=tot (Post:=fun rs=>∃r:Bool,rs=[(.bool,.bool r)]) (cs:=[Em x]) anh rfl rfl (by
  simp only[Zf,aJ,bD];refine⟨fun _=>⟨_,rfl⟩,fun _=>?_⟩;refine VC.jw (fun i:Nat=> [.bool false,.int i]) (fun i=>i<=x.l.length) (fun i=>x.l.length-i) 0 rfl (cu _) fun i hi=>?_;simp only[aJ,aG,bD,dF];refine⟨fun hc=>⟨by omega,by omega,fun _=>⟨_,rfl⟩,fun _=>⟨by omega,i+1,rfl,by omega,by omega⟩⟩,fun hc=>⟨fun _=>⟨_,rfl⟩,fun _=>⟨_,aed x.w x.l.length (by omega),?_,⟨_,rfl⟩⟩⟩⟩;simp only[dV];split<;>omega)
 exact⟨r,hp⟩
theorem am4(x:Re)(h:x.ok):∃(b:List UInt8) (e:Int),PC prog aas [(yE,Em x)] [(aV,B b),(I64,.int e)]/\b.length<=8000000:=by
 obtain⟨r,hr⟩:=am5 x h;obtain⟨h1,h2,h3,h4,h5,h6,h7⟩:=h;have hl:=Bt h6;obtain⟨rs,⟨b,e,rfl,hb⟩,hp⟩:=tot (Post:=fun rs=>∃(b:List UInt8) (e:Int),rs=[(aV,B b),(I64,.int e)]/\b.length<=8000000) (cs:=[Em x]) ang rfl rfl (by
  simp only[Ze,aJ,aG];refine⟨_,hr,fun _=>⟨[],_,rfl,by decide⟩,fun _=>?_⟩;have w:∀n:Nat,n<18446744073709551616->IntKind.u64.wrap (n:Int)=(n:Int):=fun n hn=>by rw[nP];omega
  have P:∀(n:Nat) (k:Int),k<=8->(gH n k).length<=8:=fun n k hk=>xV n k hk;simp only[w x.s (by omega),w x.t (by omega),w x.p (by omega),w x.o (by omega)];have lp:∀(o:List UInt8),o.length<=40->∀(body:VC) (k:Nat),True:=fun _ _ _ _=>trivial;have q1:=P x.s 4 (by decide);have q2:=P x.n 8 (by decide);have q3:=P x.t 4 (by decide);have q4:=P x.p 4 (by decide);have q5:=P x.o 4 (by decide);have step:∀(i:Nat) (o:List UInt8),i<x.l.length->o.length<=40+60*i->∃y:Bl,x.l.getD i default=BlC y/\y.ok:=fun i o hi _=>aBa (Fv h6 hi);refine⟨_,zh [] x.s 4 (by omega) (by decide) (by decide),fun _=>⟨_,zh _ x.n 8 (by omega) (by decide) (by simp only[cO,eB];omega),_,zh _ x.t 4 (by omega) (by decide) (by simp only[cO,eB];omega),_,zh _ x.p 4 (by omega) (by decide) (by simp only[cO,eB];omega),_,zh _ x.o 4 (by omega) (by decide) (by simp only[cO,eB];omega),?_⟩,fun _=>?_⟩;all_goals
   refine VC.jw (fun s:Nat×List UInt8=> [B s.2,.int s.1]) (fun s=>s.1<=x.l.length/\s.2.length<=40+60*s.1) (fun s=>x.l.length-s.1) (0,_) rfl ⟨cu _,by simp only[cO,eB];omega⟩ fun s hi=>?_;obtain⟨i,o⟩:=s;simp only at hi;simp only[aJ,aG,dF,bD];refine⟨fun hc=>?_,fun hc=>?_⟩
   .obtain ⟨y,ey,a1,a2,a3,a4,a5,a6,a7⟩:=step i o (by omega) hi.2;have r1:=P y.a 4 (by decide);have r2:=P y.b 4 (by decide);have r3:=P y.c 4 (by decide);have r4:=P y.d 4 (by decide);have r5:=P y.e 4 (by decide);have r6:=OV y.l 3 (by decide);have r7: [C.int (y.f:Int)]=ofBytes [UInt8.ofNat y.f]:=OO _ a2;rw[ey];simp only[iP,jE,dV,w y.a (by omega),w y.b (by omega),w y.c (by omega),w y.d (by omega),w y.e (by omega),r7,lY (show-9223372036854775808<=y.l/\y.l<9223372036854775808 by omega)];refine⟨by omega,by omega,_,zh o y.a 4 (by omega) (by decide) (by omega),?_⟩;simp only[gU,bD,cO,bR,eB];refine⟨by omega,_,_,QC y.l 3 (by omega),?_⟩;simp only[gU,bD,AQ];refine⟨by omega,_,zh _ y.b 4 (by omega) (by decide) (by simp only[cO,bR,eB];omega),_,zh _ y.c 4 (by omega) (by decide) (by simp only[cO,bR,eB];omega),_,zh _ y.d 4 (by omega) (by decide) (by simp only[cO,bR,eB];omega),_,zh _ y.e 4 (by omega) (by decide) (by simp only[cO,bR,eB];omega),by omega,(i+1,_),rfl,⟨by omega,by simp only[cO,bR,eB];omega⟩,by simp only;omega⟩
   .refine ⟨by omega,o++x.m,0,?_,by simp only[cO];omega⟩;simp[ofBytes])
 exact⟨b,e,hp,hb⟩
theorem azY(n:Int):Tm U32 (.int (IntKind.u32.wrap n)):=EI .u32 n
theorem AV(b:List UInt8)(at_:Int)(hb:b.length<=70000):∃c,PC prog Zz [(aV,B b),(I64,.int at_)] [(U32,c)]/\Tm U32 c:=by
 refine⟨.int (IntKind.u32.wrap (mX b at_ 4:Nat)),amM rfl ?_,azY _⟩;simp only[YL,aJ,aG];exact⟨_,_,sP b at_ 4 (by omega),rfl⟩
theorem ar3(b:List UInt8)(at_:Int)(hb:b.length<=70000)(ha:0<=at_/\at_<=70000):∃c,PC prog YG [(aV,B b),(I64,.int at_)] [(akZ,c)]/\Tm akZ c:=by
 obtain⟨c1,p1,t1⟩:=AV b (at_+8) hb;obtain⟨c2,p2,t2⟩:=AV b (at_+12) hb;obtain⟨c3,p3,t3⟩:=AV b (at_+16) hb;have hv:=ahK b at_ 8;refine⟨.ls [.int (mX b at_ 8:Nat),c1,c2,c3],amn rfl ?_,_,_,rfl,⟨_,rfl,by simp[IntKind.min,IntKind.signed],by simp[IntKind.max,IntKind.signed,IntKind.bits];omega⟩,_,_,rfl,t1,_,_,rfl,t2,_,_,rfl,t3,rfl⟩;simp only[Yn,aJ,aG];exact⟨_,_,sP b at_ 8 (by omega),by omega,_,p1,by omega,_,p2,by omega,_,p3,rfl⟩
theorem adq(b:List UInt8)(at_:Int)(hb:b.length<=70000)(ha:0<=at_/\at_+24<=b.length):∃c,PC prog Y3 [(aV,B b),(I64,.int at_)] [(I6,c)]/\Tm I6 c:=by
 obtain⟨c0,p0,t0⟩:=AV b at_ hb;obtain⟨c1,p1,t1⟩:=AV b (at_+8) hb;obtain⟨c2,p2,t2⟩:=AV b (at_+12) hb;obtain⟨c3,p3,t3⟩:=AV b (at_+16) hb;obtain⟨c4,p4,t4⟩:=AV b (at_+20) hb;have hx:=(b.getD (at_+4).toNat 0).toNat_lt;refine⟨.ls [c0,.int ((b.getD (at_+4).toNat 0).toNat:Nat),.int (IntKind.i32.wrap (DJ b (at_+5) 3)),c1,c2,c3,c4],amy rfl ?_,_,_,rfl,t0,_,_,rfl,⟨_,rfl,by show(0:Int)<=_;omega,by show _<=(255:Int);omega⟩,_,_,rfl,EI .i32 _,_,_,rfl,t1,_,_,rfl,t2,_,_,rfl,t3,_,_,rfl,t4,rfl⟩;simp only[Yv,aJ,aG,bD,mR];exact⟨by omega,_,_,QM b (at_+5) 3 (by omega),_,p0,by omega,by omega,by omega,by omega,_,p1,by omega,_,p2,by omega,_,p3,by omega,_,p4,rfl⟩
theorem UZ{b:List UInt8}(h:b.length<=70000)(n:Nat):Tm aV (.ls (List.drop n (List.take b.length (ofBytes b)))):=by
 rw[<-FX];exact akD (by simp;omega)
theorem Br:Tm yE ReZ:=⟨_,_,rfl,⟨0,rfl,by decide,by decide⟩,_,_,rfl,⟨_,rfl⟩,_,_,rfl,⟨_,_,rfl,⟨0,rfl,by decide,by decide⟩,_,_,rfl,⟨0,rfl,by decide,by decide⟩,_,_,rfl,⟨0,rfl,by decide,by decide⟩,_,_,rfl,⟨0,rfl,by decide,by decide⟩,rfl⟩,_,_,rfl,iN _,_,_,rfl,iN _,rfl⟩
theorem anQ(s:Bool)(n:Int)(b:List UInt8)(hb:b.length<=70000):∃(c:C) (e:Int),PC prog abH [(.bool,.bool s),(I64,.int n),(aV,B b)] [(yE,c),(I64,.int e)]/\Tm yE c:=by
 obtain⟨rs,⟨c,e,rfl,hc⟩,hp⟩:=tot (Post:=fun rs=>∃(c:C) (e:Int),rs=[(yE,c),(I64,.int e)]/\Tm yE c) (cs:=[.bool s,.int n,B b]) anX rfl rfl (by
  simp only[ZP,aJ,aG,bD,(wV b.length (by omega)).1];refine⟨fun _=>⟨_,_,rfl,Br⟩,fun hn=>⟨fun _=>⟨_,_,rfl,Br⟩,fun hl=>⟨_,aed s n (by omega),fun _=>⟨_,_,rfl,Br⟩,fun hz=>?_⟩⟩⟩;obtain⟨c0,p0,t0⟩:=AV b 0 hb;simp only[dV]at hz;refine⟨_,p0,fun hs=>?_,fun hs=>?_⟩
  .subst hs;rw[aC rfl]at hz;obtain⟨c1,p1,t1⟩:=ar3 b 4 hb (by omega);obtain⟨_,_,rfl,u1,t⟩:=t1;obtain⟨_,_,rfl,u2,t⟩:=fQ t;obtain⟨_,_,rfl,u3,t⟩:=fQ t;obtain⟨_,_,rfl,u4,t⟩:=fQ t;obtain rfl:=sZ t;refine⟨_,p1,by omega,?_⟩;refine VC.jw (fun s:Nat×List C=> [.int (24+24*(s.1:Int)),.int s.1,.ls s.2]) (fun s=>(s.1:Int)<=n/\s.2.length=s.1/\Tm (.sl I6) (.ls s.2)) (fun s=>n.toNat-s.1) (0,[]) rfl ⟨by omega,rfl,iN _⟩ fun s hi=>?_;obtain⟨i,o⟩:=s;simp only at hi;simp only[aJ,aG,bD];refine⟨fun hc=>?_,fun hc=>⟨by omega,by omega,by omega,?_,?_⟩⟩
   .obtain ⟨cb,pb,tb⟩:=adq b (24+24*(i:Int)) hb (by omega);refine⟨_,pb,by simp;omega,by omega,by omega,(i+1,o++ [cb]),?_,⟨by omega,by simp;omega,Ku hi.2.2 tb (by omega)⟩,by simp only;omega⟩;simp;omega
   .simp;omega
   exact ⟨_,_,rfl,_,_,rfl,t0,_,_,rfl,⟨_,rfl⟩,_,_,rfl,⟨_,_,rfl,u1,_,_,rfl,u2,_,_,rfl,u3,_,_,rfl,u4,rfl⟩,_,_,rfl,hi.2.2,_,_,rfl,by rw[dF];exact UZ hb _,rfl⟩
  .subst hs;rw[zq (by decide)]at hz;refine VC.jw (fun s:Nat×List C=> [.int (4+24*(s.1:Int)),.int s.1,.ls s.2]) (fun s=>(s.1:Int)<=n/\s.2.length=s.1/\Tm (.sl I6) (.ls s.2)) (fun s=>n.toNat-s.1) (0,[]) rfl ⟨by omega,rfl,iN _⟩ fun s hi=>?_;obtain⟨i,o⟩:=s;simp only at hi;simp only[aJ,aG,bD];refine⟨fun hc=>?_,fun hc=>⟨by omega,by omega,by omega,?_,?_⟩⟩
   .obtain ⟨cb,pb,tb⟩:=adq b (4+24*(i:Int)) hb (by omega);refine⟨_,pb,by simp;omega,by omega,by omega,(i+1,o++ [cb]),?_,⟨by omega,by simp;omega,Ku hi.2.2 tb (by omega)⟩,by simp only;omega⟩;simp;omega
   .simp;omega
   .exact ⟨_,_,rfl,_,_,rfl,t0,_,_,rfl,⟨_,rfl⟩,_,_,rfl,⟨_,_,rfl,⟨0,rfl,by decide,by decide⟩,_,_,rfl,⟨0,rfl,by decide,by decide⟩,_,_,rfl,⟨0,rfl,by decide,by decide⟩,_,_,rfl,⟨0,rfl,by decide,by decide⟩,rfl⟩,_,_,rfl,hi.2.2,_,_,rfl,by rw[dF];exact UZ hb _,rfl⟩)
 exact⟨c,e,hp,hc⟩
theorem ajE{b:List UInt8}(h:uV b=0):IY b=MB (decide (at_ b 0/32%2=1)) (at_ b 0%32) (at_ b 1) (oq b)/\4<=oq b/\oq b<=b.length:=by
 refine⟨aC h,by unfold oq;omega,?_⟩;unfold uV at h;split at h
 .cases h
 split at h
 .cases h
 split at h
 .cases h
 omega
theorem aA9(p:Bool)(c k s:Nat)(hc:c<=255)(hk:k<=255)(hs:s<=70000):Tm BZ (MB p c k s):=
 ⟨_,_,rfl,⟨_,rfl⟩,_,_,rfl,nZ (by omega),_,_,rfl,nZ (by omega),_,_,rfl,nZ (by omega),rfl⟩
theorem U1:Tm BZ Mx:=⟨_,_,rfl,⟨_,rfl⟩,_,_,rfl,nZ (by omega),_,_,rfl,nZ (by omega),_,_,rfl,nZ (by omega),rfl⟩
theorem adp(b:List UInt8)(h4:4<=b.length)(hb:b.length<=70000):∃n e:Int,PC prog Zx [(aV,B b)] [(I64,.int n),(I64,.int e)]/\(0<=n/\n+4<=b.length/\n<=255):=by
 have ht:=OQ (b.drop 4);have hd:(b.drop 4).length=b.length-4:=by simp
 have hc:=Rv (b.drop 4) (by omega);rw[FX]at hc;have hr:=(wV (jR (b.drop 4)) (by omega)).1;generalize jR (b.drop 4)=t at*;by_cases hg:t=0\/t%4≠0
 .refine ⟨0,5,YC rfl ?_,by omega⟩;simp only[QF,aJ,aG,bD];refine⟨by omega,by omega,_,_,hc,?_⟩;simp only[dV,hr];refine⟨fun _=>trivial,fun h=>?_⟩;exfalso;split at h<;>omega
 refine ⟨t,0,YC rfl ?_,by omega⟩;simp only[QF,aJ,aG,bD];refine⟨by omega,by omega,_,_,hc,?_⟩;simp only[dV,hr];refine⟨fun h=>?_,fun _=>trivial⟩;exfalso;split at h<;>omega
theorem aw8(b:List UInt8)(hb:b.length<=70000):∃(c:C) (body:List UInt8) (n e:Int),PC prog acz [(aV,B b)] [(BZ,c),(aV,B body),(I64,.int n),(I64,.int e)]/\Tm BZ c/\body.length<=70000/\(0<=n/\n<=255):=by
 have hr:=aam b (by omega);obtain⟨rs,⟨c,body,n,e,rfl,hq⟩,hp⟩:=tot (Post:=fun rs=>∃(c:C) (body:List UInt8) (n e:Int),rs=[(BZ,c),(aV,B body),(I64,.int n),(I64,.int e)]/\Tm BZ c/\body.length<=70000/\(0<=n/\n<=255)) (cs:=[B b]) ao1 rfl rfl (by
  simp only[aaI,aJ,aG,bD];refine⟨_,_,hr,fun _=>⟨Mx,[],0,_,rfl,U1,by decide,by decide⟩,fun he=>?_⟩;obtain⟨h1,h2,h3⟩:=ajE (show uV b=0 from he);rw[h1];have hk:=gN b 1;have hco:=aA9 (decide (at_ b 0/32%2=1)) (at_ b 0%32) (at_ b 1) (oq b) (by omega) (by omega) (by omega);simp only[iP,jE,dV,lI];refine⟨fun _=>⟨Mx,[],0,_,rfl,U1,by decide,by decide⟩,fun hs=>⟨fun _=>?_,fun _=>?_⟩⟩
  .obtain ⟨t,et,pt,ht⟩:=adp b (by omega) hb;refine⟨_,_,pt,fun _=>⟨Mx,[],0,_,rfl,U1,by decide,by decide⟩,fun _=>?_⟩;simp only[dV];have hcut:C.ls (List.drop (Int.toNat 4) (List.take ((b.length:Int)-t).toNat (ofBytes b)))=B ((b.take ((b.length:Int)-t).toNat).drop 4):=by
    rw[wE,xL];rfl
   have hl:((b.take ((b.length:Int)-t).toNat).drop 4).length<=70000:=by simp;omega
   rw[hcut];refine⟨by omega,by omega,by omega,_,uo [(b.take ((b.length:Int)-t).toNat).drop 4] (by simp) (by simp;omega),_,_,_,_,rfl,hco,by simp;omega,by omega⟩
  .have hcut:C.ls (List.drop (Int.toNat 4) (List.take ((b.length:Int)-0).toNat (ofBytes b)))=B ((b.take ((b.length:Int)-0).toNat).drop 4):=by
    rw[wE,xL];rfl
   rw[hcut];refine⟨by omega,by omega,by omega,_,uo [(b.take ((b.length:Int)-0).toNat).drop 4] (by simp) (by simp;omega),_,_,_,_,rfl,hco,by simp;omega,by decide⟩)
 exact⟨c,body,n,e,hp,hq⟩
theorem avR(b:List UInt8)(hb:b.length<=70000):∃(l:List (List UInt8)) (e:Int),PC prog abE [(aV,B b)] [(.sl aV,Bs l),(I64,.int e)]/\l.length<=70000/\∀x∈l,x.length<=70000:=by
 obtain⟨rs,⟨l,e,rfl,hq⟩,hp⟩:=tot (Post:=fun rs=>∃(l:List (List UInt8)) (e:Int),rs=[(.sl aV,Bs l),(I64,.int e)]/\l.length<=70000/\∀x∈l,x.length<=70000) (cs:=[B b]) anV rfl rfl (by
  simp only[ZN,aJ,bD];refine⟨fun _=>⟨[],_,rfl,by decide,by simp⟩,fun _=>?_⟩;refine VC.jw (fun s:List UInt8×List (List UInt8)=> [B s.1,.ls [],.int 0,Bs s.2]) (fun s=>s.1.length+4*s.2.length<=b.length/\∀x∈s.2,x.length<=70000) (fun s=>s.1.length) (b,[]) rfl ⟨by simp,by simp⟩ fun s hi=>?_;obtain⟨r,o⟩:=s;simp only at hi;have hr:=aam r (by omega);simp only[aJ,aG,bD];refine⟨fun hc=>⟨_,_,hr,fun _=>⟨[],_,rfl,by decide,by simp⟩,fun he=>?_⟩,fun hc=>⟨o,0,rfl,by omega,hi.2⟩⟩;obtain⟨h1,h2,h3⟩:=ajE (show uV r=0 from he);rw[h1];simp only[iP,jE,dV,lI,dF,show Int.toNat 0=0 from rfl];have k1:List.drop (oq r) (List.take r.length (ofBytes r))=ofBytes (r.drop (oq r)):=by rw[wE,jQ,xL]
  have k2:List.drop 0 (List.take (oq r) (ofBytes r))=ofBytes (r.take (oq r)):=by rw[wE,xu]
  rw[k1,k2];have j:=uo [r.take (oq r)] (by simp) (by simp;omega);have jl:(List.flatten [r.take (oq r)]).length<=70000:=by simp;omega
  have inv:(r.drop (oq r)).length+4*(o++ [List.flatten [r.take (oq r)]]).length<=b.length/\∀x∈o++ [List.flatten [r.take (oq r)]],x.length<=70000:=by
   refine⟨by simp only[lW,cO,bR,eB];omega,fun x hx=>?_⟩;rcases zx.1 hx with hx|hx
   .exact hi.2 x hx
   .rw[sF]at hx;rw[hx];exact jl
  have ml:(r.drop (oq r)).length<r.length:=by simp;omega
  refine⟨by omega,by omega,by omega,by omega,by omega,fun _=>⟨fun _=>⟨[],_,rfl,by decide,by simp⟩,fun _=>?_⟩,fun _=>⟨_,j,by simp;omega,(_,_),by simp,inv,ml⟩⟩;obtain⟨t,et,pt,ht⟩:=adp (r.take (oq r)) (by simp;omega) (by simp;omega);exact⟨_,_,pt,fun _=>⟨[],_,rfl,by decide,by simp⟩,fun _=>⟨_,j,by simp;omega,(_,_),by simp,inv,ml⟩⟩)
 exact⟨l,e,hp,hq⟩
theorem O6{α:Type}{f:α->C}{P:α->Prop}:∀{l:List C},(∀x∈l,∃a,x=f a/\P a)->∃l':List α,l=l'.map f/\∀a∈l',P a
 | [],_=>⟨[],rfl,by simp⟩
 |x::l,h=>by
  obtain⟨a,rfl,ha⟩:=h x (by simp);obtain⟨l',rfl,hl⟩:=O6 (l:=l) fun y hy=>h y (List.mem_cons_of_mem _ hy);refine⟨a::l',rfl,fun b hb=>?_⟩;rcases iR.1 hb with rfl|hb
  .exact ha
  exact hl b hb
theorem aA7{c:C}(h:Tm Ma c):∃s:Sn,c=Gj s/\True:=by
 obtain⟨_,_,rfl,h1,t⟩:=h;obtain⟨_,_,rfl,h2,t⟩:=fQ t;obtain rfl:=sZ t;obtain⟨w,rfl,_⟩:=h1;obtain⟨d,rfl,_⟩:=h2;exact⟨⟨w,d⟩,rfl,trivial⟩
theorem ajZ{c:C}(h:Tm uY c):∃a:Ar,c=AP a/\a.ok:=by
 obtain⟨_,_,rfl,h1,t⟩:=h;obtain⟨_,_,rfl,h2,t⟩:=fQ t;obtain⟨_,_,rfl,h3,t⟩:=fQ t;obtain⟨_,_,rfl,h4,t⟩:=fQ t;obtain rfl:=sZ t;obtain⟨n,rfl,hn⟩:=om rfl h1;obtain⟨q,rfl,_⟩:=h2;obtain⟨m,rfl,hm⟩:=om rfl h3;obtain⟨l,rfl,_,hl⟩:=h4;obtain⟨l',rfl,_⟩:=O6 (f:=Gj) fun x hx=>aA7 (hl x hx);exact⟨⟨n,q,m,l'⟩,rfl,hn,hm⟩
theorem am8(a:Ar)(ho:a.ok):∃(b:List UInt8) (e:Int),PC prog QX [(uY,AP a)] [(aV,B b),(I64,.int e)]/\b.length<=70000:=by
 by_cases h:a.right
 .have:=(aAP h ho).2.2.1;exact⟨_,_,aow a h ho,by omega⟩
 refine ⟨[],1,Y0 rfl ?_,by decide⟩;simp only[QK,aJ,aG];refine⟨_,Zt a,fun _=>rfl,fun hc=>?_⟩;exfalso;simp[h]at hc
theorem aiM(b:List UInt8)(at_ n:Int): -9223372036854775808<=DJ b at_ n/\DJ b at_ n<=9223372036854775807:=by
 unfold DJ;split
 next e=>have h:=zi.1 e;have hv:=agM e;unfold Qn;rcases eight n ⟨h.1,h.2.1⟩with rfl|rfl|rfl|rfl|rfl|rfl|rfl|rfl<;>simp at hv |- <;>split<;>omega
 decide
def qW(l:List Nat):Nat:=(l.map fun n:Nat=>zZ (n:Int)).sum
theorem agf(l:List Nat)(i:Nat)(h:i<l.length):qW (l.take (i+1))=qW (l.take i)+zZ ((l.getD i 0:Nat):Int):=by
 unfold qW;rw[nM h,gW,List.sum_append];simp[List.getD,h]
theorem aiJ(l:List Nat)(i:Nat):qW (l.take i)<=qW l:=by
 have e:qW l=qW (l.take i)+qW (l.drop i):=by
  unfold qW;rw[<-List.sum_append,<-gW,D5]
 omega
theorem ayC(l:List Nat):qW l<=2*l.length:=by
 unfold qW;induction l with
 |nil=>simp
 |cons x l ih=>
  have:=Oj (x:Int);simp at ih |-;omega
theorem avQ(w:Nat)(b:List UInt8)(hb:b.length<=70000)(n:Nat)(h:n+zZ (w:Int)<=b.length):∃c,PC prog aaF [(I64,.int (w:Nat)),(aV,B b),(I64,.int (n:Nat))] [(I64,c)]/\Tm I64 c:=by
 by_cases h1:w=1
 .subst h1;have hx:=(b.getD n 0).toNat_lt;refine⟨.int (b.getD n 0).toNat,QG rfl ?_,nZ (by omega)⟩;have:zZ ((1:Nat):Int)=1:=rfl;simp only[ME,aJ,aG,bD,mR,dF];refine⟨fun _=>⟨by omega,by omega,by rw[lY (by omega)]⟩,fun h=>absurd rfl h⟩
 by_cases h2:w=2
 .subst h2;refine⟨.int (DJ b n 2),QG rfl ?_,nZ (aiM b n 2)⟩;simp only[ME,aJ,aG,bD,mR,dF];exact⟨fun h=>absurd h (by decide),fun _=>⟨fun _=>⟨_,_,QM b n 2 (by omega),rfl⟩,fun h=>absurd rfl h⟩⟩
 refine ⟨.int 0,QG rfl ?_,nZ (by decide)⟩;simp only[ME,aJ,aG];exact⟨fun h=>by omega,fun _=>⟨fun h=>by omega,fun _=>trivial⟩⟩
theorem Hw:Tm uY (.ls [.int 0,.int 0,.int 0,.ls []]):=⟨_,_,rfl,⟨0,rfl,by decide,by decide⟩,_,_,rfl,nZ (by decide),_,_,rfl,⟨0,rfl,by decide,by decide⟩,_,_,rfl,iN _,rfl⟩
theorem anS(b:List UInt8)(hb:b.length<=70000):∃(c:C) (e:Int),PC prog abU [(aV,B b)] [(uY,c),(I64,.int e)]/\Tm uY c:=by
 obtain⟨rs,⟨c,e,rfl,hc⟩,hp⟩:=tot (Post:=fun rs=>∃(c:C) (e:Int),rs=[(uY,c),(I64,.int e)]/\Tm uY c) (cs:=[B b]) aoh rfl rfl (by
  have Z:=Hw;simp only[aag,aJ,aG,bD,(wV b.length (by omega)).1];refine⟨fun _=>⟨_,_,rfl,Z⟩,fun hl=>⟨fun _=>⟨_,_,rfl,Z⟩,fun h8=>⟨_,_,sP b 2 2 (by omega),fun _=>⟨_,_,rfl,Z⟩,fun h4=>?_⟩⟩⟩;simp only[dV]at h4;have hnm:=am0 (b.drop 8) (by simp;omega);rw[FX]at hnm;have hok:Wx (nums (b.drop 8)):=by
   refine⟨by unfold nums;simp;omega,fun x hx=>?_⟩;obtain⟨i,_,rfl⟩:=gP.1 hx;exact agv _ _
  have hcr:=aq9 _ (mX b 2 2:Int) hok;refine⟨by omega,by omega,_,hnm,?_⟩;rw[dV,lY (by omega)];refine⟨_,_,_,hcr,fun _=>⟨_,_,rfl,Z⟩,fun he=>?_⟩;obtain⟨l,k,hk,hk2,hk3,hk4,hk5⟩:=aAH hok (show rE _=0 from he);have hkn:k<=35000:=by
   have:(nums (b.drop 8)).length<=35000:=by unfold nums;simp;omega
   omega
  have hs2:=ayC l;rw[hk];simp only[rL,rN,dV];refine⟨by omega,by omega,?_⟩;refine VC.jw (fun i:Nat=> [.int (qW (l.take i):Nat),.int i]) (fun i=>i<=l.length) (fun i=>l.length-i) 0 rfl (cu _) fun i hi=>?_;simp only[aJ,aG,bJ,dF,bD];refine⟨fun hc=>?_,fun hc=>?_⟩
  .have hil:i<l.length:=by omega
   have h1:=agf l i hil;have h2:=aiJ l i;have h3:=Oj ((l.getD i 0:Nat):Int);rw[RI _ _ hil];refine⟨by omega,by omega,_,aan _,by simp only[dV];omega,by omega,i+1,?_,by omega,by omega⟩;rw[h1];simp
  .have:i=l.length:=by omega
   subst this;rw[jQ];refine⟨by omega,fun _=>⟨_,_,rfl,Z⟩,fun hq=>⟨by omega,?_⟩⟩;rw[show(8:Int)+2*(k:Int)+(qW l:Int)=((8+2*k+qW l:Nat):Int) by omega];refine⟨_,aco (8+2*k+qW l) (by omega),fun _=>⟨_,_,rfl,Z⟩,fun hr=>⟨_,_,sP b 0 2 (by omega),_,_,QM b 4 3 (by omega),by omega,?_⟩⟩;refine VC.jw (fun s:Nat×List C=> [.int ((8+2*k+qW (l.take s.1):Nat):Int),.int s.1,.ls s.2]) (fun s=>s.1<=l.length/\s.2.length=s.1/\Tm (.sl Ma) (.ls s.2)) (fun s=>l.length-s.1) (0,[]) ?_ ⟨cu _,rfl,iN _⟩ fun s hi=>?_
   .simp only[kM];simp[qW]
   obtain⟨i,o⟩:=s;simp only at hi;simp only[aJ,aG,bJ,dF];refine⟨fun hc=>?_,fun hc=>?_⟩
   .have hil:i<l.length:=by omega
    have h1:=agf l i hil;have h2:=aiJ l (i+1);have h3:=Oj ((l.getD i 0:Nat):Int);have hw:=hk4 _ (Hg hil);rw[RI _ _ hil];obtain⟨d,pd,td⟩:=avQ (l.getD i 0) b hb (8+2*k+qW (l.take i)) (by omega);refine⟨by omega,by omega,_,pd,by simp;omega,_,aan _,by simp only[dV];omega,by omega,(i+1,o++ [.ls [.int (l.getD i 0:Nat),d]]),?_,⟨by omega,by simp;omega,Ku hi.2.2 ⟨_,_,rfl,nZ (by omega),_,_,rfl,td,rfl⟩ (by omega)⟩,by simp only;omega⟩;simp only[h1];simp;omega
   .refine ⟨_,_,rfl,_,_,rfl,EI .u16 _,_,_,rfl,nZ (aiM b 4 3),_,_,rfl,?_,_,_,rfl,hi.2.2,rfl⟩;have hx:=(b.getD (Int.toNat 7) 0).toNat_lt;rw[mR];refine⟨_,rfl,?_,?_⟩
    .show (0:Int)<=_;omega
    .show _<=(255:Int);omega)
 exact⟨c,e,hp,hc⟩
abbrev yF:Sh:=.jc U16 (.jc U16 .je)
abbrev xg:Sh:=.jc U32 (.jc U8 .je)
def Cn(n:Int):UInt8:=UInt8.ofNat (n%256).toNat
theorem Tx(n:Int):IntKind.u8.wrap n=((Cn n).toNat:Int):=by
 unfold Cn;rw[qK,zu];omega
theorem u64_in{v:Nat}(h:v<18446744073709551616):IntKind.u64.wrap (v:Int)=(v:Int):=by rw[nP];omega
theorem aoV(l:List C)(h:Tm (.sl yF) (.ls l)):∃(b:List UInt8) (e:Int),PC prog acX [(.sl yF,.ls l)] [(aV,B b),(I64,.int e)]/\b.length<=600000:=by
 have hl:=Bt h;obtain⟨rs,⟨b,e,rfl,hb⟩,hp⟩:=tot (Post:=fun rs=>∃(b:List UInt8) (e:Int),rs=[(aV,B b),(I64,.int e)]/\b.length<=600000) (cs:=[.ls l]) apr rfl rfl (by
  simp only[aa6,aJ,aG];refine⟨fun _=>⟨[],_,rfl,by decide⟩,fun _=>⟨by omega,by omega,by omega,?_⟩⟩;refine VC.jw (fun s:Nat×List UInt8=> [B s.2,.int s.1]) (fun s=>s.1<=l.length/\s.2.length=4*s.1) (fun s=>l.length-s.1) (0,[]) rfl ⟨cu _,rfl⟩ fun s hi=>?_;obtain⟨i,o⟩:=s;simp only at hi;simp only[aJ,aG,bD,dF,Tx];refine⟨fun hc=>⟨by omega,by omega,by simp;omega,by omega,(i+1,o++ [_,_,_,_]),by simp[ofBytes];exact⟨rfl,rfl,rfl,rfl⟩,⟨by omega,by simp;omega⟩,by simp only;omega⟩,fun _=>⟨o,0,rfl,by omega⟩⟩)
 exact⟨b,e,hp,hb⟩
theorem anR(l:List C)(h:Tm (.sl xg) (.ls l)):∃(b:List UInt8) (e:Int),PC prog abO [(.sl xg,.ls l)] [(aV,B b),(I64,.int e)]/\b.length<=600000:=by
 have hl:=Bt h;obtain⟨rs,⟨b,e,rfl,hb⟩,hp⟩:=tot (Post:=fun rs=>∃(b:List UInt8) (e:Int),rs=[(aV,B b),(I64,.int e)]/\b.length<=600000) (cs:=[.ls l]) an6 rfl rfl (by
  simp only[Z0,aJ,aG];refine⟨fun _=>⟨[],_,rfl,by decide⟩,fun hn=>⟨by omega,by omega,by omega,?_⟩⟩;refine VC.jw (fun s:Nat×List UInt8=> [B s.2,.int s.1]) (fun s=>s.1<=l.length/\s.2.length<=12*s.1) (fun s=>l.length-s.1) (0,[]) rfl ⟨cu _,aS _⟩ fun s hi=>?_;obtain⟨i,o⟩:=s;simp only at hi;simp only[aJ,aG,bD,dF];refine⟨fun hc=>?_,fun _=>⟨o,0,rfl,by omega⟩⟩;obtain⟨_,_,e,h1,t⟩:=Fv h (show i<l.length by omega);obtain⟨_,_,rfl,h2,t⟩:=fQ t;obtain rfl:=sZ t;obtain⟨v,rfl,hv⟩:=om rfl h1;obtain⟨s,rfl,hs⟩:=om rfl h2;have hv:v<4294967296:=hv;have hs:s<256:=hs;have hp:=xV v 4 (by decide);have hu:=OO s hs;rw[e];simp only[iP,jE,dV,u64_in (show v<18446744073709551616 by omega)];refine⟨by omega,by omega,_,_,vC v 4 (by omega),?_⟩;simp only[gU,bD];refine⟨by omega,by simp;omega,by omega,(i+1,o++(gH v 4++ [UInt8.ofNat s,0,0,0])),?_,⟨by omega,by simp;omega⟩,by simp only;omega⟩;have e4: [C.int (s:Int),C.int 0,C.int 0,C.int 0]=ofBytes [UInt8.ofNat s,0,0,0]:=by
   show C.int (s:Int)::_=_;rw[show ofBytes [UInt8.ofNat s,0,0,0]=ofBytes [UInt8.ofNat s]++ [C.int 0,C.int 0,C.int 0]from rfl,<-hu];rfl
  rw[e4];simp[ofBytes])
 exact⟨b,e,hp,hb⟩
theorem aBZ(n:Nat):arith .rem .i64 (n:Int) 8=((n%8:Nat):Int):=by rw[NA _ _ _ (by omega)];omega
theorem aoW(b:List UInt8)(hb:b.length<=70000):∃(c:C) (e:Int),PC prog ac0 [(aV,B b)] [(.sl xg,c),(I64,.int e)]/\Tm (.sl xg) c:=by
 obtain⟨rs,⟨c,e,rfl,hc⟩,hp⟩:=tot (Post:=fun rs=>∃(c:C) (e:Int),rs=[(.sl xg,c),(I64,.int e)]/\Tm (.sl xg) c) (cs:=[B b]) apu rfl rfl (by
  simp only[aa9,aJ,bD,aBZ];refine⟨fun _=>⟨_,_,rfl,iN _⟩,fun hl=>⟨fun _=>⟨_,_,rfl,iN _⟩,fun h0=>?_⟩⟩;refine VC.jw (fun s:Nat×List C=> [.ls s.2,.int (8*(s.1:Int))]) (fun s=>8*s.1<=b.length/\s.2.length=s.1/\Tm (.sl xg) (.ls s.2)) (fun s=>b.length-8*s.1) (0,[]) rfl ⟨cu _,rfl,iN _⟩ fun s hi=>?_;obtain⟨i,o⟩:=s;simp only at hi;simp only[aJ,aG,bD,mR];refine⟨fun hc=>?_,fun _=>⟨_,_,rfl,hi.2.2⟩⟩;have hx:=(b.getD (8*(i:Int)+4).toNat 0).toNat_lt;refine⟨_,_,sP b (8*(i:Int)) 4 (by omega),by omega,by omega,by omega,by simp;omega,by omega,(i+1,o++ [.ls [.int _,.int _]]),?_,⟨by omega,by simp;omega,Ku hi.2.2 ⟨_,_,rfl,EI .u32 (mX b (8*(i:Int)) 4:Nat),_,_,rfl,⟨((b.getD (8*(i:Int)+4).toNat 0).toNat:Int),rfl,by show(0:Int)<=_;omega,by show _<=(255:Int);omega⟩,rfl⟩ (by omega)⟩,by simp only;omega⟩;simp;omega)
 exact⟨c,e,hp,hc⟩
end Go.Vc
