/-
  Contracts of functions of the program, each out of its condition or by a walk, and plain lemmas.
-/
import Derived.Test.YtaehhpempnelhaaGreatDoorQVcs1
import Derived.Test.YtaehhpempnelhaaGreatDoorQTx8
import Derived.Test.YtaehhpempnelhaaGreatDoorQKe
import Derived.Test.YtaehhpempnelhaaGreatDoorQKf
import Derived.Test.YtaehhpempnelhaaGreatDoorQTx6
import Derived.Test.YtaehhpempnelhaaGreatDoorQBase3
set_option maxRecDepth 100000
namespace Go.Vc
open Go Go.Proofs Go.Plain
def Ar.zero:Ar:=⟨0,0,0,[]⟩
abbrev aeo:Sh:= .pair U32 (.pair .bool (.pair (.pair U64 (.pair U32 (.pair U32 (.pair U32 .unit)))) (.pair (.sl (.pair U32 (.pair U8 (.pair I32 (.pair U32 (.pair U32 (.pair U32 (.pair U32 .unit)))))))) (.pair aQ .unit))))
abbrev ReZ:C:= .ls [.int 0,.bool false,.ls [.int 0,.int 0,.int 0,.int 0],.ls [],.ls []]
abbrev aer:Sh:= .pair I64 (.pair U32 (.pair .str (.pair aQ .unit)))
abbrev ApZ:C:= .ls [.int 0,.int 0,.str [],.ls []]
abbrev uM:Sh:= .pair I64 (.pair U32 (.pair U32 (.pair (.sl (.pair U16 (.pair U16 .unit))) (.pair ru (.pair (.sl (.pair U32 (.pair U8 .unit))) (.pair wh .unit))))))
abbrev rJ(k:Int)(a:Ar)(r:Rm):C:= .ls [.int k,.int 0,.int 0,.ls [],rM a,.ls [],tJ r]
abbrev uL:Sh:= .pair I64 (.pair I64 (.pair aeo (.pair (.sl (.pair U32 (.pair (.sl (.pair I64 (.pair .str .unit))) .unit))) (.pair FM (.pair aer (.pair uM (.pair I64 (.pair I64 (.pair aQ .unit)))))))))
abbrev Qr(k:Int)(p:Nat)(f:C):C:= .ls [.int k,.int (p:Nat),ReZ,.ls [],Gb,ApZ,f,.int 0,.int 0,.ls []]
theorem TI:PC Tryz.prog RH [(aeo,ReZ)] [(.bool,.bool true)]:=by
 apply afo rfl;simp only[Rl,aH,aB,aA,ay,aC,forall_const];rfl
theorem Xm:PC Tryz.prog TU [(FM,Gb)] [(.bool,.bool true)]:=by
 apply af3 rfl;simp only[Sk,aH,aB,aA,ay,aC,forall_const];rfl
theorem Xn:PC Tryz.prog TV [(aer,ApZ)] [(.bool,.bool true)]:=by
 apply af4 rfl;simp only[Sl,aH,aB,aA,ay,aC,forall_const];rfl
theorem ajD:PC Tryz.prog SK [(uM,rJ 0 Ar.zero Rm.zero)] [(.bool,.bool true)]:=by
 apply afJ rfl;simp only[RP,aH,aB,aA,ay,aC,forall_const];rfl
theorem ah7(p:Nat):PC Tryz.prog GK [(uL,Qr 3 p (rJ 0 Ar.zero Rm.zero))] [(.bool,.bool true)]:=by
 apply TG rfl;simp only[KV,aH,aB,aA,ay,aC,forall_const];refine ⟨fun h=>?_,fun h=>⟨_,fun _=>TI,_,fun _=>Xm,_,fun _=>Xn,_,fun _=>ajD,?_⟩⟩
 .exact absurd h (by decide)
 .rfl
theorem TJ(p:Nat)(k:Int)(a:Ar)(r:Rm):PC Tryz.prog GK [(uL,Qr 5 p (rJ k a r))] [(.bool,.bool true)]:=by
 apply TG rfl;simp only[KV,aH,aB,aA,ay,aC,forall_const];refine ⟨fun h=>?_,fun h=>⟨_,fun _=>TI,_,fun _=>Xm,_,fun _=>Xn,.bool true,fun h=>?_,?_⟩⟩
 .exact absurd h (by decide)
 .exact absurd h (by decide)
 .rfl
theorem ajQ:PC Tryz.prog SV [(FM,Gb)] [(.bool,.bool true)]:=by
 apply afN rfl;simp only[RV,aH,aB,aA,ay,aC,forall_const];refine ⟨_,fun _=>akl [] (by decide),fun h=>?_,fun h=>?_⟩
 .exact absurd h (by decide+kernel)
 .rfl
theorem ajP:PC Tryz.prog SQ [(FM,Gb)] [(aQ,B []),(I64,.int 0)]:=by
 apply afM rfl;simp only[RU,aH,aB,aA,ay,aC,forall_const];refine ⟨_,ajQ,fun h=>(by cases h),fun _=>?_⟩;refine VC.go_loop (fun _:Unit=> [.ls [],.int 0]) (fun _=>True) (fun _=>0) () rfl trivial fun _ _=>?_;simp only[aH,aB,aA,ay,aC,forall_const];refine ⟨fun h=>absurd h (by decide),fun _=>⟨fun h=>(by cases h),_,LC [] (by decide),rfl⟩⟩
abbrev IfT:Sh:= .bP 275 (.pair ru .unit)
abbrev IfR:Sh:= .bP 278 (.pair wh .unit)
theorem amk(a:Ar):PC Tryz.prog LM [(uM,rJ 2 a Rm.zero)] [(IfT,.ls [rM a]),(.bool,.bool true)]:=by
 apply U1 rfl;simp only[Le,aH,aB,aA,ay,aC,forall_const];exact ⟨fun h=>absurd h (by decide),fun _ h=>absurd trivial h⟩
theorem aml(r:Rm):PC Tryz.prog LM [(uM,rJ 5 Ar.zero r)] [(IfR,.ls [tJ r]),(.bool,.bool true)]:=by
 apply U1 rfl;simp only[Le,aH,aB,aA,ay,aC,forall_const];refine ⟨fun h=>absurd h (by decide),fun _=>⟨fun h=>absurd h (by decide),fun _=>⟨fun h=>absurd h (by decide),fun _=>⟨fun h=>absurd h (by decide),fun _ h=>absurd trivial h⟩⟩⟩⟩
theorem als(a:Ar):PC Tryz.prog Ls [(uM,rJ 2 a Rm.zero)] [(.bool,.bool true)]:=by
 apply TH rfl;simp only[KX,aH,aB,aA,ay,aC,forall_const];refine ⟨fun h=>absurd h (by decide),fun _=>⟨fun h=>absurd h.1 (by decide),fun _=>⟨fun h=>absurd h (by decide),fun _=>rfl⟩⟩⟩
theorem alu(r:Rm):PC Tryz.prog Ls [(uM,rJ 5 Ar.zero r)] [(.bool,.bool true)]:=by
 apply TH rfl;simp only[KX,aH,aB,aA,ay,aC,forall_const];refine ⟨fun h=>absurd h (by decide),fun _=>⟨fun h=>absurd h (by decide),fun _=>⟨fun h=>absurd h (by decide),fun _=>rfl⟩⟩⟩
theorem agk(a:Ar)(h:a.right)(ho:a.ok):PC Tryz.prog QT [(.pair ru .unit,.ls [rM a])] [(aQ,B a.bytes),(I64,.int 0)]:=by
 apply afc rfl;simp only[QL,aH,aB,aA,ay,aC,forall_const];exact ⟨_,_,ahg a h ho,rfl⟩
theorem ai6(r:Rm)(h:r.right)(ho:r.ok):PC Tryz.prog Rj [(.pair wh .unit,.ls [tJ r])] [(aQ,B r.bytes),(I64,.int 0)]:=by
 apply afl rfl;simp only[Q6,aH,aB,aA,ay,aC,forall_const];have hw:=ai3 r ho;rw[JW,JV,if_pos h,if_pos h] at hw;exact ⟨_,_,hw,rfl⟩
def fZ:List UInt8:=[0,0,0,0,0,0,0,0]
theorem JY:dP 0 4=[0,0,0,0]:=by decide
theorem ag5(a:Ar)(h:a.right)(ho:a.ok):PC Tryz.prog Vm [(uM,rJ 2 a Rm.zero)] [(aQ,B (fZ++a.bytes)),(I64,.int 0)]:=by
 have hl:=Fb h ho;apply agO rfl;simp only[Tt,aH,aB,aA,ay,aC,forall_const];refine ⟨_,_,amk a,_,fun _=>als a,fun h=>absurd h (by decide),fun _=>⟨_,_,agk a h ho,fun h=>absurd rfl h,fun _=>⟨_,_,tK 0 4 (by decide),_,_,tK 0 4 (by decide),?_⟩⟩⟩;refine ⟨_,uX [dP 0 4,dP 0 4,a.bytes] (by simp) (by rw[JY];simp;omega),?_⟩;rw[JY];simp[fZ]
theorem ag6(r:Rm)(h:r.right)(ho:r.ok):PC Tryz.prog Vn [(uM,rJ 5 Ar.zero r)] [(aQ,B (fZ++r.bytes)),(I64,.int 0)]:=by
 have hl:=r.uY;have hs:=h.2.2.2;apply agP rfl;simp only[Tv,aH,aB,aA,ay,aC,forall_const];refine ⟨_,_,aml r,_,fun _=>alu r,fun h=>absurd h (by decide),fun _=>⟨_,_,ai6 r h ho,fun h=>absurd rfl h,fun _=>⟨_,_,tK 0 4 (by decide),_,_,tK 0 4 (by decide),?_⟩⟩⟩;refine ⟨_,uX [dP 0 4,dP 0 4,r.bytes] (by simp) (by rw[JY];simp;omega),?_⟩;rw[JY];simp[fZ]
theorem amm(a:Ar)(h:a.right)(ho:a.ok):PC Tryz.prog LP [(I64,.int 2),(aQ,B a.bytes)] [(IfT,.ls [rM a]),(I64,.int 0)]:=by
 apply U2 rfl;simp only[Lf,aH,aB,aA,ay,aC,forall_const];exact ⟨fun h=>absurd h (by decide),fun _=>⟨⟨_,_,aio a h ho,rfl⟩,fun h=>absurd trivial h⟩⟩
theorem amn(r:Rm)(h:r.right)(ho:r.ok):PC Tryz.prog LP [(I64,.int 5),(aQ,B r.bytes)] [(IfR,.ls [tJ r]),(I64,.int 0)]:=by
 have hl:=r.uY;have hs:=h.2.2.2;obtain ⟨b1,b2⟩:=Rm.back r h ho;have hr:=ajI r.bytes (by omega);rw[Gf,if_pos b1,b1,b2] at hr;apply U2 rfl;simp only[Lf,aH,aB,aA,ay,aC,forall_const];exact ⟨fun h=>absurd h (by decide),fun _=>⟨fun h=>absurd h (by decide),fun _=>⟨fun h=>absurd h (by decide),fun _=>⟨⟨_,_,hr,rfl⟩,fun h=>absurd trivial h⟩⟩⟩⟩
theorem aeg(r:List UInt8)(hr:r.length<=1000000):jT (fZ++r) 0 4=0/\jT (fZ++r) 4 4=0:=by
 have e0:kH (fZ++r).length 0 4=0:=by rw[vg];simp[fZ];omega
 have e4:kH (fZ++r).length 4 4=0:=by rw[vg];simp[fZ];omega
 unfold jT;rw[if_pos e0,if_pos e4];exact ⟨rfl,rfl⟩
theorem aek(r:List UInt8):C.ls (List.drop 8 (List.take (fZ++r).length (ofBytes (fZ++r))))=B r:=by
 rw[wT,eX,y9];rfl
theorem aic(a:Ar)(h:a.right)(ho:a.ok):PC Tryz.prog WE [(I64,.int 2),(aQ,B (fZ++a.bytes))] [(uM,rJ 2 a Rm.zero),(I64,.int 0)]:=by
 obtain ⟨l1,l2,l3,_⟩:=Fb h ho;have hl:(fZ++a.bytes).length=8+a.bytes.length:=by simp[fZ];omega
 obtain ⟨g1,g2⟩:=aeg a.bytes (by omega);apply ahS rfl;simp only[UL,aH,aB,aA,ay,aC,forall_const,bE,(qh (fZ++a.bytes).length (by omega)).1];refine ⟨_,_,_,GJ 2,fun h=>absurd h (by decide),fun _=>⟨fun h=>by omega,fun _=>⟨fun h=>by omega,fun _=>⟨by omega,by omega,?_⟩⟩⟩⟩;rw[bO,show Int.toNat 8=8 from rfl,aek];refine ⟨_,_,amm a h ho,fun h=>absurd rfl h,fun _=>⟨_,_,rP (fZ++a.bytes) 0 4 (by omega),_,_,rP (fZ++a.bytes) 4 4 (by omega),?_⟩⟩;rw[g1,g2];rfl
theorem aie(r:Rm)(h:r.right)(ho:r.ok):PC Tryz.prog WG [(I64,.int 5),(aQ,B (fZ++r.bytes))] [(uM,rJ 5 Ar.zero r),(I64,.int 0)]:=by
 have hb:=r.uY;have hs:=h.2.2.2;have hl:(fZ++r.bytes).length=8+r.bytes.length:=by simp[fZ];omega
 obtain ⟨g1,g2⟩:=aeg r.bytes (by omega);apply ahT rfl;simp only[UM,aH,aB,aA,ay,aC,forall_const,bE,(qh (fZ++r.bytes).length (by omega)).1];refine ⟨_,_,_,GJ 5,fun h=>absurd h (by decide),fun _=>⟨fun h=>by omega,fun _=>⟨fun h=>by omega,fun _=>⟨by omega,by omega,?_⟩⟩⟩⟩;rw[bO,show Int.toNat 8=8 from rfl,aek];refine ⟨_,_,amn r h ho,fun h=>absurd rfl h,fun _=>⟨_,_,rP (fZ++r.bytes) 0 4 (by omega),_,_,rP (fZ++r.bytes) 4 4 (by omega),?_⟩⟩;rw[g1,g2];rfl
inductive It where
 |lW
 |arr (a:Ar)
 |rat (r:Rm)
def It.k:It->Int| .lW=>3|_=>5
def It.p:It->Nat| .rat _=>8|_=>0
def It.fk:It->Int| .lW=>0| .arr _=>2| .rat _=>5
def It.a:It->Ar| .arr a=>a|_=>Ar.zero
def It.r:It->Rm| .rat r=>r|_=>Rm.zero
abbrev It.C(x:It):C:=Qr x.k x.p (rJ x.fk x.a x.r)
def It.ok:It->Prop| .lW=>True| .arr a=>a.right/\a.ok| .rat r=>r.right/\r.ok
def It.eO:It->bS| .lW=>⟨203,0,[],0⟩| .arr a=>⟨205,15,fZ++a.bytes,0⟩| .rat r=>⟨206,15,fZ++r.bytes,8⟩
theorem It.xL{x:It}(h:x.ok):x.eO.ok:=by
 cases x with
 |lW=>exact ⟨by decide,by decide,by decide,by decide,by decide,by decide⟩
 |arr a=>
  obtain ⟨l1,l2,l3,_⟩:=Fb h.1 h.2;have hl:(fZ++a.bytes).length=8+a.bytes.length:=by simp[fZ];omega
  refine ⟨by simp[It.eO],by simp[It.eO],?_,by simp[It.eO],by simp[It.eO],?_⟩
  .show (fZ++a.bytes).length%4=0;omega
  .show 4+(fZ++a.bytes).length+0<=65535;omega
 |rat r=>
  have hb:=r.uY;have hs:=h.1.2.2.2;have hl:(fZ++r.bytes).length=8+r.bytes.length:=by simp[fZ];omega
  refine ⟨by simp[It.eO],by simp[It.eO],?_,by simp[It.eO],by simp[It.eO],?_⟩
  .show (fZ++r.bytes).length%4=0;omega
  .show 4+(fZ++r.bytes).length+8<=65535;omega
theorem ai1(x:It):PC Tryz.prog GK [(uL,x.C)] [(.bool,.bool true)]:=by
 cases x with
 |lW=>exact ah7 0
 |arr a=>exact TJ 0 2 a Rm.zero
 |rat r=>exact TJ 8 5 Ar.zero r
theorem ai0(x:It)(h:x.ok):PC Tryz.prog Wd [(uL,x.C)] [(I64,.int (x.eO.k:Nat)),(I64,.int (x.eO.c:Nat)),(aQ,B x.eO.body),(I64,.int 0)]:=by
 apply ahA rfl;cases x with
 |lW=>
  simp only[Gz,It.k,It.p,It.fk,It.a,It.r,aH,aB,aA,ay,aC,forall_const];exact ⟨fun h=>absurd h (by decide),fun _=>⟨fun h=>absurd h (by decide),fun _=>⟨⟨_,_,ajP,rfl⟩,fun h=>absurd trivial h⟩⟩⟩
 |arr a=>
  simp only[Gz,It.k,It.p,It.fk,It.a,It.r,aH,aB,aA,ay,aC,forall_const];exact ⟨fun h=>absurd h (by decide),fun _=>⟨fun h=>absurd h (by decide),fun _=>⟨fun h=>absurd h (by decide),fun _=>⟨fun h=>absurd h (by decide),fun _=>⟨⟨_,_,_,GJ 2,fun h=>absurd h (by decide),fun _=>⟨_,_,ag5 a h.1 h.2,rfl⟩⟩,fun h=>absurd trivial h⟩⟩⟩⟩⟩
 |rat r=>
  simp only[Gz,It.k,It.p,It.fk,It.a,It.r,aH,aB,aA,ay,aC,forall_const];exact ⟨fun h=>absurd h (by decide),fun _=>⟨fun h=>absurd h (by decide),fun _=>⟨fun h=>absurd h (by decide),fun _=>⟨fun h=>absurd h (by decide),fun _=>⟨⟨_,_,_,GJ 5,fun h=>absurd h (by decide),fun _=>⟨_,_,ag6 r h.1 h.2,rfl⟩⟩,fun h=>absurd trivial h⟩⟩⟩⟩⟩
theorem It.pad(x:It):x.eO.pad=x.p:=by cases x<;>rfl
theorem ai2(x:It)(h:x.ok):PC Tryz.prog Wh [(uL,x.C)] [(aQ,B x.eO.bytes),(I64,.int 0)]:=by
 have hc:=It.xL h;have hp:=It.pad x;have hcl:=ah3 x.eO hc;rw[hp] at hcl;obtain ⟨c1,c2,c3,c4,c5,c6⟩:=hc;unfold bS.size at c6;rw[hp] at c4 c5 c6;apply ahB rfl;simp only[Us,aH,aB,aA,ay,aC,forall_const,(qh x.p (by omega)).1];refine ⟨_,fun _=>ai1 x,fun h=>?_,fun _=>?_⟩
 .exfalso;simp at h;omega
 refine VC.go_call (ai0 x h) (by simp only[dS,aB,aA,ay,aC,forall_const,eZ,jI]) rfl ?_;simp only[eZ,jI,jc,fJ,aH,aB,aA,ay,aC,forall_const,bE,(qh x.eO.body.length (by omega)).1];refine ⟨fun h=>?_,fun _=>⟨by omega,by omega,fun h=>?_,fun _=>⟨_,_,hcl,rfl⟩⟩⟩
 .exfalso;omega
 .exfalso;omega
theorem It.kind(x:It):kindOf (x.eO.k:Int) (x.eO.c:Int)=x.k:=by cases x<;>rfl
theorem ah6(f c:Int):PC Tryz.prog ajm [(I64,.int f),(I64,.int c)] [(I64,.int (kindOf f c))]:=by
 refine PC.oF (by decide) ⟨⟨_,Tryz.func111,by kernel_rfl,by kernel_rfl⟩,fun w N vs aL hrd=>?_⟩;obtain ⟨_,_,rfl,⟨_,rfl,rfl⟩,_,_,rfl,⟨_,rfl,rfl⟩,rfl⟩:=hrd;refine (akA w aL f c).mono ?_;rintro e w' ⟨rfl,hbe⟩;exact ⟨_,rfl,⟨[.int .i64 (kindOf f c)],⟨_,_,rfl,⟨_,rfl,rfl⟩,rfl⟩,rfl⟩,hbe⟩
theorem ajH(x:It)(h:x.ok):PC Tryz.prog Xx [(aQ,B x.eO.bytes)] [(uL,x.C),(I64,.int 0)]:=by
 have hc:=It.xL h;have hl:=bS.len hc;have hop:=aiX x.eO hc;have hk:=ah6 x.eO.k x.eO.c;rw[It.kind] at hk;have hs:=hc.2.2.2.2.2;apply aiI rfl;simp only[Vz,aH,aB,aA,ay,aC,forall_const,bE];refine ⟨fun h=>by omega,fun _=>?_⟩;refine VC.go_call hop rfl rfl ?_;simp only[eZ,jI,jc,fJ];cases x with
 |lW=>
  simp only[aH,aB,aA,ay,aC,forall_const];exact ⟨fun h=>absurd rfl h,_,hk,fun h=>absurd h (by decide),fun _=>⟨fun h=>absurd h (by decide),fun _=>⟨fun _=>⟨_,_,ags,fun h=>absurd rfl h,fun _=>rfl⟩,fun h=>absurd rfl h⟩⟩⟩
 |arr a=>
  simp only[aH,aB,aA,ay,aC,forall_const];refine ⟨fun h=>absurd rfl h,_,hk,fun h=>absurd h (by simp[It.k]),fun _=>⟨fun h=>absurd h (by simp[It.k]),fun _=>⟨fun h=>absurd h (by simp[It.k]),fun _=>⟨fun h=>absurd h (by simp[It.k]),fun _=>⟨fun _=>⟨_,VR 205 15,_,_,aic a h.1 h.2,fun h=>absurd rfl h,fun _=>rfl⟩,fun h=>absurd rfl h⟩⟩⟩⟩⟩
 |rat r=>
  simp only[aH,aB,aA,ay,aC,forall_const];exact ⟨fun h=>absurd rfl h,_,hk,fun h=>absurd h (by simp[It.k]),fun _=>⟨fun h=>absurd h (by simp[It.k]),fun _=>⟨fun h=>absurd h (by simp[It.k]),fun _=>⟨fun h=>absurd h (by simp[It.k]),fun _=>⟨fun _=>⟨_,VR 206 15,_,_,aie r h.1 h.2,fun h=>absurd rfl h,fun _=>rfl⟩,fun h=>absurd rfl h⟩⟩⟩⟩⟩
abbrev qw:Sh:= .pair I64 (.pair I64 (.pair I64 .unit))
abbrev Bc(x:dJ):C:= .ls [.int x.f,.int (x.p:Int),.int (x.s:Int)]
abbrev pI(l:List dJ):C:= .ls (l.map Bc)
theorem aoV(l:List dJ)(h:l.length≠0):(l.map Bc).getD ((l.length:Int)-1).toNat default=Bc (l.getLast (by intro e;rw[e] at h;exact h rfl))/\lg l=(l.getLast (by intro e;rw[e] at h;exact h rfl)).p+(l.getLast (by intro e;rw[e] at h;exact h rfl)).s:=by
 have hne:l≠[]:=by intro e;rw[e] at h;exact h rfl
 constructor
 .rw[show ((l.length:Int)-1).toNat=l.length-1 by omega,List.getLast_eq_getElem];simp[List.getD,show l.length-1<l.length by omega]
 .unfold lg;rw[List.getLast?_eq_some_getLast hne]
theorem nL(l:List dJ)(f:Int)(n:Nat)(hl:l.length<=1000)(he:lg l<=1000000)(hn:n<=1000000):PC Tryz.prog Xt [(.sl qw,pI l),(I64,.int f),(.sl I64,.ls [.int (n:Int)])] [(.sl qw,pI (fH l f n))]:=by
 apply aiV rfl;simp only[Lc,aH,aB,aA,ay,aC,forall_const,aT,bn,zy];refine ⟨fun h=>?_,fun h=>?_⟩
 .obtain ⟨g1,g2⟩:=aoV l (by omega);rw[g1];refine ⟨by omega,by omega,by omega,by simp only[gJ,gX,bU];omega,?_⟩;refine VC.go_loop (fun i:Nat=> [pI (if i=0 then l else fH l f n),.int ((if i=0 then lg l else lg l+n:Nat):Int),.int (i:Int)]) (fun i=>i<=1) (fun i=>1-i) 0 ?_ (bK _) fun i hi=>?_
  .simp only[aB,aA,ay,aC,forall_const,aT,g1,if_true,g2];rw[<-Int.natCast_add];rfl
  .simp only[aH,aB,aA,ay,aC,forall_const,aT,bn,zy];refine ⟨fun hc=>?_,fun hc=>?_⟩
   .have h0:i=0:=by omega
    subst h0;have e0:List.getD [C.int (n:Int)] (((0:Nat):Int)).toNat default= .int (n:Int):=rfl;simp only[if_true,e0,bU];refine ⟨by omega,by omega,fun h2=>⟨by omega,by omega,by omega,1,?_,by omega,by omega⟩,fun h2=>⟨by omega,1,?_,by omega,by omega⟩⟩
    .unfold fH;rw[if_neg (by omega),if_neg (by omega),if_neg (by omega)];simp
    .have:n=0:=by omega
     subst this;rfl
   .have h1:i=1:=by omega
    subst h1;rfl
 .have hl0:l=[]:=jH (by omega);subst hl0;refine VC.go_loop (fun i:Nat=> [pI (if i=0 then [] else fH [] f n),.int ((if i=0 then lg [] else lg []+n:Nat):Int),.int (i:Int)]) (fun i=>i<=1) (fun i=>1-i) 0 ?_ (bK _) fun i hi=>?_
  .rfl
  .simp only[aH,aB,aA,ay,aC,forall_const,aT,bn,zy];refine ⟨fun hc=>?_,fun hc=>?_⟩
   .have h0:i=0:=by omega
    subst h0;have e0:List.getD [C.int (n:Int)] (((0:Nat):Int)).toNat default= .int (n:Int):=rfl;simp only[if_true,e0,bU];refine ⟨by omega,by omega,fun h2=>⟨by omega,by omega,by omega,1,?_,by omega,by omega⟩,fun h2=>⟨by omega,1,?_,by omega,by omega⟩⟩
    .unfold fH;rw[if_neg (by omega),if_neg (by omega),if_neg (by omega)];simp
    .have:n=0:=by omega
     subst this;rfl
   .have h1:i=1:=by omega
    subst h1;rfl
theorem U9(l:List dJ)(f:Int)(hl:l.length<=100000):PC Tryz.prog Wu [(.sl qw,pI l),(I64,.int f),(I64,.int 0)] [(qw,Bc ((fF l f).getD dJ.zero)),(I64,.int (if (fF l f).isSome then 0 else 8))]:=by
 apply ahL rfl;simp only[UD,aH,aB,aA,ay,aC,forall_const,aT];refine ⟨fun h=>by omega,fun _=>?_⟩;refine VC.go_loop (fun i:Nat=> [.int 0,.int 0,.int (i:Int),.int 0,.int 0,.int 0]) (fun i=>i<=l.length/\fF l f=fF (l.drop i) f) (fun i=>l.length-i) 0 rfl ⟨bK _,rfl⟩ fun i hi=>?_;obtain ⟨i1,i2⟩:=hi;simp only[aH,aB,aA,ay,aC,forall_const,aT];refine ⟨fun hc=>?_,fun hc=>?_⟩
 .have hk:i<l.length:=by omega
  have hg:(l.map Bc).getD (i:Int).toNat default=Bc l[i]:=by simp[List.getD,hk]
  have hd:l.drop i=l[i]::l.drop (i+1):=uP hk;rw[hg];rw[hd] at i2;unfold fF at i2;rw[List.find?_cons] at i2;refine ⟨by omega,by omega,fun h=>⟨by omega,i+1,by simp,⟨by omega,?_⟩,by omega⟩,fun h=>⟨?_,fun h=>absurd trivial h⟩⟩
  .have h:l[i].f≠f:=h;rw[decide_eq_false h] at i2;exact i2
  .have h:l[i].f=f:=h;rw[decide_eq_true h] at i2;have i2:fF l f=some l[i]:=i2;rw[i2];rfl
 .have:i=l.length:=by omega
  subst this;rw[List.drop_length] at i2;rw[i2];rfl
theorem zX{l:List dJ}{a c:Nat}(h:l.length<=a/\lg l<=c)(f:Int)(n:Nat):(fH l f n).length<=a+1/\lg (fH l f n)<=c+n:=by
 have:=xw l f n;rw[MK];omega
theorem akm(b:List UInt8)(hb:b.length<=1000000):PC Tryz.prog Yy [(aQ,B b)] [(.sl qw,pI (if cZ b=0 then placesOf (bG b) else [])),(I64,.int (cZ b))]:=by
 apply ajB rfl;simp only[WZ,aH,aB,aA,ay,aC,forall_const];refine ⟨_,_,Dn b hb,fun he=>?_,fun he=>?_⟩
 .have he:cZ b≠0:=he;rw[if_neg he];rfl
 .have he:cZ b=0:=he;rw[if_pos he];have hk:jR b=bG b:=if_pos he;obtain ⟨hr,ho,_⟩:=Pk.same b he;rw[hk];generalize bG b=k at hr ho;obtain ⟨⟨⟨_,_,r3⟩,f2,f3,f4,f5⟩,f6⟩:=hr;unfold Pk.sum at f6;have z0:([]:List dJ).length=0:=rfl;have zz:lg []=0:=rfl;refine ⟨_,nL [] 1 1 (by decide) (by decide) (by decide),_,nL _ 2 1 (by decide) (by decide) (by decide),_,nL _ 3 2 (by decide) (by decide) (by decide),_,nL _ 4 4 (by decide) (by decide) (by decide),_,nL _ 5 4 (by decide) (by decide) (by decide),?_⟩;refine VC.go_loop (fun i:Nat=> [pI (iG i iD),.int (i:Int)]) (fun i=>i<=k.hd.bD.length) (fun i=>k.hd.bD.length-i) 0 rfl (bK _) fun i hi=>?_;obtain ⟨c1,c2,_⟩:=Hg i iD;have e5:lg iD=12:=rfl;have n5:iD.length=5:=rfl;rw[e5] at c1;rw[n5] at c2;have hns:∀l:List Nat,(Ns l).toList.length=l.length:=fun l=>by simp[Ns]
  simp only[aH,aB,aA,ay,aC,forall_const,hns,aT,bE];refine ⟨fun hc=>?_,fun hc=>?_⟩
  .exact ⟨_,nL _ 6 4 (by omega) (by omega) (by decide),by omega,i+1,rfl,by omega,by omega⟩
  .have hi2:i=k.hd.bD.length:=by omega
   subst hi2;have a0:(iG k.hd.bD.length iD).length<=100/\lg (iG k.hd.bD.length iD)<=100:=by omega
   refine ⟨fun hx=>?_,fun hx=>?_⟩
   .rw[if_pos hx] at f6;have hX:o8 k (iG k.hd.bD.length iD)=fH (fH (fH (iG k.hd.bD.length iD) 7 2) 8 2) 9 k.ext.length:=if_pos hx;have a1:=zX a0 7 2;have a2:=zX a1 8 2;have a3:=zX a2 9 k.ext.length;have a4:=zX a3 10 k.pay.length;have hP:placesOf k=uK k (fH (o8 k (iG k.hd.bD.length iD)) 10 k.pay.length):=rfl;rw[hX] at hP;refine ⟨_,nL _ 7 2 (by omega) (by omega) (by decide),_,nL _ 8 2 (by omega) (by omega) (by decide),_,nL _ 9 k.ext.length (by omega) (by omega) (by omega),_,nL _ 10 k.pay.length (by omega) (by omega) (by omega),fun hp=>?_,fun hp=>?_⟩
    .rw[if_pos hp] at f5;have ep:(k.pad:Int)-1=((k.pad-1:Nat):Int):=by omega
     have a5:=zX a4 11 (k.pad-1);rw[ep];refine ⟨by omega,_,nL _ 11 (k.pad-1) (by omega) (by omega) (by omega),_,nL _ 12 1 (by omega) (by omega) (by decide),?_⟩;rw[hP,he];unfold uK;rw[if_pos hp]
    .rw[hP,he];unfold uK;rw[if_neg (by rw[hp];decide)]
   .have hX:o8 k (iG k.hd.bD.length iD)=iG k.hd.bD.length iD:=if_neg (by rw[hx];decide);have a4:=zX a0 10 k.pay.length;have hP:placesOf k=uK k (fH (o8 k (iG k.hd.bD.length iD)) 10 k.pay.length):=rfl;rw[hX] at hP;refine ⟨_,nL _ 10 k.pay.length (by omega) (by omega) (by omega),fun hp=>?_,fun hp=>?_⟩
    .rw[if_pos hp] at f5;have ep:(k.pad:Int)-1=((k.pad-1:Nat):Int):=by omega
     have a5:=zX a4 11 (k.pad-1);rw[ep];refine ⟨by omega,_,nL _ 11 (k.pad-1) (by omega) (by omega) (by omega),_,nL _ 12 1 (by omega) (by omega) (by decide),?_⟩;rw[hP,he];unfold uK;rw[if_pos hp]
    .rw[hP,he];unfold uK;rw[if_neg (by rw[hp];decide)]
end Go.Vc
